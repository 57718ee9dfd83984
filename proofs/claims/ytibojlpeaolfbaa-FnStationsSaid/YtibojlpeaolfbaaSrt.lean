/- Plain: frames put in order, one after another; entries of rows of frames. -/
import Derived.Test.YtibojlpeaolfbaaFrT
import Derived.Sort.WalkA
import Derived.Sort.Lot0
namespace Go.Proofs.Ytibojlpeaolfbaa
open Go Go.RowKit
open Go.Sort (swp insInner insOuter insertionSort)
section
variable {α : Type} (lt : α → α → Bool)
def insRev (x : α) : List α → List α
  | [] => [x]
  | y :: r => if lt x y then y :: insRev x r else x :: y :: r
/-- A thing put into a list, behind all that are not greater. -/
def insR (x : α) (L : List α) : List α := (insRev lt x L.reverse).reverse
theorem insR_nil (x : α) : insR lt x [] = [x] := rfl
theorem insR_snoc (x y : α) (A : List α) : insR lt x (A ++ [y]) = if lt x y then insR lt x A ++ [y] else A ++ [y] ++ [x] := by
  unfold insR
  rw [List.reverse_append]
  show (insRev lt x (y :: A.reverse)).reverse = _
  rw [insRev]
  by_cases h : lt x y = true
  · rw [if_pos h, if_pos h]; simp
  · rw [if_neg h, if_neg h]; simp
theorem insRev_length (x : α) (L : List α) : (insRev lt x L).length = L.length + 1 := by
  induction L with
  | nil => rfl
  | cons y r ih => rw [insRev]; split <;> simp [ih]
theorem insR_length (x : α) (L : List α) : (insR lt x L).length = L.length + 1 := by
  unfold insR; rw [List.length_reverse, insRev_length, List.length_reverse]
theorem insRev_mem (x z : α) (L : List α) : z ∈ insRev lt x L ↔ z = x ∨ z ∈ L := by
  induction L with
  | nil => simp [insRev]
  | cons y r ih =>
    rw [insRev]
    split
    · simp only [List.mem_cons, ih]
      constructor
      · rintro (h | h | h) <;> simp [h]
      · rintro (h | h | h) <;> simp [h]
    · simp
theorem insR_mem (x z : α) (L : List α) : z ∈ insR lt x L ↔ z = x ∨ z ∈ L := by
  unfold insR; rw [List.mem_reverse, insRev_mem, List.mem_reverse]
theorem insRev_map {β : Type} (g : α → β) (lt2 : β → β → Bool) (hg : ∀ x y, lt2 (g x) (g y) = lt x y) (x : α) (L : List α) : (insRev lt x L).map g = insRev lt2 (g x) (L.map g) := by
  induction L with
  | nil => rfl
  | cons y r ih =>
    rw [insRev, List.map_cons, insRev, hg]
    by_cases h : lt x y = true
    · rw [if_pos h, if_pos h, List.map_cons, ih]
    · rw [if_neg h, if_neg h]; rfl
theorem insR_map {β : Type} (g : α → β) (lt2 : β → β → Bool) (hg : ∀ x y, lt2 (g x) (g y) = lt x y) (x : α) (L : List α) : (insR lt x L).map g = insR lt2 (g x) (L.map g) := by
  unfold insR
  rw [List.map_reverse, insRev_map lt g lt2 hg, List.map_reverse]
/-- All of a list, one after another. -/
def insAll : List α → List α → List α
  | acc, [] => acc
  | acc, x :: r => insAll (insR lt x acc) r
theorem insAll_snoc (acc L : List α) (x : α) : insAll lt acc (L ++ [x]) = insR lt x (insAll lt acc L) := by
  induction L generalizing acc with
  | nil => rfl
  | cons y r ih => exact ih _
theorem insAll_map {β : Type} (g : α → β) (lt2 : β → β → Bool) (hg : ∀ x y, lt2 (g x) (g y) = lt x y) (acc L : List α) : (insAll lt acc L).map g = insAll lt2 (acc.map g) (L.map g) := by
  induction L generalizing acc with
  | nil => rfl
  | cons x r ih =>
    show (insAll lt (insR lt x acc) r).map g = insAll lt2 (insR lt2 (g x) (acc.map g)) (r.map g)
    rw [ih, insR_map lt g lt2 hg]
theorem insAll_mem (acc L : List α) (z : α) : z ∈ insAll lt acc L ↔ z ∈ acc ∨ z ∈ L := by
  induction L generalizing acc with
  | nil => simp [insAll]
  | cons x r ih =>
    show z ∈ insAll lt (insR lt x acc) r ↔ _
    rw [ih, insR_mem, List.mem_cons]
    constructor
    · rintro ((h | h) | h) <;> simp [h]
    · rintro (h | h | h) <;> simp [h]
theorem insAll_length (acc L : List α) : (insAll lt acc L).length = acc.length + L.length := by
  induction L generalizing acc with
  | nil => rfl
  | cons x r ih =>
    show (insAll lt (insR lt x acc) r).length = _
    rw [ih, insR_length, List.length_cons]; omega

variable [Inhabited α]
theorem swp_back (A B : List α) (x y : α) (d : Array α) (h : d.toList = A ++ y :: x :: B) : (swp d (A.length + 1) A.length).toList = A ++ x :: y :: B := by
  have hs : d.size = A.length + (B.length + 2) := by rw [← Array.length_toList, h]; simp
  have h0 : d[A.length]! = y := by
    rw [getElem!_pos d A.length (by omega), ← Array.getElem_toList]
    simp [h]
  have h1 : d[A.length + 1]! = x := by
    rw [getElem!_pos d (A.length + 1) (by omega), ← Array.getElem_toList]
    simp [h]
  unfold swp
  rw [h0, h1, Array.toList_setIfInBounds, Array.toList_setIfInBounds, h]
  rw [List.set_append_right _ _ (by omega), List.set_append_right _ _ (by omega)]
  rw [show A.length + 1 - A.length = 1 by omega, Nat.sub_self]
  rfl
theorem insInner_is (j : Nat) (A B : List α) (x : α) (d : Array α) (hj : A.length = j) (h : d.toList = A ++ x :: B) : (insInner lt 0 j d).toList = insR lt x A ++ B := by
  induction j generalizing A B d with
  | zero =>
    obtain rfl := List.eq_nil_of_length_eq_zero hj
    rw [insInner, h]; rfl
  | succ j ih =>
    obtain ⟨A', y, rfl⟩ : ∃ A' y, A = A' ++ [y] := ⟨A.dropLast, A.getLast (by intro e; subst e; simp at hj), (List.dropLast_concat_getLast _).symm⟩
    have hA : A'.length = j := by simpa using hj
    have hs : d.size = j + 1 + (B.length + 1) := by rw [← Array.length_toList, h]; simp; omega
    have h0 : d[j]! = y := by
      rw [getElem!_pos d j (by omega), ← Array.getElem_toList]
      simp [h, ← hA]
    have h1 : d[j + 1]! = x := by
      rw [getElem!_pos d (j + 1) (by omega), ← Array.getElem_toList]
      simp [h, ← hA]
    rw [insInner, h0, h1, insR_snoc]
    by_cases hl : lt x y = true
    · rw [if_pos hl, if_pos (by simp [hl])]
      rw [ih A' (y :: B) _ hA (by rw [← hA]; exact swp_back A' B x y d (by rw [h]; simp))]
      simp
    · rw [if_neg hl, if_neg (by simp [hl]), h]
      simp
theorem insOuter_is (k i : Nat) (d0 : List α) (acc : List α) (d : Array α) (hk : d0.length = i + k) (hi : acc.length = i) (h : d.toList = acc ++ d0.drop i) (ha : acc = insAll lt [] (d0.take i)) :
    (insOuter lt 0 d0.length i d).toList = insAll lt [] d0 := by
  induction k generalizing i acc d with
  | zero =>
    rw [insOuter, if_neg (by omega), h, ha, show i = d0.length by omega]
    simp
  | succ k ih =>
    have hlt : i < d0.length := by omega
    rw [insOuter, if_pos hlt]
    have hd : d0.drop i = d0[i] :: d0.drop (i + 1) := List.drop_eq_getElem_cons hlt
    have h1 := insInner_is lt i acc (d0.drop (i + 1)) d0[i] d hi (by rw [h, hd])
    refine ih (i + 1) _ _ (by omega) (by rw [insR_length, hi]) h1 ?_
    rw [List.take_add_one, List.getElem?_eq_getElem hlt]
    show _ = insAll lt [] (d0.take i ++ [d0[i]])
    rw [insAll_snoc, ← ha]
theorem insertionSort_is (d : Array α) : (insertionSort lt d 0 d.size).toList = insAll lt [] d.toList := by
  unfold insertionSort
  cases hd : d.toList with
  | nil =>
    have hs : d.size = 0 := by rw [← Array.length_toList, hd]; rfl
    rw [insOuter, if_neg (by omega), hd]; rfl
  | cons x r =>
    have hs : d.size = (x :: r).length := by rw [← Array.length_toList, hd]
    rw [hs]
    exact insOuter_is lt r.length 1 (x :: r) [x] d (by simp; omega) rfl (by rw [hd]; rfl) rfl
end

def ltF (x y : FM) : Bool := decide (x.st < y.st) || (decide (x.st = y.st) && decide (x.sa < y.sa))
def sortF (Fs : List FM) : List FM := insAll ltF [] Fs
/-- The frames of a station, in order. -/
def ofF (Fs : List FM) (s : Int) : List FM := (sortF Fs).filter fun f => decide (f.st = s)

/-- What stands in the cells of a frame. -/
structure FE where
  f : FM
  a : Option Addr
  c : Nat
instance : Inhabited FE := ⟨⟨default, none, 0⟩⟩
def FE.tr (e : FE) : Value := .slice e.a e.f.L.length e.c
def encE (e : FE) : List Value := [.int .i64 e.f.st, .int .i64 e.f.sa, e.tr]
def ltE (x y : FE) : Bool := ltF x.f y.f
theorem encE_length (e : FE) : (encE e).length = 3 := rfl
theorem encE_one (e : FE) : ∀ v ∈ encE e, v.oneCell' = true := by
  intro v hv
  simp only [encE, List.mem_cons, List.not_mem_nil, or_false] at hv
  rcases hv with rfl | rfl | rfl <;> rfl
def feAt (Es : List FE) (j : Nat) : FE := Es.getD j default
def encEs (Es : List FE) : List Value := Es.flatMap encE
theorem encEs_append (A B : List FE) : encEs (A ++ B) = encEs A ++ encEs B := List.flatMap_append
theorem encEs_one1 (e : FE) : encEs [e] = encE e := by simp [encEs]
theorem encEs_length (Es : List FE) : (encEs Es).length = Es.length * 3 := by
  induction Es with
  | nil => rfl
  | cons e Es ih =>
    show (encE e ++ encEs Es).length = _
    rw [List.length_append, ih, encE_length, List.length_cons]; omega
theorem encEs_onecell (Es : List FE) : ∀ v ∈ encEs Es, v.oneCell' = true := by
  intro v hv
  obtain ⟨e, -, he⟩ := List.mem_flatMap.1 hv
  exact encE_one e v he
theorem encEs_at (Es : List FE) (j i : Nat) (hj : j < Es.length) (hi : i < 3) : (encEs Es)[j * 3 + i]? = (encE (feAt Es j))[i]? := by
  induction Es generalizing j with
  | nil => cases hj
  | cons e Es ih =>
    show (encE e ++ encEs Es)[j * 3 + i]? = _
    cases j with
    | zero => rw [Nat.zero_mul, Nat.zero_add, List.getElem?_append_left (by rw [encE_length]; exact hi)]; rfl
    | succ j =>
      rw [List.getElem?_append_right (by rw [encE_length]; omega), encE_length, show (j + 1) * 3 + i - 3 = j * 3 + i by omega, ih j (by simpa using hj)]
      rfl
theorem feAt_map (Es : List FE) (j : Nat) : frAt (Es.map FE.f) j = (feAt Es j).f := by
  simp only [frAt, feAt, List.getD_eq_getElem?_getD, List.getElem?_map]
  cases Es[j]? <;> rfl
theorem feAt_mem {Es : List FE} {j : Nat} (h : j < Es.length) : feAt Es j ∈ Es := by
  unfold feAt
  rw [List.getD_eq_getElem?_getD, List.getElem?_eq_getElem h]
  exact List.getElem_mem h
theorem feAt_eq {Es : List FE} {j : Nat} (h : j < Es.length) : feAt Es j = Es[j] := by
  unfold feAt
  rw [List.getD_eq_getElem?_getD, List.getElem?_eq_getElem h]; rfl
/-- What entries lead to is read. -/
def RdEs (w : World) (Es : List FE) : Prop := ∀ e ∈ Es, RdF w e.tr e.f.L
theorem RdEs.mono {w w' : World} {Es : List FE} (h : RdEs w Es) (hb : Below w.heap.size w w') : RdEs w' Es := fun e he => (h e he).mono hb
/-- What entries lead to lies at or beyond a place. -/
def BaseE (B : Nat) (Es : List FE) : Prop := ∀ e ∈ Es, ∀ ad, e.a = some ad → B ≤ ad.block
theorem BaseE.nil (B : Nat) : BaseE B [] := fun e he => by cases he
theorem BaseE.of {B : Nat} {Es Es' : List FE} (h : BaseE B Es) (hm : ∀ e ∈ Es', e ∈ Es) : BaseE B Es' := fun e he => h e (hm e he)
theorem BaseE.low {B C : Nat} {Es : List FE} (h : BaseE B Es) (hC : C ≤ B) : BaseE C Es := fun e he ad ha => Nat.le_trans hC (h e he ad ha)
theorem RdEs.base {w w' : World} {B : Nat} {S : Nat → Prop} {Es : List FE} (h : RdEs w Es) (hB : BaseE B Es) (hc : Chg w w' S) (hS : ∀ k, S k → k < B) : RdEs w' Es := by
  intro e he
  obtain ⟨a', c', hv, hcap, hz, hr⟩ := h e he
  refine ⟨a', c', hv, hcap, hz, fun j hj => ?_⟩
  obtain ⟨b, o, u, ha, hu, hp⟩ := hr j hj
  refine ⟨b, o, u, ha, ?_, hp⟩
  have ea : e.a = a' := by unfold FE.tr at hv; cases hv; rfl
  have hb := hB e he _ (ea.trans ha)
  unfold World.cell? at hu ⊢
  rw [hc.block b (block_lt hu) fun hk => by have := hS b hk; simp only at hb; omega]
  exact hu
theorem ownF_at {w : World} {B : Nat} {a : Option Addr} {n c : Nat} {L : List Nat} (h : OwnF w B (.slice a n c) L) : ∀ ad, a = some ad → B ≤ ad.block ∧ ad.block < w.heap.size := fun ad ha => by
  rcases h.form with ⟨hv, -⟩ | ⟨g', cap', hv, h1, h2, -⟩
  · injection hv with e1 e2 e3
    rw [e1] at ha; cases ha
  · injection hv with e1 e2 e3
    rw [e1] at ha; cases ha; exact ⟨h1, h2⟩
/-- A row of entries of the call's own. -/
def OwnR (w : World) (B : Nat) (v : Value) (Es : List FE) : Prop := w.ownsRow B 31 3 v Es.length (encEs Es)
theorem OwnR.kept {w w' : World} {B : Nat} {v : Value} {Es : List FE} (h : OwnR w B v Es) (hb : Below w.heap.size w w') : OwnR w' B v Es :=
  ownsRow_same h fun k hk => hb.block k (World.ownsRow.lt h k hk).2
theorem OwnR.form {w : World} {B : Nat} {v : Value} {Es : List FE} (h : OwnR w B v Es) :
    (v = .slice none 0 0 ∧ Es = []) ∨ ∃ g cap, v = .slice (some ⟨g, 0, none⟩) Es.length cap ∧ B ≤ g ∧ g < w.heap.size ∧ Es.length ≤ cap ∧
      (∀ j, j < Es.length → w.cell? ⟨g, j * 3, none⟩ = some (.int .i64 (feAt Es j).f.st) ∧ w.cell? ⟨g, j * 3 + 1, none⟩ = some (.int .i64 (feAt Es j).f.sa) ∧ w.cell? ⟨g, j * 3 + 2, none⟩ = some (feAt Es j).tr) ∧ ∀ j, w.frozen? ⟨g, j, none⟩ = false := by
  have hown0 : w.ownsRow B 31 3 v Es.length (encEs Es) := h
  rcases hown0.2 with ⟨rfl, hn⟩ | ⟨g, cap, cur, rfl, hb, hg, hn, _⟩
  · exact .inl ⟨rfl, List.eq_nil_of_length_eq_zero hn⟩
  · refine .inr ⟨g, cap, rfl, hb, (hown0.lt g rfl).2, hn, fun j hj => ?_, fun j => hown0.frozenAt j⟩
    have hl := encEs_length Es
    have key : ∀ i, i < 3 → w.cell? ⟨g, j * 3 + i, none⟩ = (encE (feAt Es j))[i]? := fun i hi => by
      rw [← encEs_at Es j i hj hi, hown0.cellAt (j * 3 + i) (by omega), List.getElem?_eq_getElem (by omega)]
    exact ⟨key 0 (by decide), key 1 (by decide), key 2 (by decide)⟩
theorem OwnR.rd {w : World} {B : Nat} {v : Value} {Es : List FE} (h : OwnR w B v Es) (hr : RdEs w Es) : RdFr w v (Es.map FE.f) := by
  rcases h.form with ⟨rfl, rfl⟩ | ⟨g, cap, rfl, -, -, hn, hc, -⟩
  · exact ⟨none, 0, rfl, Nat.le_refl _, fun _ => rfl, fun j hj => by cases hj⟩
  · refine ⟨some ⟨g, 0, none⟩, cap, by rw [List.length_map], by rw [List.length_map]; exact hn, (fun h => by cases h), fun j hj => ?_⟩
    rw [dsF_length, List.length_map] at hj
    have e := dsF_at (Es.map FE.f) (j / 3) (j % 3) (by rw [List.length_map]; omega) (Nat.mod_lt _ (by decide))
    rw [show j / 3 * 3 + j % 3 = j by omega, feAt_map] at e
    obtain ⟨c0, c1, c2⟩ := hc (j / 3) (by omega)
    have r := hr _ (feAt_mem (show j / 3 < Es.length by omega))
    have hlt : j % 3 < 3 := Nat.mod_lt _ (by decide)
    have ej : j = j / 3 * 3 + j % 3 := by omega
    rw [e]
    generalize j / 3 = q at *
    generalize j % 3 = i at *
    subst ej
    match i, hlt with
    | 0, _ => exact ⟨g, 0, _, rfl, by rw [Nat.zero_add]; exact c0, rfl⟩
    | 1, _ => exact ⟨g, 0, _, rfl, by rw [Nat.zero_add]; exact c1, rfl⟩
    | 2, _ => exact ⟨g, 0, _, rfl, by rw [Nat.zero_add]; exact c2, r⟩
end Go.Proofs.Ytibojlpeaolfbaa
