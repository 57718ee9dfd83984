/- FnOrdered: the plain law: a gather of halves and quarters: what is sorted, kept, muted. -/
import Derived.Test.YtjhbcnmkamkkaaaGra
namespace Go.Proofs.Ytjhbcnmkamkkaaa
open Go Go.RowKit

/-- A gather drawn: places in halves, traces in quarters. -/
structure GQ where
  T : Nat
  ps : List Int
  zss : List (List Int)
structure GQ.ok (g : GQ) : Prop where
  t0 : 2 ≤ g.T
  t1 : g.T ≤ 11
  n0 : 1 ≤ g.ps.length
  n1 : g.ps.length ≤ 4
  nz : g.zss.length = g.ps.length
  pz : ∀ z ∈ g.ps, -4 ≤ z ∧ z ≤ 12
  zz : ∀ zs ∈ g.zss, zs.length = g.T ∧ ∀ z ∈ zs, -8 ≤ z ∧ z ≤ 8
def GQ.tm (g : GQ) : TM := ⟨g.T, g.ps.map hV, g.zss.map (List.map qv)⟩
def pAt (ps : List Int) (k : Nat) : Int := ps.getD k 0
def zAt (zss : List (List Int)) (k : Nat) : List Int := zss.getD k []
theorem pAt_ok {ps : List Int} (h : ∀ z ∈ ps, -4 ≤ z ∧ z ≤ 12) (k : Nat) : -4 ≤ pAt ps k ∧ pAt ps k ≤ 12 := by
  unfold pAt
  rw [List.getD_eq_getElem?_getD]
  cases hk : ps[k]? with
  | none => decide
  | some z => exact h z (List.mem_of_getElem? hk)
theorem hV_zero : hV 0 = 0 := by decide +kernel
theorem getD_hV (ps : List Int) (k : Nat) : (ps.map hV).getD k 0 = hV (pAt ps k) := by
  unfold pAt
  rw [List.getD_eq_getElem?_getD, List.getD_eq_getElem?_getD, List.getElem?_map]
  cases ps[k]? with
  | none => exact hV_zero.symm
  | some z => rfl
theorem rowAt_qv (zss : List (List Int)) (k : Nat) : rowAt (zss.map (List.map qv)) k = (zAt zss k).map qv := by
  unfold rowAt zAt
  rw [List.getD_eq_getElem?_getD, List.getD_eq_getElem?_getD, List.getElem?_map]
  cases zss[k]? with
  | none => rfl
  | some z => rfl
theorem zAt_mem {zss : List (List Int)} {k : Nat} (h : k < zss.length) : zAt zss k ∈ zss := by
  unfold zAt
  rw [List.getD_eq_getElem?_getD, List.getElem?_eq_getElem h]
  exact List.getElem_mem h
theorem order_hV {a b : Int} (ha : -4 ≤ a ∧ a ≤ 12) (hb : -4 ≤ b ∧ b ≤ 12) : FloatKind.f32.format.order (hV a) (hV b) = some (compare a b) := (hV_fx a ha.1 ha.2).order (hV_fx b hb.1 hb.2)
theorem hV_notNan {a : Int} (ha : -4 ≤ a ∧ a ≤ 12) : isN .f32 (hV a) = false := (hV_fx a ha.1 ha.2).notNan
theorem hV_fin_all : ((List.range 17).all fun k => fin .f32 (hV ((k : Int) - 4))) = true := by decide +kernel
theorem hV_fin {a : Int} (ha : -4 ≤ a ∧ a ≤ 12) : fin .f32 (hV a) = true := by
  have := List.all_eq_true.1 hV_fin_all (a + 4).toNat (List.mem_range.2 (by omega))
  rwa [show (((a + 4).toNat : Nat) : Int) - 4 = a by omega] at this
theorem ltP_hV {ps : List Int} (h : ∀ z ∈ ps, -4 ≤ z ∧ z ≤ 12) : ltP (ps.map hV) = fun i j => decide (pAt ps i < pAt ps j) := by
  funext i j
  unfold ltP
  rw [getD_hV, getD_hV, order_hV (pAt_ok h i) (pAt_ok h j)]
  by_cases hlt : pAt ps i < pAt ps j
  · rw [show compare (pAt ps i) (pAt ps j) = .lt from Int.compare_eq_lt.2 hlt]; simp [hlt]
  · simp only [hlt, decide_false]
    rw [Bool.eq_false_iff]
    intro hc
    have : compare (pAt ps i) (pAt ps j) = .lt := by simpa using hc
    exact hlt (Int.compare_eq_lt.1 this)
/-- The indices in order. -/
def sJ (ps : List Int) : List Nat := insAll (fun i j => decide (pAt ps i < pAt ps j)) [] (List.range ps.length)
theorem sortJ_hV {ps : List Int} (h : ∀ z ∈ ps, -4 ≤ z ∧ z ≤ 12) : sortJ (ps.map hV) = sJ ps := by
  unfold sortJ sJ
  rw [ltP_hV h, List.length_map]
theorem sJ_perm (ps : List Int) : (sJ ps).Perm (List.range ps.length) := by
  have := insAll_perm (fun i j => decide (pAt ps i < pAt ps j)) [] (List.range ps.length)
  simpa [sJ] using this
theorem sJ_length (ps : List Int) : (sJ ps).length = ps.length := by rw [(sJ_perm ps).length_eq, List.length_range]
theorem sJ_sorted (ps : List Int) : List.Pairwise (fun a b => pAt ps a ≤ pAt ps b) (sJ ps) := insAll_sorted (pAt ps) _
theorem sJ_lt (ps : List Int) (i : Nat) (h : i < ps.length) : (sJ ps).getD i 0 < ps.length := by
  have hi : i < (sJ ps).length := by rw [sJ_length]; exact h
  have hm : (sJ ps).getD i 0 ∈ sJ ps := by
    rw [List.getD_eq_getElem?_getD, List.getElem?_eq_getElem hi]
    exact List.getElem_mem hi
  exact List.mem_range.1 ((sJ_perm ps).mem_iff.1 hm)
/-- A place and a trace. -/
def prA (ps : List Int) (zss : List (List Int)) (k : Nat) : Int × List Int := (pAt ps k, zAt zss k)
theorem sJ_next (ps : List Int) (i : Nat) (h : i + 1 < ps.length) : pAt ps ((sJ ps).getD i 0) ≤ pAt ps ((sJ ps).getD (i + 1) 0) := by
  have h1 : i + 1 < (sJ ps).length := by rw [sJ_length]; exact h
  rw [List.getD_eq_getElem?_getD, List.getD_eq_getElem?_getD, List.getElem?_eq_getElem h1, List.getElem?_eq_getElem (show i < (sJ ps).length by omega)]
  exact List.pairwise_iff_getElem.1 (sJ_sorted ps) i (i + 1) (by omega) h1 (by omega)
/-- What is chosen is valid, if anything is. -/
theorem GQ.ok.pick_valid {g : GQ} (h : g.ok) (js : List Nat) (hj : ∀ j ∈ js, j < g.ps.length) (hl : js.length ≤ 16) : validT (pkT g.tm js) = !js.isEmpty := by
  have hP : allB (fin .f32) (pkP g.tm.P js) = true := by
    unfold allB allTo
    refine List.all_eq_true.2 fun i hi => ?_
    have hi := List.mem_range.1 hi
    have hi' : i < js.length := by simpa [pkP] using hi
    have e : (pkP g.tm.P js).getD i 0 = hV (pAt g.ps (js.getD i 0)) := by
      rw [← getD_hV]
      simp [pkP, GQ.tm, List.getD_eq_getElem?_getD, List.getElem?_map, List.getElem?_eq_getElem hi']
    rw [e]
    exact hV_fin (pAt_ok h.pz _)
  have hR : rowsTo (pkL g.tm.Ls js) g.T (pkL g.tm.Ls js).length = true := by
    unfold rowsTo
    refine List.all_eq_true.2 fun i hi => ?_
    have hi := List.mem_range.1 hi
    have hi' : i < js.length := by simpa [pkL] using hi
    have e : rowAt (pkL g.tm.Ls js) i = (zAt g.zss (js.getD i 0)).map qv := by
      rw [← rowAt_qv]
      show (pkL g.tm.Ls js).getD i [] = _
      simp [pkL, GQ.tm, List.getD_eq_getElem?_getD, List.getElem?_map, List.getElem?_eq_getElem hi']
    have hm : js.getD i 0 < g.zss.length := by
      rw [h.nz]
      apply hj
      rw [List.getD_eq_getElem?_getD, List.getElem?_eq_getElem hi']
      exact List.getElem_mem hi'
    rw [e, List.length_map, (h.zz _ (zAt_mem hm)).1]
    simp
  have t0 := h.t0
  have t1 := h.t1
  have e1 : (pkP g.tm.P js).length = js.length := by simp [pkP]
  have e2 : (pkL g.tm.Ls js).length = js.length := by simp [pkL]
  have ht : (pkT g.tm js).t = (g.T : Int) := rfl
  unfold validT placesB
  rw [ht]
  show (decide (1 ≤ (g.T : Int)) && (decide ((g.T : Int) ≤ 64) && ((decide (1 ≤ (pkP g.tm.P js).length) && (decide ((pkP g.tm.P js).length ≤ 16) && allB (fin .f32) (pkP g.tm.P js))) && (decide ((pkL g.tm.Ls js).length = (pkP g.tm.P js).length) && rowsTo (pkL g.tm.Ls js) (g.T : Int) (pkL g.tm.Ls js).length)))) = _
  rw [hP, hR, e1, e2]
  cases js with
  | nil => simp
  | cons a r =>
    have a1 : (1 : Int) ≤ g.T := by omega
    have a2 : (g.T : Int) ≤ 64 := by omega
    have a3 : (a :: r).length ≤ 16 := hl
    simp [a1, a2]
    simpa using a3
theorem pk_self (P : List Nat) : pkP P (List.range P.length) = P := by
  unfold pkP
  apply List.ext_getElem
  · simp
  · intro i h1 h2
    simp [List.getD_eq_getElem?_getD, List.getElem?_eq_getElem h2]
theorem pkL_self (Ls : List (List Nat)) : pkL Ls (List.range Ls.length) = Ls := by
  unfold pkL
  apply List.ext_getElem
  · simp
  · intro i h1 h2
    simp [rowAt, List.getD_eq_getElem?_getD, List.getElem?_eq_getElem h2]
theorem GQ.ok.lens {g : GQ} (h : g.ok) : g.tm.P.length = g.ps.length ∧ g.tm.Ls.length = g.ps.length := ⟨by simp [GQ.tm], by simp [GQ.tm, h.nz]⟩
theorem GQ.ok.valid {g : GQ} (h : g.ok) : validT g.tm = true := by
  have n0 := h.n0
  have n1 := h.n1
  have := h.pick_valid (List.range g.ps.length) (fun j hj => List.mem_range.1 hj) (by rw [List.length_range]; omega)
  have e : pkT g.tm (List.range g.ps.length) = g.tm := by
    have e1 := pk_self g.tm.P
    have e2 := pkL_self g.tm.Ls
    rw [h.lens.1] at e1
    rw [h.lens.2] at e2
    unfold pkT
    rw [e1, e2]
  rw [e] at this
  rw [this]
  cases hn : g.ps.length with
  | zero => omega
  | succ m => rw [List.range_succ]; simp
theorem GQ.ok.validS {g : GQ} (h : g.ok) : validT (pkT g.tm (sortJ g.tm.P)) = true := by
  have n0 := h.n0
  have n1 := h.n1
  have e : sortJ g.tm.P = sJ g.ps := sortJ_hV h.pz
  rw [e, h.pick_valid (sJ g.ps) (fun j hj => List.mem_range.1 ((sJ_perm g.ps).mem_iff.1 hj)) (by rw [sJ_length]; omega)]
  cases hs : sJ g.ps with
  | nil => have := sJ_length g.ps; rw [hs] at this; simp at this; omega
  | cons a r => rfl
theorem GQ.ok.valid2 {g : GQ} (h : g.ok) : validT (twT g.tm) = true := by
  have n0 := h.n0
  have n1 := h.n1
  have hl := h.lens
  have := h.pick_valid (List.range g.ps.length ++ List.range g.ps.length) (fun j hj => by
    rcases List.mem_append.1 hj with h | h <;> exact List.mem_range.1 h) (by simp; omega)
  have e : pkT g.tm (List.range g.ps.length ++ List.range g.ps.length) = twT g.tm := by
    have e1 := pk_self g.tm.P
    have e2 := pkL_self g.tm.Ls
    rw [hl.1] at e1
    rw [hl.2] at e2
    unfold pkT twT
    have a1 : pkP g.tm.P (List.range g.ps.length ++ List.range g.ps.length) = pkP g.tm.P (List.range g.ps.length) ++ pkP g.tm.P (List.range g.ps.length) := by simp [pkP]
    have a2 : pkL g.tm.Ls (List.range g.ps.length ++ List.range g.ps.length) = pkL g.tm.Ls (List.range g.ps.length) ++ pkL g.tm.Ls (List.range g.ps.length) := by simp [pkL]
    rw [a1, a2, e1, e2]
  rw [e] at this
  rw [this]
  cases hn : g.ps.length with
  | zero => omega
  | succ m => rw [List.range_succ]; simp
/-- What is kept. -/
def k1 (ps : List Int) (z : Int) (j : Nat) : Bool := decide (pAt ps j ≤ z)
def k2 (ps : List Int) (z : Int) (j : Nat) : Bool := decide (z < pAt ps j)
theorem filter_parts (p q : Nat → Bool) (n : Nat) (h : ∀ j, q j = !p j) : ((List.range n).filter p).length + ((List.range n).filter q).length = n := by
  induction n with
  | zero => rfl
  | succ n ih =>
    rw [List.range_succ, List.filter_append, List.filter_append, List.length_append, List.length_append]
    cases hp : p n <;> simp [hp, h n] <;> omega
theorem k12 (ps : List Int) (z : Int) : ((List.range ps.length).filter (k1 ps z)).length + ((List.range ps.length).filter (k2 ps z)).length = ps.length :=
  filter_parts _ _ _ fun j => by unfold k1 k2; by_cases h : pAt ps j ≤ z <;> simp [h] <;> omega
/-- -1000, 1000, a quarter. -/
theorem lo_fx : Fx 1 3296329728 (-2000) := Fx.of (by decide +kernel)
theorem hi_fx : Fx 2 1148846080 4000 := Fx.of (by decide +kernel)
theorem qr_fx : Fx 2 1048576000 1 := Fx.of (by decide +kernel)
theorem lo_fv : FV .f32 3296329728 3296329728 := ⟨by decide, by decide +kernel⟩
theorem hi_fv : FV .f32 1148846080 1148846080 := ⟨by decide, by decide +kernel⟩
theorem qr_fv : FV .f32 1048576000 1048576000 := ⟨by decide, by decide +kernel⟩
def upV (z : Int) : Nat := fop .add .f32 (hV z) 1048576000
theorem hV_fx2 (z : Int) (h0 : -4 ≤ z) (h1 : z ≤ 12) : Fx 2 (hV z) (z * 2) := (hV_fx z h0 h1).fine (k := 1) (l := 1) (by decide)
theorem upV_fx (z : Int) (h0 : -4 ≤ z) (h1 : z ≤ 12) : Fx 2 (upV z) (z * 2 + 1) := (hV_fx2 z h0 h1).fopAdd qr_fx (by decide) (by omega)
theorem cmp_geq (a b : Int) : (some (compare a b) == some Ordering.gt || some (compare a b) == some Ordering.eq) = decide (b ≤ a) := by
  by_cases h1 : a < b
  · rw [show compare a b = .lt from Int.compare_eq_lt.2 h1]; simp; omega
  · by_cases h2 : a = b
    · subst h2; rw [show compare a a = .eq from Int.compare_eq_eq.2 rfl]; simp
    · rw [show compare a b = .gt from Int.compare_eq_gt.2 (by omega)]; simp; omega
theorem cmp_leq (a b : Int) : (some (compare a b) == some Ordering.lt || some (compare a b) == some Ordering.eq) = decide (a ≤ b) := by
  by_cases h1 : a < b
  · rw [show compare a b = .lt from Int.compare_eq_lt.2 h1]; simp; omega
  · by_cases h2 : a = b
    · subst h2; rw [show compare a a = .eq from Int.compare_eq_eq.2 rfl]; simp
    · rw [show compare a b = .gt from Int.compare_eq_gt.2 (by omega)]; simp; omega
theorem keeps1 {g : GQ} (h : g.ok) (z : Int) (h0 : -4 ≤ z) (h1 : z ≤ 12) : Keeps g.tm.P 3296329728 (hV z) (k1 g.ps z) := fun j hj => by
  have hp := pAt_ok h.pz j
  have e : g.tm.P.getD j 0 = hV (pAt g.ps j) := getD_hV g.ps j
  have o1 : FloatKind.f32.format.order (hV (pAt g.ps j)) 3296329728 = some (compare (pAt g.ps j) (-2000)) := (hV_fx _ hp.1 hp.2).order lo_fx
  refine ⟨_, _, rfl, rfl, ?_⟩
  rw [e, o1, order_hV hp ⟨h0, h1⟩, cmp_geq, cmp_leq]
  unfold k1
  have : decide ((-2000 : Int) ≤ pAt g.ps j) = true := by simp; omega
  rw [this, Bool.true_and]
theorem keeps2 {g : GQ} (h : g.ok) (z : Int) (h0 : -4 ≤ z) (h1 : z ≤ 12) : Keeps g.tm.P (upV z) 1148846080 (k2 g.ps z) := fun j hj => by
  have hp := pAt_ok h.pz j
  have e : g.tm.P.getD j 0 = hV (pAt g.ps j) := getD_hV g.ps j
  have o1 : FloatKind.f32.format.order (hV (pAt g.ps j)) (upV z) = some (compare (pAt g.ps j * 2) (z * 2 + 1)) := (hV_fx2 _ hp.1 hp.2).order (upV_fx z h0 h1)
  have o2 : FloatKind.f32.format.order (hV (pAt g.ps j)) 1148846080 = some (compare (pAt g.ps j * 2) 4000) := (hV_fx2 _ hp.1 hp.2).order hi_fx
  refine ⟨_, _, rfl, rfl, ?_⟩
  rw [e, o1, o2, cmp_geq, cmp_leq]
  unfold k2
  have : decide (pAt g.ps j * 2 ≤ (4000 : Int)) = true := by simp; omega
  rw [this, Bool.and_true]
  by_cases hh : z < pAt g.ps j <;> simp [hh] <;> omega
/-- How used traces are matched. -/
theorem filter_more (u u' : Nat → Bool) (k : Nat) (L : List Nat) (hn : L.Nodup) (hk : k ∈ L) (h0 : u k = false) (h1 : u' k = true) (h2 : ∀ j, j ≠ k → u' j = u j) : (L.filter u').Perm (k :: L.filter u) := by
  induction L with
  | nil => cases hk
  | cons a r ih =>
    obtain ⟨ha, hr⟩ := List.nodup_cons.1 hn
    by_cases hak : a = k
    · subst hak
      have e : r.filter u' = r.filter u := List.filter_congr fun x hx => h2 x fun e => ha (e ▸ hx)
      rw [List.filter_cons, h1, if_pos rfl, List.filter_cons, h0, e]
      simp
    · have hk' : k ∈ r := by
        rcases List.mem_cons.1 hk with h | h
        · exact absurd h.symm hak
        · exact h
      have := ih hr hk'
      rw [List.filter_cons, List.filter_cons, h2 a hak]
      cases hu : u a with
      | false => simpa using this
      | true => simpa using (List.Perm.cons a this).trans (List.Perm.swap k a _)
theorem filter_both (u : Nat → Bool) (L : List Nat) : (L.filter u ++ L.filter fun x => !u x).Perm L := by
  induction L with
  | nil => exact List.Perm.refl _
  | cons a r ih =>
    cases hu : u a with
    | true => simpa [hu] using List.Perm.cons a ih
    | false =>
      have : (r.filter u ++ a :: r.filter fun x => !u x).Perm (a :: (r.filter u ++ r.filter fun x => !u x)) := List.perm_middle
      simpa [hu] using this.trans (List.Perm.cons a ih)
/-- The first i of the sorted are matched by what is used. -/
def Mat (g : GQ) (u : Nat → Bool) (i : Nat) : Prop := (((List.range g.ps.length).filter u).map (prA g.ps g.zss)).Perm (((sJ g.ps).take i).map (prA g.ps g.zss))
theorem Mat.zero (g : GQ) : Mat g (fun _ => false) 0 := by unfold Mat; simp
theorem Mat.some {g : GQ} {u : Nat → Bool} {i : Nat} (h : Mat g u i) (hi : i < g.ps.length) : ∃ k, k < g.ps.length ∧ u k = false ∧ prA g.ps g.zss k = prA g.ps g.zss ((sJ g.ps).getD i 0) := by
  have hi' : i < (sJ g.ps).length := by rw [sJ_length]; exact hi
  have p1 := (filter_both u (List.range g.ps.length)).map (prA g.ps g.zss)
  have p2 := ((sJ_perm g.ps).symm).map (prA g.ps g.zss)
  have p3 := p1.trans p2
  rw [List.map_append, ← List.take_append_drop i (sJ g.ps), List.map_append] at p3
  have p4 := (List.perm_append_left_iff _).1 ((h.symm.append_right _).trans p3)
  have hm : prA g.ps g.zss ((sJ g.ps).getD i 0) ∈ ((sJ g.ps).drop i).map (prA g.ps g.zss) := by
    refine List.mem_map.2 ⟨_, ?_, rfl⟩
    rw [List.drop_eq_getElem_cons hi', List.getD_eq_getElem?_getD, List.getElem?_eq_getElem hi']
    exact List.mem_cons_self
  obtain ⟨k, hk, he⟩ := List.mem_map.1 (p4.mem_iff.2 hm)
  obtain ⟨hk1, hk2⟩ := List.mem_filter.1 hk
  exact ⟨k, List.mem_range.1 hk1, by simpa using hk2, he⟩
theorem Mat.next {g : GQ} {u u' : Nat → Bool} {i k : Nat} (h : Mat g u i) (hi : i < g.ps.length) (hk : k < g.ps.length) (h0 : u k = false) (h1 : u' k = true) (h2 : ∀ j, j ≠ k → u' j = u j) (he : prA g.ps g.zss k = prA g.ps g.zss ((sJ g.ps).getD i 0)) : Mat g u' (i + 1) := by
  have hi' : i < (sJ g.ps).length := by rw [sJ_length]; exact hi
  unfold Mat at *
  refine ((filter_more u u' k _ List.nodup_range (List.mem_range.2 hk) h0 h1 h2).map _).trans ?_
  rw [List.map_cons, he, take_succJ (sJ g.ps) i _ hi' rfl, List.map_append]
  refine (List.Perm.cons _ h).trans ?_
  exact (List.perm_append_comm (l₁ := [prA g.ps g.zss ((sJ g.ps).getD i 0)]))
/-- What is muted. -/
theorem early_all : ((List.range 17).all fun z => (List.range 12).all fun k => early (hV ((z : Int) - 4)) 1056964608 k == decide ((k : Int) < ((z : Int) - 4).natAbs)) = true := by decide +kernel
theorem early_is (z : Int) (h : -4 ≤ z ∧ z ≤ 12) (k : Nat) (hk : k < 12) : early (hV z) 1056964608 k = decide ((k : Int) < z.natAbs) := by
  have := List.all_eq_true.1 (List.all_eq_true.1 early_all (z + 4).toNat (List.mem_range.2 (by omega))) k (List.mem_range.2 hk)
  rw [show (((z + 4).toNat : Nat) : Int) - 4 = z by omega] at this
  simpa using this
theorem half_fv : FV .f32 1056964608 1056964608 := ⟨by decide, by decide +kernel⟩
theorem half_pos : posB 1056964608 = true := by decide +kernel
end Go.Proofs.Ytjhbcnmkamkkaaa
