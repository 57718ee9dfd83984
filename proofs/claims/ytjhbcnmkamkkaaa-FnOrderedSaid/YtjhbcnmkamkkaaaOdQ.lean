/- FnOrdered: rows of Booleans; lists of quarters compared. -/
import Derived.Test.YtjhbcnmkamkkaaaOdP
namespace Go.Proofs.Ytjhbcnmkamkkaaa
open Go Go.RowKit

theorem Try.infoBo : (Try.prog.info? 4).map (fun i => (i.zero, i.size, i.bytes)) = some (some (.bool false), 1, 1) := by kernel_rfl
def OwnU (w : World) (B : Nat) (v : Value) (us : List Bool) : Prop := w.ownsRow B 4 1 v us.length (us.map Value.bool)
theorem OwnU.kept {w w' : World} {B : Nat} {v : Value} {L : List Bool} (h : OwnU w B v L) (hb : Below w.heap.size w w') : OwnU w' B v L :=
  ownsRow_same h fun k hk => hb.block k (World.ownsRow.lt h k hk).2
theorem OwnU.at {w : World} {B g n cap : Nat} {us : List Bool} (h : OwnU w B (.slice (some ⟨g, 0, none⟩) n cap) us) (hn : us.length = n) (k : Nat) (hk : k < n) : w.cell? ⟨g, k, none⟩ = some (.bool (us.getD k false)) ∧ w.frozen? ⟨g, k, none⟩ = false ∧ B ≤ g ∧ g < w.heap.size := by
  subst hn
  have h0 : w.ownsRow B 4 1 (.slice (some ⟨g, 0, none⟩) us.length cap) us.length (us.map Value.bool) := h
  refine ⟨?_, World.ownsRow.frozenAt h0 k, (World.ownsRow.lt h0 g rfl)⟩
  rw [World.ownsRow.cellAt h0 k (by omega)]
  simp [List.getElem?_map, List.getD_eq_getElem?_getD, List.getElem?_eq_getElem hk]
theorem OwnU.stored {w : World} {B g n cap : Nat} {us : List Bool} (h : OwnU w B (.slice (some ⟨g, 0, none⟩) n cap) us) (hn : us.length = n) (k : Nat) (b : Bool) : OwnU (w.setCell ⟨g, k, none⟩ (.bool b)) B (.slice (some ⟨g, 0, none⟩) n cap) (us.set k b) := by
  subst hn
  have h0 : w.ownsRow B 4 1 (.slice (some ⟨g, 0, none⟩) us.length cap) us.length (us.map Value.bool) := h
  have := (h0.stored k (.bool b)).1
  unfold OwnU
  rw [List.length_set, List.map_set]
  exact this
/-- 'make([]bool, n)'. -/
theorem wpList_mkBo {ops : Array Oper} {rest : List Oper} {o : Oper} {a : Act} {w : World} {Q : Exit → Act → World → Prop} (hg : o.guard = none) (l c : Operand)
    (hop : o.op = Op.makeSlice 69 l c) (B : Nat) (kl kc : IntKind) (L C : Int) (n : Nat) (hl : a.eval l = .int kl L) (hc : a.eval c = .int kc C) (hL : L = (n : Int)) (hC : C = (n : Int)) (hn : n ≤ 1048576) (hB : B ≤ w.heap.size)
    (h : ∀ w', OwnU w' B (.slice (some ⟨w.heap.size, 0, none⟩) n n) (List.replicate n false) → Below w.heap.size w w' → w.heap.size < w'.heap.size → wpList Try.prog ops Q rest (a.put o.dst (.slice (some ⟨w.heap.size, 0, none⟩) n n)) w') : wpList Try.prog ops Q (o :: rest) a w := by
  obtain ⟨i0, hi, hz0, hz1, hz2⟩ := info_parts Try.infoBo
  refine wpList_make_full w hg l c 69 hop B 4 i0 (.bool false) 1 Try.underlying69 hi hz0 hz1 kl kc L C n hl hc hL hC (by rw [hz2]; omega) (by unfold maxLen; omega) hB ?_
  intro w' h1 h2
  have e : (madeCells (Value.bool false).cells (n * 1)).toList = (List.replicate n false).map Value.bool := by
    rw [Nat.mul_one]
    show (madeCells #[Value.bool false] n).toList = _
    rw [toList_madeCells_one]; simp
  rw [e] at h1
  have hlt := (h1.lt w.heap.size rfl).2
  exact h w' (by unfold OwnU; rw [List.length_replicate]; exact h1) ((Below.refl _ _).grown h2 (Nat.le_refl _) fun k hk => (by cases hk)) hlt
theorem qv_notNan {a : Int} (h : -8 ≤ a ∧ a ≤ 8) : isN .f32 (qv a) = false := (qv_fx a h.1 h.2).1.notNan
theorem order_qv {a b : Int} (ha : -8 ≤ a ∧ a ≤ 8) (hb : -8 ≤ b ∧ b ≤ 8) : FloatKind.f32.format.order (qv a) (qv b) = some (compare a b) := (qv_fx a ha.1 ha.2).1.order (qv_fx b hb.1 hb.2).1
theorem cmp_ne (a b : Int) : (some (compare a b) != some Ordering.eq) = decide (a ≠ b) := by
  by_cases h : a = b
  · subst h; rw [show compare a a = .eq from Int.compare_eq_eq.2 rfl]; simp
  · have : compare a b ≠ .eq := fun e => h (Int.compare_eq_eq.1 e)
    simp [h, this]
theorem take_succ_eq {A B : List Int} (k : Nat) (h : k < A.length) (h2 : k < B.length) (h1 : A.take k = B.take k) (e : A.getD k 0 = B.getD k 0) : A.take (k + 1) = B.take (k + 1) := by
  rw [List.take_succ_eq_append_getElem h, List.take_succ_eq_append_getElem h2, h1]
  rw [List.getD_eq_getElem?_getD, List.getD_eq_getElem?_getD, List.getElem?_eq_getElem h, List.getElem?_eq_getElem h2] at e
  simp only [Option.getD_some] at e
  rw [e]
set_option maxRecDepth 100000 in
set_option maxHeartbeats 800000 in
theorem r8EqualQ_any (w : World) (v1 v2 : Value) (A B : List Int) (h1 : RdF w v1 (A.map qv)) (h2 : RdF w v2 (B.map qv)) (hl : B.length = A.length) (hmax : A.length ≤ 1000) (ha : ∀ j, j < A.length → -8 ≤ A.getD j 0 ∧ A.getD j 0 ≤ 8) (hb : ∀ j, j < A.length → -8 ≤ B.getD j 0 ∧ B.getD j 0 ≤ 8) :
    Calls Try.prog 16 #[v1, v2] w fun e w' => e = .returned (.bool (decide (A = B))) ∧ ∃ n, w' = w.drewN n := by
  obtain ⟨a1, c1, hv1, -, -, hcell1⟩ := h1.opened
  obtain ⟨a2, c2, hv2, -, -, hcell2⟩ := h2.opened
  rw [List.length_map] at hv1 hv2 hcell1 hcell2
  rw [hl] at hv2 hcell2
  subst hv1
  subst hv2
  have HLn := Lib.hid hl
  clear h1 h2 hl
  go_enter Try.func16, Try.ntmps16
  go_wp2
  go_loopw [5] (fun i wr => ∃ k q : Nat, k ≤ A.length ∧ i = .int .i64 k ∧ wr = w.drewN q ∧ A.take k = B.take k) (fun i _ => A.length - (intOf i).toNat)
  case atStart => exact ⟨0, 0, Nat.zero_le _, rfl, rfl, rfl⟩
  case round =>
    obtain ⟨wi, rfl⟩ : ∃ wi : World, wi = wr := ⟨_, rfl⟩
    obtain ⟨k, q, hk, rfl, hq, ht⟩ := hrel
    have HT := Lib.hid ht
    clear ht
    by_cases hlt : k < A.length
    · obtain ⟨b, o, r, rfl, d0, f0⟩ := hcell1 k hlt
      obtain ⟨b', o', r', rfl, g0, f1⟩ := hcell2 k hlt
      have hak := ha k hlt
      have hbk := hb k hlt
      have e0 : (A.map qv).getD k 0 = qv (A.getD k 0) := by simp [List.getD_eq_getElem?_getD, List.getElem?_map, List.getElem?_eq_getElem hlt]
      have e1 : (B.map qv).getD k 0 = qv (B.getD k 0) := by simp [List.getD_eq_getElem?_getD, List.getElem?_map, List.getElem?_eq_getElem (show k < B.length by have := HLn.out; omega)]
      rw [e0] at f0
      rw [e1] at f1
      obtain rfl := f0.eq_of_not (qv_notNan hak)
      obtain rfl := f1.eq_of_not (qv_notNan hbk)
      have ht : (FloatKind.f32.format.order (qv (A.getD k 0)) (qv (B.getD k 0)) != some Ordering.eq) = decide (A.getD k 0 ≠ B.getD k 0) := by rw [order_qv hak hbk, cmp_ne]
      have D0 : wi.cell? ⟨b, o + k, none⟩ = some (.float .f32 (qv (A.getD k 0))) := by rw [hq]; exact d0
      have G0 : wi.cell? ⟨b', o' + k, none⟩ = some (.float .f32 (qv (B.getD k 0))) := by rw [hq]; exact g0
      have Hq := Lib.hid hq
      have HD : Hid (A.getD k 0 = B.getD k 0 ∨ A.getD k 0 ≠ B.getD k 0) := Lib.hid (Decidable.em _)
      have HTk := fun e => Lib.hid (take_succ_eq k hlt (by have := HLn.out; omega) HT.out e)
      clear hcell1 hcell2 d0 g0 hq f0 f1 ha hb hak hbk e0 e1
      generalize qv (A.getD k 0) = x at *
      generalize qv (B.getD k 0) = y at *
      rcases HD.out with he | he
      · have ht' : (FloatKind.f32.format.order x y != some Ordering.eq) = false := by rw [ht, decide_eq_false (not_not_intro he)]
        have HTe := HTk he
        clear ht HTk he HD
        go_wp2
        refine region_rel_all (by kernel_rfl) (by kernel_rfl) (Drawn wi) (fun _ _ _ => False) ⟨1, rfl⟩ ?_
        repeat (refine wpRel_draw rfl rfl (fun nq K hK => ?_); go_wp2)
        refine wpRel_nil ?_
        rintro wd ⟨nd, hwd⟩
        have Hwd := Lib.hid hwd
        clear hwd
        go_wp2
        exact ⟨⟨k + 1, q + nd, by omega, by go_num, by rw [Hwd.out, Hq.out, World.drewN_drewN], HTe.out⟩, by simp [intOf]; omega⟩
      · have ht' : (FloatKind.f32.format.order x y != some Ordering.eq) = true := by rw [ht, decide_eq_true he]
        have HE := Lib.hid he
        clear ht HTk he HD
        go_wp2
        refine region_rel_all (by kernel_rfl) (by kernel_rfl) (Drawn wi) (fun _ _ _ => False) ⟨1, rfl⟩ ?_
        repeat (refine wpRel_draw rfl rfl (fun nq K hK => ?_); go_wp2)
        refine wpRel_nil ?_
        rintro wd ⟨nd, hwd⟩
        have Hwd := Lib.hid hwd
        clear hwd
        go_wp2
        go_ret
        refine ⟨?_, q + nd, by rw [Hwd.out, Hq.out, World.drewN_drewN]⟩
        have : A ≠ B := fun e => HE.out (by rw [e])
        simp [this]
    · have Hq := Lib.hid hq
      clear hq ha hb
      go_wp2
      go_ret
      refine ⟨?_, q, Hq.out⟩
      have : A = B := by
        have h := HT.out
        have hl := HLn.out
        rwa [List.take_of_length_le (by omega), List.take_of_length_le (by omega)] at h
      simp [this]
/-- What stands sorted. -/
def sp (g : GQ) (k : Nat) : Int := pAt g.ps ((sJ g.ps).getD k 0)
def sz (g : GQ) (k : Nat) : List Int := zAt g.zss ((sJ g.ps).getD k 0)
theorem sp_getD (g : GQ) (k : Nat) (h : k < g.ps.length) : (pkP g.tm.P (sJ g.ps)).getD k 0 = hV (sp g k) := by
  have hk : k < (sJ g.ps).length := by rw [sJ_length]; exact h
  unfold sp
  rw [← getD_hV]
  simp [pkP, GQ.tm, List.getD_eq_getElem?_getD, List.getElem?_map, List.getElem?_eq_getElem hk]
theorem sz_row (g : GQ) (k : Nat) (h : k < g.ps.length) : rowAt (pkL g.tm.Ls (sJ g.ps)) k = (sz g k).map qv := by
  have hk : k < (sJ g.ps).length := by rw [sJ_length]; exact h
  unfold sz
  rw [← rowAt_qv]
  show (pkL g.tm.Ls (sJ g.ps)).getD k [] = _
  simp [pkL, GQ.tm, List.getD_eq_getElem?_getD, List.getElem?_map, List.getElem?_eq_getElem hk]
theorem GQ.ok.row {g : GQ} (h : g.ok) (k : Nat) (hk : k < g.ps.length) : (zAt g.zss k).length = g.T ∧ ∀ t, t < g.T → -8 ≤ (zAt g.zss k).getD t 0 ∧ (zAt g.zss k).getD t 0 ≤ 8 := by
  obtain ⟨h1, h2⟩ := h.zz _ (zAt_mem (show k < g.zss.length by rw [h.nz]; exact hk))
  refine ⟨h1, fun t ht => ?_⟩
  apply h2
  rw [List.getD_eq_getElem?_getD, List.getElem?_eq_getElem (by omega)]
  exact List.getElem_mem _
theorem GQ.ok.srow {g : GQ} (h : g.ok) (k : Nat) (hk : k < g.ps.length) : (sz g k).length = g.T ∧ ∀ t, t < g.T → -8 ≤ (sz g k).getD t 0 ∧ (sz g k).getD t 0 ≤ 8 := h.row _ (sJ_lt g.ps k hk)
theorem GQ.ok.sp_ok {g : GQ} (h : g.ok) (k : Nat) : -4 ≤ sp g k ∧ sp g k ≤ 12 := pAt_ok h.pz _
/-- The cells of places, and of traces, that are read. -/
theorem cells_of {w : World} {a : Option Addr} {n c : Nat} {P : List Nat} {f : Nat → Int} (h : RdF w (.slice a n c) P) (hP : P.length = n) (hf : ∀ k, k < n → P.getD k 0 = hV (f k) ∧ -4 ≤ f k ∧ f k ≤ 12) (k : Nat) (hk : k < n) : ∃ b o, a = some ⟨b, o, none⟩ ∧ b < w.heap.size ∧ w.cell? ⟨b, o + k, none⟩ = some (.float .f32 (hV (f k))) := by
  obtain ⟨a', c', hv, -, -, hc⟩ := h.opened
  cases hv
  obtain ⟨b, o, r, ha, h1, h2⟩ := hc k (by omega)
  rw [(hf k hk).1] at h2
  obtain rfl := h2.eq_of_not (hV_notNan (hf k hk).2)
  exact ⟨b, o, ha, block_lt h1, h1⟩
theorem rows_of {w : World} {a : Option Addr} {n c T : Nat} {Ls : List (List Nat)} {f : Nat → List Int} (h : RdSS w (.slice a n c) Ls) (hP : Ls.length = n) (hf : ∀ k, k < n → rowAt Ls k = (f k).map qv ∧ (f k).length = T) (k : Nat) (hk : k < n) : ∃ b o a' c', a = some ⟨b, o, none⟩ ∧ b < w.heap.size ∧ w.cell? ⟨b, o + k, none⟩ = some (.slice a' T c') ∧ RdF w (.slice a' T c') ((f k).map qv) := by
  obtain ⟨a0, c0, hv, -, -, hc⟩ := h.opened
  cases hv
  obtain ⟨b, o, a', c', ha, h0, h1, h2⟩ := hc k (by omega)
  rw [(hf k hk).1, List.length_map, (hf k hk).2] at h1 h2
  exact ⟨b, o, a', c', ha, h0, h1, h2⟩
theorem cmp_eq (a b : Int) : (some (compare a b) == some Ordering.eq) = decide (a = b) := by
  by_cases h : a = b
  · subst h; rw [show compare a a = .eq from Int.compare_eq_eq.2 rfl]; simp
  · have : compare a b ≠ .eq := fun e => h (Int.compare_eq_eq.1 e)
    simp [h, this]
def boT (b : Bool) (f : FuncId) (args : Array Value) (v : Value) : Prop := v = .bool b
theorem getD_set_b (us : List Bool) (m j : Nat) (b : Bool) (hm : m < us.length) : (us.set m b).getD j false = if m = j then b else us.getD j false := by
  simp only [List.getD_eq_getElem?_getD, List.getElem?_set]
  by_cases h : m = j
  · subst h; rw [if_pos rfl, if_pos rfl, if_pos hm]; rfl
  · rw [if_neg h, if_neg h]
/-- Trace m is not the one that is looked for. -/
def Miss (g : GQ) (us : List Bool) (k m : Nat) : Prop := ∀ m', m' < m → ¬ (us.getD m' false = false ∧ pAt g.ps m' = sp g k ∧ zAt g.zss m' = sz g k)
theorem Miss.succ {g : GQ} {us : List Bool} {k m : Nat} (h : Miss g us k m) (hm : ¬ (us.getD m false = false ∧ pAt g.ps m = sp g k ∧ zAt g.zss m = sz g k)) : Miss g us k (m + 1) := fun m' hlt => by
  by_cases e : m' = m
  · subst e; exact hm
  · exact h m' (by omega)
theorem Miss.no {g : GQ} {us : List Bool} {k : Nat} (h : Miss g us k g.ps.length) (hm : Mat g (fun j => us.getD j false) k) (hk : k < g.ps.length) : False := by
  obtain ⟨m, h1, h2, h3⟩ := hm.some hk
  unfold prA at h3
  exact h m h1 ⟨h2, (Prod.mk.inj h3).1, (Prod.mk.inj h3).2⟩
theorem Mat.hit {g : GQ} {us : List Bool} {k m : Nat} (h : Mat g (fun j => us.getD j false) k) (hk : k < g.ps.length) (hm : m < g.ps.length) (hl : us.length = g.ps.length) (h0 : us.getD m false = false) (h1 : pAt g.ps m = sp g k) (h2 : zAt g.zss m = sz g k) : Mat g (fun j => (us.set m true).getD j false) (k + 1) :=
  h.next hk hm h0 (by show (us.set m true).getD m false = true; rw [getD_set_b _ _ _ _ (by omega), if_pos rfl]) (fun j hj => by show (us.set m true).getD j false = us.getD j false; rw [getD_set_b _ _ _ _ (by omega), if_neg (fun e => hj e.symm)]) (by unfold prA; rw [h1, h2]; rfl)
def MaxOf (t m : Nat) : Prop := (FloatKind.f32.format.order t (t ^^^ 2147483648) = some .lt ∧ m = t ^^^ 2147483648) ∨ (FloatKind.f32.format.order t (t ^^^ 2147483648) = some .gt ∧ m = t) ∨ (FloatKind.f32.format.order t (t ^^^ 2147483648) = some .eq ∧ (FloatKind.f32.decode t).neg = false ∧ m = t)
instance (t m : Nat) : Decidable (MaxOf t m) := by unfold MaxOf; infer_instance
theorem max_hV (z : Int) (h0 : -4 ≤ z) (h1 : z ≤ 12) : MaxOf (hV z) (hV z.natAbs) := by
  have key : ∀ i : Fin 17, MaxOf (hV ((i.1 : Int) - 4)) (hV (((i.1 : Int) - 4).natAbs : Int)) := by decide +kernel
  have := key ⟨(z + 4).toNat, by omega⟩
  simp only at this
  rwa [show (((z + 4).toNat : Nat) : Int) - 4 = z by omega] at this
theorem run_negF {P : Program} (w : World) (x : Nat) : (Op.unary .neg (.float .f32 x)).run P w = .ok (.float .f32 (x ^^^ 2147483648)) w := rfl
theorem run_maxOf {P : Program} (w : World) {ats : Array TypeId} {ty : TypeId} {t m : Nat} (h : MaxOf t m) : (Builtin.max_ ats ty #[.float .f32 t, .float .f32 (t ^^^ 2147483648)]).run P w = .ok (.float .f32 m) w := by
  have e : Builtin.max_ ats ty #[.float .f32 t, .float .f32 (t ^^^ 2147483648)] = Builtin.max2 (.float .f32 t) (.float .f32 (t ^^^ 2147483648)) := by simp [Builtin.max_]
  rw [e]
  unfold Builtin.max2
  rcases h with ⟨h, rfl⟩ | ⟨h, rfl⟩ | ⟨h, h2, rfl⟩
  · simp only [h]; rfl
  · simp only [h]; rfl
  · simp only [h, h2]; rfl
/-- Twice the size of a place. -/
def fstV (z : Int) : Nat := fop .mul .f32 1073741824 (hV z.natAbs)
theorem fst_all : ((List.range 17).all fun z => !isN .f32 (fstV ((z : Int) - 4)) && (List.range 12).all fun k =>
    ((FloatKind.f32.format.order (floatOfInt .f32 (k : Nat)) (fstV ((z : Int) - 4)) == some Ordering.lt) == decide ((k : Int) < ((z : Int) - 4).natAbs)) &&
    ((FloatKind.f32.format.order (floatOfInt .f32 (k : Nat)) (fstV ((z : Int) - 4)) == some Ordering.gt || FloatKind.f32.format.order (floatOfInt .f32 (k : Nat)) (fstV ((z : Int) - 4)) == some Ordering.eq) == !decide ((k : Int) < ((z : Int) - 4).natAbs))) = true := by decide +kernel
theorem fst_is (z : Int) (h : -4 ≤ z ∧ z ≤ 12) : isN .f32 (fstV z) = false ∧ ∀ k, k < 12 → (FloatKind.f32.format.order (floatOfInt .f32 (k : Nat)) (fstV z) == some Ordering.lt) = decide ((k : Int) < z.natAbs) ∧ (FloatKind.f32.format.order (floatOfInt .f32 (k : Nat)) (fstV z) == some Ordering.gt || FloatKind.f32.format.order (floatOfInt .f32 (k : Nat)) (fstV z) == some Ordering.eq) = !decide ((k : Int) < z.natAbs) := by
  have h1 := List.all_eq_true.1 fst_all (z + 4).toNat (List.mem_range.2 (by omega))
  rw [show (((z + 4).toNat : Nat) : Int) - 4 = z by omega, Bool.and_eq_true] at h1
  refine ⟨by simpa using h1.1, fun k hk => ?_⟩
  have h2 := List.all_eq_true.1 h1.2 k (List.mem_range.2 hk)
  rw [Bool.and_eq_true] at h2
  exact ⟨by simpa using h2.1, by simpa using h2.2⟩
/-- What stands muted. -/
theorem mut_row (g : GQ) (h : g.ok) (k : Nat) (hk : k < g.ps.length) : (mutF g.tm 1056964608 k).length = g.T ∧ ∀ t, t < g.T → (mutF g.tm 1056964608 k).getD t 0 = if (t : Int) < (pAt g.ps k).natAbs then 0 else qv ((zAt g.zss k).getD t 0) := by
  have e1 : rowAt g.tm.Ls k = (zAt g.zss k).map qv := rowAt_qv g.zss k
  have e2 : g.tm.P.getD k 0 = hV (pAt g.ps k) := getD_hV g.ps k
  have hr := h.row k hk
  have t1 := h.t1
  unfold mutF
  rw [e1, e2]
  refine ⟨by rw [mutTo_length, List.length_map, hr.1], fun t ht => ?_⟩
  rw [mutTo_getD _ _ _ _ (by rw [List.length_map, hr.1]; exact ht), List.length_map, hr.1, early_is _ (pAt_ok h.pz k) t (by omega)]
  have e3 : ((zAt g.zss k).map qv).getD t 0 = qv ((zAt g.zss k).getD t 0) := by simp [List.getD_eq_getElem?_getD, List.getElem?_map, List.getElem?_eq_getElem (show t < (zAt g.zss k).length by omega)]
  rw [e3]
  by_cases hh : (t : Int) < (pAt g.ps k).natAbs
  · rw [if_pos ⟨ht, by simpa using hh⟩, if_pos hh]
  · rw [if_neg (fun q => hh (by simpa using q.2)), if_neg hh]
theorem rows_at {w : World} {a : Option Addr} {n c T : Nat} {Ls : List (List Nat)} {F : Nat → List Nat} (h : RdSS w (.slice a n c) Ls) (hP : Ls.length = n) (hf : ∀ k, k < n → rowAt Ls k = F k ∧ (F k).length = T) (k : Nat) (hk : k < n) : ∃ b o a' c', a = some ⟨b, o, none⟩ ∧ b < w.heap.size ∧ w.cell? ⟨b, o + k, none⟩ = some (.slice a' T c') ∧ RdF w (.slice a' T c') (F k) := by
  obtain ⟨a0, c0, hv, -, -, hc⟩ := h.opened
  cases hv
  obtain ⟨b, o, a', c', ha, h0, h1, h2⟩ := hc k (by omega)
  rw [(hf k hk).1, (hf k hk).2] at h1 h2
  exact ⟨b, o, a', c', ha, h0, h1, h2⟩
theorem doL_row (F : Nat → List Nat) (n k : Nat) (h : k < n) : rowAt (doL F n) k = F k := by
  simp [rowAt, doL, List.getD_eq_getElem?_getD, List.getElem?_map, List.getElem?_range h]
theorem elem_at {w : World} {a : Option Addr} {n c x : Nat} {L : List Nat} (h : RdF w (.slice a n c) L) (hL : L.length = n) (t : Nat) (ht : t < n) (hx : L.getD t 0 = x) (hn : isN .f32 x = false) : ∃ b o, a = some ⟨b, o, none⟩ ∧ b < w.heap.size ∧ w.cell? ⟨b, o + t, none⟩ = some (.float .f32 x) := by
  obtain ⟨a', c', hv, -, -, hc⟩ := h.opened
  cases hv
  obtain ⟨b, o, r, ha, h1, h2⟩ := hc t (by omega)
  rw [hx] at h2
  obtain rfl := h2.eq_of_not hn
  exact ⟨b, o, ha, block_lt h1, h1⟩
end Go.Proofs.Ytjhbcnmkamkkaaa
