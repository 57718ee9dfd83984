/- Walks: a list between its numbers. -/
import Derived.Test.YtjhbcnmkamkkaaaCur
import Derived.Test.YtjhbcnmkamkkaaaSfC
namespace Go.Proofs.Ytjhbcnmkamkkaaa
open Go Go.RowKit

def geqZ (t : Nat) : Bool := FloatKind.f32.format.order t 0 == some Ordering.gt || FloatKind.f32.format.order t 0 == some Ordering.eq
def leqN (t n : Nat) : Bool := FloatKind.f32.format.order t (floatOfInt .f32 ((n : Int) - 1)) == some Ordering.lt || FloatKind.f32.format.order t (floatOfInt .f32 ((n : Int) - 1)) == some Ordering.eq
/-- t lies beyond the list. -/
def SmpOut (n t : Nat) : Prop := geqZ t = false ∨ (geqZ t = true ∧ leqN t n = false)
def smpF (t J : Nat) : Nat := fop .sub .f32 t (floatOfInt .f32 (J : Nat))
/-- t lies at or behind number J. -/
structure SmpAt (n t J : Nat) : Prop where
  ge : geqZ t = true
  le : leqN t n = true
  nt : isN .f32 t = false
  nw : isN .f64 (cwide t) = false
  ok : toIOk .f64 (flo (cwide t)) = true
  at_ : toI .f64 (flo (cwide t)) = (J : Nat)
  lt : J < n
  nf : isN .f32 (smpF t J) = false
def isZ (x : Nat) : Bool := FloatKind.f32.format.order x 0 == some Ordering.eq
def smpD (L : List Nat) (J : Nat) : Nat := fop .sub .f32 (L.getD (J + 1) 0) (L.getD J 0)
def smpM (L : List Nat) (t J : Nat) : Nat := fop .mul .f32 (smpF t J) (smpD L J)
def smpA (L : List Nat) (t J : Nat) : Nat := fop .add .f32 (L.getD J 0) (smpM L t J)
/-- What a list is at t. -/
def Smp (L : List Nat) (t r : Nat) : Prop :=
  (SmpOut L.length t ∧ r = 0) ∨ (∃ J, SmpAt L.length t J ∧ isZ (smpF t J) = true ∧ r = L.getD J 0) ∨
    ∃ J, SmpAt L.length t J ∧ isZ (smpF t J) = false ∧ J + 1 < L.length ∧ isN .f32 (smpD L J) = false ∧ isN .f32 (smpM L t J) = false ∧ isN .f32 (smpA L t J) = false ∧ r = smpA L t J
set_option maxRecDepth 100000 in
set_option maxHeartbeats 1600000 in
theorem sample_fine (w : World) (v : Value) (L : List Nat) (t r : Nat) (hL : RdF w v L) (h0 : 1 ≤ L.length) (hn : L.length ≤ 64) (hnn : ∀ j, j < L.length → isN .f32 (L.getD j 0) = false) (h : Smp L t r) :
    Calls Try.prog 78 #[v, .float .f32 t] w fun e w' => e = .returned (.float .f32 r) ∧ ∃ n, w' = w.drewN n := by
  obtain ⟨a, c, rfl, -, -, hcell⟩ := hL.opened
  have cells : ∀ j, j < L.length → ∃ b o, a = some ⟨b, o, none⟩ ∧ w.cell? ⟨b, o + j, none⟩ = some (.float .f32 (L.getD j 0)) := fun j hj => by
    obtain ⟨b, o, r, ha, h1, h2⟩ := hcell j hj
    obtain rfl := h2.eq_of_not (hnn j hj)
    exact ⟨b, o, ha, h1⟩
  have hn1 : (1 : Int) ≤ L.length := by omega
  clear hL hcell hnn
  rcases h with ⟨h, rfl⟩ | ⟨J, hJ, hz, rfl⟩ | ⟨J, hJ, hz, hJ1, n1, n2, n3, rfl⟩
  · clear cells
    rcases h with h | ⟨h, h2⟩
    · unfold geqZ at h
      go_enter Try.func78, Try.ntmps78
      go_wp2
      go_ret
      exact ⟨rfl, 0, rfl⟩
    · unfold geqZ at h
      unfold leqN at h2
      go_enter Try.func78, Try.ntmps78
      go_wp2
      go_ret
      exact ⟨rfl, 0, rfl⟩
  all_goals
    obtain ⟨ge, le, nt, nw, ok, at_, lt, nf⟩ := hJ
    unfold geqZ at ge
    unfold leqN at le
    have hJi : (J : Int) < (L.length : Int) := by omega
    have h1 : ∀ wq : World, (convert 31 51 (.float .f32 t)).run Try.prog wq = .ok (.float .f64 (cwide t)) wq := fun wq => run_wideF _ _ (by kernel_rfl) (by kernel_rfl) wq t nt
    have h2 : ∀ wq : World, (convert 51 3 (.float .f64 (flo (cwide t)))).run Try.prog wq = .ok (.int .i64 (J : Nat)) wq := fun wq => by rw [run_toI _ _ (by kernel_rfl) (by kernel_rfl) wq _ _ ok, at_]
    have h3 : ∀ (wq : World) (ty : TypeId), (binOp .sub ty (.float .f32 t) (.float .f32 (floatOfInt .f32 (J : Nat)))).run Try.prog wq = .ok (.float .f32 (smpF t J)) wq := fun wq ty => run_fineK .f32 .sub (by simp) wq ty _ _ nf
    have HF := Lib.hid (fun wq => mathFloor_any wq (cwide t) nw)
    clear nt nw ok at_ nf
  · obtain ⟨b, o, rfl, d0⟩ := cells J lt
    unfold isZ at hz
    clear cells
    generalize L.getD J 0 = x at *
    generalize smpF t J = f at *
    go_enter Try.func78, Try.ntmps78
    go_wp2_with fail
    refine (HF.out _).mono ?_
    rintro e w1 ⟨rfl, rfl⟩
    go_wp2
    go_ret
    exact ⟨rfl, 0, rfl⟩
  · obtain ⟨b, o, rfl, d0⟩ := cells J lt
    obtain ⟨b', o', he, d1⟩ := cells (J + 1) hJ1
    obtain ⟨rfl, rfl⟩ : b = b' ∧ o = o' := by cases he; exact ⟨rfl, rfl⟩
    have hJ2 : (J : Int) + 1 < (L.length : Int) := by omega
    have h4 : ∀ (wq : World) (ty : TypeId), (binOp .sub ty (.float .f32 (L.getD (J + 1) 0)) (.float .f32 (L.getD J 0))).run Try.prog wq = .ok (.float .f32 (smpD L J)) wq := fun wq ty => run_fineK .f32 .sub (by simp) wq ty _ _ n1
    have h5 : ∀ (wq : World) (ty : TypeId), (binOp .mul ty (.float .f32 (smpF t J)) (.float .f32 (smpD L J))).run Try.prog wq = .ok (.float .f32 (smpM L t J)) wq := fun wq ty => run_fineK .f32 .mul (by simp) wq ty _ _ n2
    have h6 : ∀ (wq : World) (ty : TypeId), (binOp .add ty (.float .f32 (L.getD J 0)) (.float .f32 (smpM L t J))).run Try.prog wq = .ok (.float .f32 (smpA L t J)) wq := fun wq ty => run_fineK .f32 .add (by simp) wq ty _ _ n3
    unfold isZ at hz
    clear cells he n1 n2 n3
    generalize smpA L t J = y4 at *
    generalize smpM L t J = y3 at *
    generalize smpD L J = y2 at *
    generalize L.getD (J + 1) 0 = y1 at *
    generalize L.getD J 0 = x at *
    generalize smpF t J = f at *
    go_enter Try.func78, Try.ntmps78
    go_wp2_with fail
    refine (HF.out _).mono ?_
    rintro e w1 ⟨rfl, rfl⟩
    go_wp2_with fail
    refine region_rel_all (by kernel_rfl) (by kernel_rfl) (Drawn w1) (fun _ _ _ => False) ⟨1, rfl⟩ ?_
    iterate 18 (refine wpRel_draw rfl rfl (fun nq K hK => ?_); go_wp2)
    refine wpRel_nil ?_
    rintro wd ⟨nd, rfl⟩
    go_wp2
    go_ret
    exact ⟨rfl, nd, rfl⟩
set_option maxRecDepth 100000 in
set_option maxHeartbeats 1600000 in
theorem sampled_move (w : World) (v : Value) (L : List Nat) (b1 : Nat) (T R : Nat → Nat) (hL : RdF w v L) (h0 : 1 ≤ L.length) (hn : L.length ≤ 64) (hnn : ∀ j, j < L.length → isN .f32 (L.getD j 0) = false)
    (hd : ∀ wq, Ext w wq → ∀ k : Nat, k < L.length → Calls Try.prog 83 #[.float .f32 (floatOfInt .f32 (k : Nat)), .pointer (some ⟨b1, 0, none⟩)] wq fun e w' => e = .returned (.float .f32 (T k)) ∧ ∃ n, w' = wq.drewN n)
    (hs : ∀ k, k < L.length → Smp L (T k) (R k)) (hr : ∀ k, k < L.length → Cls .f32 (R k)) :
    Calls Try.prog 82 #[v, .func (.func 83) #[] #[.pointer (some ⟨b1, 0, none⟩)]] w fun e w' => ∃ v', e = .returned v' ∧ OwnF w' w.heap.size v' ((List.range L.length).map R) ∧ Ext w w' := by
  have HL := Lib.hid hL
  have HD := Lib.hid hd
  have HS := Lib.hid hs
  have HR := Lib.hid hr
  have HNN := Lib.hid hnn
  obtain ⟨a, c, rfl, -, -, -⟩ := hL.opened
  clear hL hd hs hr hnn
  go_enter Try.func82, Try.ntmps82
  go_wp2_with fail
  go_loopw [5, 9] (fun o i wr => ∃ k : Nat, k ≤ L.length ∧ i = .int .i64 k ∧ OwnF wr w.heap.size o ((List.range k).map R) ∧ Ext w wr) (fun _ i _ => L.length - (intOf i).toNat)
  case atStart => exact ⟨0, Nat.zero_le _, rfl, OwnF.nil _ _, Ext.refl _⟩
  case round =>
    obtain ⟨wi, rfl⟩ : ∃ wi : World, wi = wr := ⟨_, rfl⟩
    obtain ⟨k, hk, rfl, ho, hx⟩ := hrel
    have HO := Lib.hid ho
    have HX := Lib.hid hx
    have zx := hx.size
    clear ho hx
    by_cases hlt : k < L.length
    · go_wp2_with fail
      refine (HD.out wi HX.out k hlt).mono ?_
      rintro e w1 ⟨rfl, n1, hw1⟩
      have X1 : Hid (Ext w w1) := Lib.hid (by rw [hw1]; exact Below.drewN HX.out n1)
      have O1 : Hid (OwnF w1 w.heap.size u5 ((List.range k).map R)) := Lib.hid (by rw [hw1]; exact HO.out.drewN n1)
      clear hw1
      go_wp2_with fail
      refine (sample_fine w1 _ L (T k) (R k) (HL.out.mono X1.out) h0 hn HNN.out (HS.out k hlt)).mono ?_
      rintro e w2 ⟨rfl, n2, hw2⟩
      have X2 : Hid (Ext w w2) := Lib.hid (by rw [hw2]; exact Below.drewN X1.out n2)
      have O2 : Hid (OwnF w2 w.heap.size u5 ((List.range k).map R)) := Lib.hid (by rw [hw2]; exact O1.out.drewN n2)
      have z2 := X2.out.size
      clear hw2
      have xa : Ext w2 (w2.alloc (.cells #[.float .f32 (R k)] 31)) := (Below.refl _ _).alloc (Nat.le_refl _) _
      have hoa := O2.out.kept xa
      have hza : (w2.alloc (.cells #[.float .f32 (R k)] 31)).heap.size = w2.heap.size + 1 := World.size_alloc _ _
      have HXA := Lib.hid xa
      have HOA := Lib.hid hoa
      have HZA := Lib.hid hza
      have hrk := HR.out k hlt
      have HRk := Lib.hid hrk
      clear xa hoa hza hrk
      go_wp2_with (at_builtin; go_must (refine wpList_push rfl _ _ rfl w.heap.size _ ((List.range k).map R) rfl HOA.out _ _ _ (R k) rfl (cell_new _ _ _) HRk.out (by rw [List.length_map, List.length_range]; omega) (by have := HZA.out; omega) ?_); intro v9 w9 o9 g9 b9 l9)
      exact ⟨⟨k + 1, by omega, by go_num, by rw [List.range_succ, List.map_append]; exact o9, Below.trans (show Below w.heap.size w w2 from X2.out) (Below.trans (Below.mono HXA.out z2) b9)⟩, by simp [intOf]; omega⟩
    · obtain rfl : L.length = k := by omega
      go_wp2_with fail
      go_ret
      exact ⟨_, rfl, HO.out, HX.out⟩
set_option maxRecDepth 100000 in
set_option maxHeartbeats 1600000 in
theorem sampled_corr (w : World) (v : Value) (L : List Nat) (b1 b2 : Nat) (T R : Nat → Nat) (hL : RdF w v L) (h0 : 1 ≤ L.length) (hn : L.length ≤ 64) (hnn : ∀ j, j < L.length → isN .f32 (L.getD j 0) = false)
    (hd : ∀ wq, Ext w wq → ∀ k : Nat, k < L.length → Calls Try.prog 112 #[.float .f32 (floatOfInt .f32 (k : Nat)), .pointer (some ⟨b1, 0, none⟩), .pointer (some ⟨b2, 0, none⟩)] wq fun e w' => e = .returned (.float .f32 (T k)) ∧ ∃ n, w' = wq.drewN n)
    (hs : ∀ k, k < L.length → Smp L (T k) (R k)) (hr : ∀ k, k < L.length → Cls .f32 (R k)) :
    Calls Try.prog 82 #[v, .func (.func 112) #[] #[.pointer (some ⟨b1, 0, none⟩), .pointer (some ⟨b2, 0, none⟩)]] w fun e w' => ∃ v', e = .returned v' ∧ OwnF w' w.heap.size v' ((List.range L.length).map R) ∧ Ext w w' := by
  have HL := Lib.hid hL
  have HD := Lib.hid hd
  have HS := Lib.hid hs
  have HR := Lib.hid hr
  have HNN := Lib.hid hnn
  obtain ⟨a, c, rfl, -, -, -⟩ := hL.opened
  clear hL hd hs hr hnn
  go_enter Try.func82, Try.ntmps82
  go_wp2_with fail
  go_loopw [5, 9] (fun o i wr => ∃ k : Nat, k ≤ L.length ∧ i = .int .i64 k ∧ OwnF wr w.heap.size o ((List.range k).map R) ∧ Ext w wr) (fun _ i _ => L.length - (intOf i).toNat)
  case atStart => exact ⟨0, Nat.zero_le _, rfl, OwnF.nil _ _, Ext.refl _⟩
  case round =>
    obtain ⟨wi, rfl⟩ : ∃ wi : World, wi = wr := ⟨_, rfl⟩
    obtain ⟨k, hk, rfl, ho, hx⟩ := hrel
    have HO := Lib.hid ho
    have HX := Lib.hid hx
    have zx := hx.size
    clear ho hx
    by_cases hlt : k < L.length
    · go_wp2_with fail
      refine (HD.out wi HX.out k hlt).mono ?_
      rintro e w1 ⟨rfl, n1, hw1⟩
      have X1 : Hid (Ext w w1) := Lib.hid (by rw [hw1]; exact Below.drewN HX.out n1)
      have O1 : Hid (OwnF w1 w.heap.size u5 ((List.range k).map R)) := Lib.hid (by rw [hw1]; exact HO.out.drewN n1)
      clear hw1
      go_wp2_with fail
      refine (sample_fine w1 _ L (T k) (R k) (HL.out.mono X1.out) h0 hn HNN.out (HS.out k hlt)).mono ?_
      rintro e w2 ⟨rfl, n2, hw2⟩
      have X2 : Hid (Ext w w2) := Lib.hid (by rw [hw2]; exact Below.drewN X1.out n2)
      have O2 : Hid (OwnF w2 w.heap.size u5 ((List.range k).map R)) := Lib.hid (by rw [hw2]; exact O1.out.drewN n2)
      have z2 := X2.out.size
      clear hw2
      have xa : Ext w2 (w2.alloc (.cells #[.float .f32 (R k)] 31)) := (Below.refl _ _).alloc (Nat.le_refl _) _
      have hoa := O2.out.kept xa
      have hza : (w2.alloc (.cells #[.float .f32 (R k)] 31)).heap.size = w2.heap.size + 1 := World.size_alloc _ _
      have HXA := Lib.hid xa
      have HOA := Lib.hid hoa
      have HZA := Lib.hid hza
      have hrk := HR.out k hlt
      have HRk := Lib.hid hrk
      clear xa hoa hza hrk
      go_wp2_with (at_builtin; go_must (refine wpList_push rfl _ _ rfl w.heap.size _ ((List.range k).map R) rfl HOA.out _ _ _ (R k) rfl (cell_new _ _ _) HRk.out (by rw [List.length_map, List.length_range]; omega) (by have := HZA.out; omega) ?_); intro v9 w9 o9 g9 b9 l9)
      exact ⟨⟨k + 1, by omega, by go_num, by rw [List.range_succ, List.map_append]; exact o9, Below.trans (show Below w.heap.size w w2 from X2.out) (Below.trans (Below.mono HXA.out z2) b9)⟩, by simp [intOf]; omega⟩
    · obtain rfl : L.length = k := by omega
      go_wp2_with fail
      go_ret
      exact ⟨_, rfl, HO.out, HX.out⟩
set_option maxRecDepth 100000 in
set_option maxHeartbeats 1600000 in
theorem sampled_bent (w : World) (v : Value) (L : List Nat) (b1 b2 : Nat) (T R : Nat → Nat) (hL : RdF w v L) (h0 : 1 ≤ L.length) (hn : L.length ≤ 64) (hnn : ∀ j, j < L.length → isN .f32 (L.getD j 0) = false)
    (hd : ∀ wq, Ext w wq → ∀ k : Nat, k < L.length → Calls Try.prog 113 #[.float .f32 (floatOfInt .f32 (k : Nat)), .pointer (some ⟨b1, 0, none⟩), .pointer (some ⟨b2, 0, none⟩)] wq fun e w' => e = .returned (.float .f32 (T k)) ∧ ∃ n, w' = wq.drewN n)
    (hs : ∀ k, k < L.length → Smp L (T k) (R k)) (hr : ∀ k, k < L.length → Cls .f32 (R k)) :
    Calls Try.prog 82 #[v, .func (.func 113) #[] #[.pointer (some ⟨b1, 0, none⟩), .pointer (some ⟨b2, 0, none⟩)]] w fun e w' => ∃ v', e = .returned v' ∧ OwnF w' w.heap.size v' ((List.range L.length).map R) ∧ Ext w w' := by
  have HL := Lib.hid hL
  have HD := Lib.hid hd
  have HS := Lib.hid hs
  have HR := Lib.hid hr
  have HNN := Lib.hid hnn
  obtain ⟨a, c, rfl, -, -, -⟩ := hL.opened
  clear hL hd hs hr hnn
  go_enter Try.func82, Try.ntmps82
  go_wp2_with fail
  go_loopw [5, 9] (fun o i wr => ∃ k : Nat, k ≤ L.length ∧ i = .int .i64 k ∧ OwnF wr w.heap.size o ((List.range k).map R) ∧ Ext w wr) (fun _ i _ => L.length - (intOf i).toNat)
  case atStart => exact ⟨0, Nat.zero_le _, rfl, OwnF.nil _ _, Ext.refl _⟩
  case round =>
    obtain ⟨wi, rfl⟩ : ∃ wi : World, wi = wr := ⟨_, rfl⟩
    obtain ⟨k, hk, rfl, ho, hx⟩ := hrel
    have HO := Lib.hid ho
    have HX := Lib.hid hx
    have zx := hx.size
    clear ho hx
    by_cases hlt : k < L.length
    · go_wp2_with fail
      refine (HD.out wi HX.out k hlt).mono ?_
      rintro e w1 ⟨rfl, n1, hw1⟩
      have X1 : Hid (Ext w w1) := Lib.hid (by rw [hw1]; exact Below.drewN HX.out n1)
      have O1 : Hid (OwnF w1 w.heap.size u5 ((List.range k).map R)) := Lib.hid (by rw [hw1]; exact HO.out.drewN n1)
      clear hw1
      go_wp2_with fail
      refine (sample_fine w1 _ L (T k) (R k) (HL.out.mono X1.out) h0 hn HNN.out (HS.out k hlt)).mono ?_
      rintro e w2 ⟨rfl, n2, hw2⟩
      have X2 : Hid (Ext w w2) := Lib.hid (by rw [hw2]; exact Below.drewN X1.out n2)
      have O2 : Hid (OwnF w2 w.heap.size u5 ((List.range k).map R)) := Lib.hid (by rw [hw2]; exact O1.out.drewN n2)
      have z2 := X2.out.size
      clear hw2
      have xa : Ext w2 (w2.alloc (.cells #[.float .f32 (R k)] 31)) := (Below.refl _ _).alloc (Nat.le_refl _) _
      have hoa := O2.out.kept xa
      have hza : (w2.alloc (.cells #[.float .f32 (R k)] 31)).heap.size = w2.heap.size + 1 := World.size_alloc _ _
      have HXA := Lib.hid xa
      have HOA := Lib.hid hoa
      have HZA := Lib.hid hza
      have hrk := HR.out k hlt
      have HRk := Lib.hid hrk
      clear xa hoa hza hrk
      go_wp2_with (at_builtin; go_must (refine wpList_push rfl _ _ rfl w.heap.size _ ((List.range k).map R) rfl HOA.out _ _ _ (R k) rfl (cell_new _ _ _) HRk.out (by rw [List.length_map, List.length_range]; omega) (by have := HZA.out; omega) ?_); intro v9 w9 o9 g9 b9 l9)
      exact ⟨⟨k + 1, by omega, by go_num, by rw [List.range_succ, List.map_append]; exact o9, Below.trans (show Below w.heap.size w w2 from X2.out) (Below.trans (Below.mono HXA.out z2) b9)⟩, by simp [intOf]; omega⟩
    · obtain rfl : L.length = k := by omega
      go_wp2_with fail
      go_ret
      exact ⟨_, rfl, HO.out, HX.out⟩
end Go.Proofs.Ytjhbcnmkamkkaaa
