/- Walks: cells near a place; cells that are smoothed, edged; every cell of a section. -/
import Derived.Test.YtjhbcnmkamkkaaaSmS
namespace Go.Proofs.Ytjhbcnmkamkkaaa
open Go Go.RowKit

def cl (x : Int) (n : Nat) : Nat := (min (max x 0) ((n : Int) - 1)).toNat
def nearF (A : List Nat) (a b : Nat) (x z : Int) : Nat := A.getD (cl x a + a * cl z b) 0
theorem cl_lt (x : Int) {n : Nat} (h : 1 ≤ n) : cl x n < n := by unfold cl; omega
theorem cl_in {x : Int} {n : Nat} (h0 : 0 ≤ x) (h1 : x < n) : cl x n = x.toNat := by unfold cl; omega
theorem near_lt (x z : Int) {a b : Nat} (ha : 1 ≤ a) (hb : 1 ≤ b) : cl x a + a * cl z b < a * b := by
  have h1 := cl_lt x ha
  have h2 := cl_lt z hb
  have h3 : a * (cl z b + 1) ≤ a * b := Nat.mul_le_mul (Nat.le_refl _) h2
  rw [Nat.mul_add] at h3
  omega
theorem fv_wordS {r x : Nat} (h : FV .f32 r x) (hx : isN .f32 x = false) : r = x := by
  have h1 := h.2
  have h2 : isN .f32 r = false := by rw [← isN_can, h1]; exact hx
  rw [can_of_not h2] at h1
  exact h1
set_option maxRecDepth 100000 in
set_option maxHeartbeats 3200000 in
theorem near_any (w : World) (v : Value) (A : List Nat) (a b : Nat) (x z : Int) (h : RdF w v A) (hl : A.length = a * b) (hN : ∀ j, isN .f32 (A.getD j 0) = false) (ha : 1 ≤ a) (ha2 : a ≤ 16) (hb : 1 ≤ b) (hb2 : b ≤ 16) (hx : -1000 ≤ x) (hx2 : x ≤ 1000) (hz : -1000 ≤ z) (hz2 : z ≤ 1000) :
    Calls Try.prog 56 #[.agg #[.int .i64 a, .int .i64 b, v], .int .i64 x, .int .i64 z] w fun e w' => e = .returned (.float .f32 (nearF A a b x z)) ∧ Below w.heap.size w w' := by
  obtain ⟨ad, c, rfl, hc, -, hcell⟩ := h.opened
  obtain ⟨m, hm⟩ : ∃ m, a * b = m := ⟨_, rfl⟩
  have hm2 : m ≤ 256 := by rw [← hm]; exact Nat.mul_le_mul ha2 hb2
  have hi := near_lt x z ha hb
  rw [hm] at hl hi
  rw [hl] at hc hcell ⊢
  obtain ⟨W, hW⟩ : ∃ W, w.alloc (.cells #[.int .i64 a, .int .i64 b, .slice ad m c] 27) = W := ⟨_, rfl⟩
  have X0 : Hid (Below w.heap.size w W) := Lib.hid (by rw [← hW]; exact (Below.refl _ _).alloc (Nat.le_refl _) _)
  have hg : W.heap[w.heap.size]? = some (.cells #[.int .i64 a, .int .i64 b, .slice ad m c] 27 (0, 0)) := by rw [← hW]; exact alloc_new _ _
  obtain ⟨k0, k1, k2, -, -, -⟩ := blk3 hg
  obtain ⟨bl, o, r, rfl, hr, hf⟩ := hcell (cl x a + a * cl z b) hi
  obtain rfl : r = nearF A a b x z := fv_wordS hf (hN _)
  have K := ((bcell X0.out).1 bl (o + (cl x a + a * cl z b)) (block_lt hr)).trans hr
  obtain ⟨N, hNN⟩ : ∃ N, nearF A a b x z = N := ⟨_, rfl⟩
  rw [hNN] at K ⊢
  obtain ⟨X, hX⟩ : ∃ X, cl x a = X := ⟨_, rfl⟩
  obtain ⟨Z, hZ⟩ : ∃ Z, cl z b = Z := ⟨_, rfl⟩
  have cX : (x < 0 ∧ X = 0) ∨ (x < a ∧ (X : Int) = x) ∨ ((a : Int) ≤ x ∧ (a : Int) - 1 = (X : Int)) := by rw [← hX]; unfold cl; omega
  have cZ : (z < 0 ∧ Z = 0) ∨ (z < b ∧ (Z : Int) = z) ∨ ((b : Int) ≤ z ∧ (b : Int) - 1 = (Z : Int)) := by rw [← hZ]; unfold cl; omega
  rw [hX, hZ] at K hi
  obtain ⟨q, hq⟩ : ∃ q, a * Z = q := ⟨_, rfl⟩
  have hqi : (a : Int) * (Z : Int) = (q : Int) := by rw [← hq, Int.natCast_mul]
  have hq0 : Z = 0 → q = 0 := fun e => by rw [← hq, e]; rfl
  rw [hq] at hi K
  clear hcell hf h hr hX hZ hm hq hNN hN hg hc hl
  have X1 := Lib.hid X0.out
  have HQ0 := Lib.hid hq0
  clear X0 hq0
  rcases cX with ⟨x1, rfl⟩ | ⟨x1, rfl⟩ | ⟨x1, x3⟩ <;> rcases cZ with ⟨z1, rfl⟩ | ⟨z1, rfl⟩ | ⟨z1, z3⟩
  all_goals
    (try (obtain rfl := HQ0.out rfl; clear hqi))
    clear HQ0
    (try simp only [Nat.zero_add, Nat.add_zero] at K)
    go_enter Try.func56, Try.ntmps56
    go_wp2
    go_ret
    exact ⟨rfl, X1.out⟩
section
variable {P : Program} {ops : Array Oper} {T : FuncId → Array Value → Value → Prop} {Q : Act → Prop} {a : Act} {o : Oper} {rest : List Oper}
/-- An operation that leaves the world as it is, in a class of worlds that keep what lies below. -/
theorem wpRel_under {W : World} (hp : plainOp o.op = true) (hg : Region.wanted o (yielded ops a.tmps) = true)
    (h : ∀ w, Below W.heap.size W w → ∀ K : Act → World → Prop, (∀ a', wpRel P ops (Below W.heap.size W) T Q rest a' → K a' w) → o.wp P a w K (fun _ _ _ => False)) : wpRel P ops (Below W.heap.size W) T Q (o :: rest) a :=
  wpRel_op hp hg ⟨W, Below.refl _ _⟩ fun w hw K hK => h w hw K fun a' hr => hK a' w ⟨hw, hr⟩
/-- An operation that draws. -/
theorem wpRel_drawU {W : World} (hp : plainOp o.op = true) (hg : Region.wanted o (yielded ops a.tmps) = true)
    (h : ∀ w, Below W.heap.size W w → ∀ K : Act → World → Prop, (∀ a' n, wpRel P ops (Below W.heap.size W) T Q rest a' → K a' (w.drewN n)) → o.wp P a w K (fun _ _ _ => False)) : wpRel P ops (Below W.heap.size W) T Q (o :: rest) a :=
  wpRel_op hp hg ⟨W, Below.refl _ _⟩ fun w hw K hK => h w hw K fun a' n hr => hK a' _ ⟨Below.drewN hw n, hr⟩
end
/-- What a call of 'near' hands back. -/
def nearT (A : List Nat) (a b : Nat) : FuncId → Array Value → Value → Prop := fun _ args u => u = .float .f32 (nearF A a b (intOf (args.getD 1 undef)) (intOf (args.getD 2 undef)))
def aroundF (A : List Nat) (a b x z : Nat) : Nat := fop .add .f32 (fop .add .f32 (fop .add .f32 (nearF A a b ((x : Int) - 1) z) (nearF A a b ((x : Int) + 1) z)) (nearF A a b x ((z : Int) - 1))) (nearF A a b x ((z : Int) + 1))
def smoothF (A : List Nat) (a b s x z : Nat) : Nat := fop .add .f32 (fop .mul .f32 (fop .sub .f32 1065353216 s) (nearF A a b x z)) (fop .mul .f32 s (fop .mul .f32 1048576000 (aroundF A a b x z)))
def edgeF (A : List Nat) (a b x z : Nat) : Nat := fop .mul .f32 1056964608 (fop .sub .f32 (nearF A a b x ((z : Int) + 1)) (nearF A a b x ((z : Int) - 1)))
theorem fv_const (c : Nat) (h : c < 4294967296) (h2 : isN .f32 c = false) : FV .f32 c c := ⟨by first | exact ⟨h, can_of_not h2⟩ | exact h, by first | exact can_of_not h2 | rfl⟩
set_option maxRecDepth 100000 in
set_option maxHeartbeats 3200000 in
theorem smooth1_any (w : World) (v : Value) (A : List Nat) (a b s x z g h_ : Nat) (h : RdF w v A) (hl : A.length = a * b) (hN : ∀ j, isN .f32 (A.getD j 0) = false) (ha : 1 ≤ a) (ha2 : a ≤ 16) (hb : 1 ≤ b) (hb2 : b ≤ 16) (hx : x < a) (hz : z < b)
    (hg : w.heap[g]? = some (.cells #[.int .i64 a, .int .i64 b, v] 27 (0, 0))) (hh : w.heap[h_]? = some (.cells #[.float .f32 s] 31 (0, 0))) (hs : FV .f32 s s) :
    Calls Try.prog 55 #[.int .i64 x, .int .i64 z, .pointer (some ⟨g, 0, none⟩), .pointer (some ⟨h_, 0, none⟩)] w fun e w' => ∃ r, e = .returned (.float .f32 r) ∧ FV .f32 r (smoothF A a b s x z) ∧ Below w.heap.size w w' := by
  have hadd := run_fadd (P := Try.prog)
  have hsub := run_fsub (P := Try.prog)
  have hmul := run_fmul (P := Try.prog)
  have HS := Lib.hid hs
  have HNear : Hid (∀ wq, Below w.heap.size w wq → ∀ x z : Int, -1000 ≤ x → x ≤ 1000 → -1000 ≤ z → z ≤ 1000 → Calls Try.prog 56 #[.agg #[.int .i64 a, .int .i64 b, v], .int .i64 x, .int .i64 z] wq fun e w' => e = .returned (.float .f32 (nearF A a b x z)) ∧ Below wq.heap.size wq w') :=
    Lib.hid fun wq hq x z h0 h1 h2 h3 => near_any wq v A a b x z (h.mono hq) hl hN ha ha2 hb hb2 h0 h1 h2 h3
  have HFV : Hid (∀ x z : Int, FV .f32 (nearF A a b x z) (nearF A a b x z)) := Lib.hid fun x z => by
    obtain ⟨_, _, _, _, _, hcell⟩ := h.opened
    obtain ⟨_, _, r, _, _, hf⟩ := hcell (cl x a + a * cl z b) (by rw [hl]; exact near_lt x z ha hb)
    have e : r = nearF A a b x z := fv_wordS hf (hN _)
    rw [← e]
    rw [e]
    rw [e] at hf
    exact hf
  obtain ⟨ad, c, rfl, -⟩ := h.opened
  obtain ⟨n, hn⟩ : ∃ n, A.length = n := ⟨_, rfl⟩
  rw [hn] at hg HNear
  have HK : Hid (∀ wq, Below w.heap.size w wq → wq.cell? ⟨g, 0, none⟩ = some (.int .i64 a) ∧ wq.cell? ⟨g, 1, none⟩ = some (.int .i64 b) ∧ wq.cell? ⟨g, 2, none⟩ = some (.slice ad n c) ∧ wq.cell? ⟨h_, 0, none⟩ = some (.float .f32 s)) := Lib.hid fun wq hq => by
    obtain ⟨k0, k1, k2, -, -, -⟩ := blk3 ((hq.block _ (Array.getElem?_eq_some_iff.1 hg).1).trans hg)
    exact ⟨k0, k1, k2, cell_of_row wq h_ 0 _ _ _ ((hq.block _ (Array.getElem?_eq_some_iff.1 hh).1).trans hh)⟩
  clear h hl hN hg hh hs hn
  go_enter Try.func55, Try.ntmps55
  go_wp2_with fail
  refine region_rel_all (by kernel_rfl) (by kernel_rfl) (Below w.heap.size w) (nearT A a b) (Below.drewN (Below.refl _ _) 1) ?_
  refine wpRel_under rfl rfl (fun wq hq K hK => ?_); obtain ⟨k0, k1, k2, k3⟩ := HK.out wq hq; go_wp2; clear k0 k1 k2 k3
  refine wpRel_under rfl rfl (fun wq hq K hK => ?_); obtain ⟨k0, k1, k2, k3⟩ := HK.out wq hq; go_wp2; clear k0 k1 k2 k3
  refine wpRel_under rfl rfl (fun wq hq K hK => ?_); obtain ⟨k0, k1, k2, k3⟩ := HK.out wq hq; go_wp2; clear k0 k1 k2 k3
  refine wpRel_under rfl rfl (fun wq hq K hK => ?_); obtain ⟨k0, k1, k2, k3⟩ := HK.out wq hq; go_wp2; clear k0 k1 k2 k3
  refine wpRel_callF #[.agg #[.int .i64 a, .int .i64 b, .slice ad n c], .int .i64 ((x : Int) - 1), .int .i64 (z : Int)] Try.func56 (by kernel_rfl) (by kernel_rfl) (by simp [go_sem]) ⟨w, Below.refl _ _⟩ ⟨_, rfl⟩
    (fun wq hq => (HNear.out wq (hq) ((x : Int) - 1) (z : Int) (by omega) (by omega) (by omega) (by omega)).mono fun e w'' ⟨he, hb⟩ => ⟨_, he, rfl, hq.trans (hb.mono hq.size)⟩) ?_
  intro u hu
  obtain rfl : u = .float .f32 (nearF A a b ((x : Int) - 1) (z : Int)) := hu
  simp only [Act.put, List.setIfInBounds_toArray, List.set_cons_succ, List.set_cons_zero]
  have fN1 := HFV.out ((x : Int) - 1) (z : Int)
  obtain ⟨N1, hN1⟩ : ∃ N, nearF A a b ((x : Int) - 1) (z : Int) = N := ⟨_, rfl⟩
  rw [hN1] at fN1 ⊢
  have FN1 := Lib.hid fN1
  have HN1 := Lib.hid hN1
  clear fN1 hN1
  refine wpRel_under rfl rfl (fun wq hq K hK => ?_); obtain ⟨k0, k1, k2, k3⟩ := HK.out wq hq; go_wp2; clear k0 k1 k2 k3
  refine wpRel_under rfl rfl (fun wq hq K hK => ?_); obtain ⟨k0, k1, k2, k3⟩ := HK.out wq hq; go_wp2; clear k0 k1 k2 k3
  refine wpRel_under rfl rfl (fun wq hq K hK => ?_); obtain ⟨k0, k1, k2, k3⟩ := HK.out wq hq; go_wp2; clear k0 k1 k2 k3
  refine wpRel_under rfl rfl (fun wq hq K hK => ?_); obtain ⟨k0, k1, k2, k3⟩ := HK.out wq hq; go_wp2; clear k0 k1 k2 k3
  refine wpRel_callF #[.agg #[.int .i64 a, .int .i64 b, .slice ad n c], .int .i64 ((x : Int) + 1), .int .i64 (z : Int)] Try.func56 (by kernel_rfl) (by kernel_rfl) (by simp [go_sem]) ⟨w, Below.refl _ _⟩ ⟨_, rfl⟩
    (fun wq hq => (HNear.out wq (hq) ((x : Int) + 1) (z : Int) (by omega) (by omega) (by omega) (by omega)).mono fun e w'' ⟨he, hb⟩ => ⟨_, he, rfl, hq.trans (hb.mono hq.size)⟩) ?_
  intro u hu
  obtain rfl : u = .float .f32 (nearF A a b ((x : Int) + 1) (z : Int)) := hu
  simp only [Act.put, List.setIfInBounds_toArray, List.set_cons_succ, List.set_cons_zero]
  have fN2 := HFV.out ((x : Int) + 1) (z : Int)
  obtain ⟨N2, hN2⟩ : ∃ N, nearF A a b ((x : Int) + 1) (z : Int) = N := ⟨_, rfl⟩
  rw [hN2] at fN2 ⊢
  have FN2 := Lib.hid fN2
  have HN2 := Lib.hid hN2
  clear fN2 hN2
  refine wpRel_drawU rfl rfl (fun wq hq K hK => ?_)
  obtain ⟨k0, k1, k2, k3⟩ := HK.out wq hq
  go_wp2
  clear k0 k1 k2 k3
  have Fr1 := Lib.hid (FV.op (op := .add) FN1.out FN2.out wq)
  generalize fres .add .f32 N1 N2 wq = r1 at *
  refine wpRel_under rfl rfl (fun wq hq K hK => ?_); obtain ⟨k0, k1, k2, k3⟩ := HK.out wq hq; go_wp2; clear k0 k1 k2 k3
  refine wpRel_under rfl rfl (fun wq hq K hK => ?_); obtain ⟨k0, k1, k2, k3⟩ := HK.out wq hq; go_wp2; clear k0 k1 k2 k3
  refine wpRel_under rfl rfl (fun wq hq K hK => ?_); obtain ⟨k0, k1, k2, k3⟩ := HK.out wq hq; go_wp2; clear k0 k1 k2 k3
  refine wpRel_under rfl rfl (fun wq hq K hK => ?_); obtain ⟨k0, k1, k2, k3⟩ := HK.out wq hq; go_wp2; clear k0 k1 k2 k3
  refine wpRel_callF #[.agg #[.int .i64 a, .int .i64 b, .slice ad n c], .int .i64 (x : Int), .int .i64 ((z : Int) - 1)] Try.func56 (by kernel_rfl) (by kernel_rfl) (by simp [go_sem]) ⟨w, Below.refl _ _⟩ ⟨_, rfl⟩
    (fun wq hq => (HNear.out wq (hq) (x : Int) ((z : Int) - 1) (by omega) (by omega) (by omega) (by omega)).mono fun e w'' ⟨he, hb⟩ => ⟨_, he, rfl, hq.trans (hb.mono hq.size)⟩) ?_
  intro u hu
  obtain rfl : u = .float .f32 (nearF A a b (x : Int) ((z : Int) - 1)) := hu
  simp only [Act.put, List.setIfInBounds_toArray, List.set_cons_succ, List.set_cons_zero]
  have fN3 := HFV.out (x : Int) ((z : Int) - 1)
  obtain ⟨N3, hN3⟩ : ∃ N, nearF A a b (x : Int) ((z : Int) - 1) = N := ⟨_, rfl⟩
  rw [hN3] at fN3 ⊢
  have FN3 := Lib.hid fN3
  have HN3 := Lib.hid hN3
  clear fN3 hN3
  refine wpRel_drawU rfl rfl (fun wq hq K hK => ?_)
  obtain ⟨k0, k1, k2, k3⟩ := HK.out wq hq
  go_wp2
  clear k0 k1 k2 k3
  have Fr2 := Lib.hid (FV.op (op := .add) Fr1.out FN3.out wq)
  generalize fres .add .f32 r1 N3 wq = r2 at *
  refine wpRel_under rfl rfl (fun wq hq K hK => ?_); obtain ⟨k0, k1, k2, k3⟩ := HK.out wq hq; go_wp2; clear k0 k1 k2 k3
  refine wpRel_under rfl rfl (fun wq hq K hK => ?_); obtain ⟨k0, k1, k2, k3⟩ := HK.out wq hq; go_wp2; clear k0 k1 k2 k3
  refine wpRel_under rfl rfl (fun wq hq K hK => ?_); obtain ⟨k0, k1, k2, k3⟩ := HK.out wq hq; go_wp2; clear k0 k1 k2 k3
  refine wpRel_under rfl rfl (fun wq hq K hK => ?_); obtain ⟨k0, k1, k2, k3⟩ := HK.out wq hq; go_wp2; clear k0 k1 k2 k3
  refine wpRel_callF #[.agg #[.int .i64 a, .int .i64 b, .slice ad n c], .int .i64 (x : Int), .int .i64 ((z : Int) + 1)] Try.func56 (by kernel_rfl) (by kernel_rfl) (by simp [go_sem]) ⟨w, Below.refl _ _⟩ ⟨_, rfl⟩
    (fun wq hq => (HNear.out wq (hq) (x : Int) ((z : Int) + 1) (by omega) (by omega) (by omega) (by omega)).mono fun e w'' ⟨he, hb⟩ => ⟨_, he, rfl, hq.trans (hb.mono hq.size)⟩) ?_
  intro u hu
  obtain rfl : u = .float .f32 (nearF A a b (x : Int) ((z : Int) + 1)) := hu
  simp only [Act.put, List.setIfInBounds_toArray, List.set_cons_succ, List.set_cons_zero]
  have fN4 := HFV.out (x : Int) ((z : Int) + 1)
  obtain ⟨N4, hN4⟩ : ∃ N, nearF A a b (x : Int) ((z : Int) + 1) = N := ⟨_, rfl⟩
  rw [hN4] at fN4 ⊢
  have FN4 := Lib.hid fN4
  have HN4 := Lib.hid hN4
  clear fN4 hN4
  refine wpRel_drawU rfl rfl (fun wq hq K hK => ?_)
  obtain ⟨k0, k1, k2, k3⟩ := HK.out wq hq
  go_wp2
  clear k0 k1 k2 k3
  have Fr3 := Lib.hid (FV.op (op := .add) Fr2.out FN4.out wq)
  generalize fres .add .f32 r2 N4 wq = r3 at *
  refine wpRel_under rfl rfl (fun wq hq K hK => ?_); obtain ⟨k0, k1, k2, k3⟩ := HK.out wq hq; go_wp2; clear k0 k1 k2 k3
  refine wpRel_nil ?_
  intro wd hbd
  have HD := Lib.hid hbd
  clear hbd
  go_wp2_with fail
  refine region_rel_all (by kernel_rfl) (by kernel_rfl) (Below wd.heap.size wd) (nearT A a b) (Below.drewN (Below.refl _ _) 1) ?_
  refine wpRel_under rfl rfl (fun wq hq K hK => ?_); obtain ⟨k0, k1, k2, k3⟩ := HK.out wq (HD.out.trans (hq.mono HD.out.size)); go_wp2; clear k0 k1 k2 k3
  refine wpRel_drawU rfl rfl (fun wq hq K hK => ?_)
  obtain ⟨k0, k1, k2, k3⟩ := HK.out wq (HD.out.trans (hq.mono HD.out.size))
  go_wp2
  clear k0 k1 k2 k3
  have Fr4 := Lib.hid (FV.op (op := .sub) (fv_const 1065353216 (by decide) (by decide +kernel)) HS.out wq)
  generalize fres .sub .f32 1065353216 s wq = r4 at *
  refine wpRel_under rfl rfl (fun wq hq K hK => ?_); obtain ⟨k0, k1, k2, k3⟩ := HK.out wq (HD.out.trans (hq.mono HD.out.size)); go_wp2; clear k0 k1 k2 k3
  refine wpRel_under rfl rfl (fun wq hq K hK => ?_); obtain ⟨k0, k1, k2, k3⟩ := HK.out wq (HD.out.trans (hq.mono HD.out.size)); go_wp2; clear k0 k1 k2 k3
  refine wpRel_under rfl rfl (fun wq hq K hK => ?_); obtain ⟨k0, k1, k2, k3⟩ := HK.out wq (HD.out.trans (hq.mono HD.out.size)); go_wp2; clear k0 k1 k2 k3
  refine wpRel_callF #[.agg #[.int .i64 a, .int .i64 b, .slice ad n c], .int .i64 (x : Int), .int .i64 (z : Int)] Try.func56 (by kernel_rfl) (by kernel_rfl) (by simp [go_sem]) ⟨wd, Below.refl _ _⟩ ⟨_, rfl⟩
    (fun wq hq => (HNear.out wq (HD.out.trans (hq.mono HD.out.size)) (x : Int) (z : Int) (by omega) (by omega) (by omega) (by omega)).mono fun e w'' ⟨he, hb⟩ => ⟨_, he, rfl, hq.trans (hb.mono hq.size)⟩) ?_
  intro u hu
  obtain rfl : u = .float .f32 (nearF A a b (x : Int) (z : Int)) := hu
  simp only [Act.put, List.setIfInBounds_toArray, List.set_cons_succ, List.set_cons_zero]
  have fN5 := HFV.out (x : Int) (z : Int)
  obtain ⟨N5, hN5⟩ : ∃ N, nearF A a b (x : Int) (z : Int) = N := ⟨_, rfl⟩
  rw [hN5] at fN5 ⊢
  have FN5 := Lib.hid fN5
  have HN5 := Lib.hid hN5
  clear fN5 hN5
  refine wpRel_drawU rfl rfl (fun wq hq K hK => ?_)
  obtain ⟨k0, k1, k2, k3⟩ := HK.out wq (HD.out.trans (hq.mono HD.out.size))
  go_wp2
  clear k0 k1 k2 k3
  have Fr5 := Lib.hid (FV.op (op := .mul) Fr4.out FN5.out wq)
  generalize fres .mul .f32 r4 N5 wq = r5 at *
  refine wpRel_under rfl rfl (fun wq hq K hK => ?_); obtain ⟨k0, k1, k2, k3⟩ := HK.out wq (HD.out.trans (hq.mono HD.out.size)); go_wp2; clear k0 k1 k2 k3
  refine wpRel_under rfl rfl (fun wq hq K hK => ?_); obtain ⟨k0, k1, k2, k3⟩ := HK.out wq (HD.out.trans (hq.mono HD.out.size)); go_wp2; clear k0 k1 k2 k3
  refine wpRel_drawU rfl rfl (fun wq hq K hK => ?_)
  obtain ⟨k0, k1, k2, k3⟩ := HK.out wq (HD.out.trans (hq.mono HD.out.size))
  go_wp2
  clear k0 k1 k2 k3
  have Fr6 := Lib.hid (FV.op (op := .mul) (fv_const 1048576000 (by decide) (by decide +kernel)) Fr3.out wq)
  generalize fres .mul .f32 1048576000 r3 wq = r6 at *
  refine wpRel_drawU rfl rfl (fun wq hq K hK => ?_)
  obtain ⟨k0, k1, k2, k3⟩ := HK.out wq (HD.out.trans (hq.mono HD.out.size))
  go_wp2
  clear k0 k1 k2 k3
  have Fr7 := Lib.hid (FV.op (op := .mul) HS.out Fr6.out wq)
  generalize fres .mul .f32 s r6 wq = r7 at *
  refine wpRel_drawU rfl rfl (fun wq hq K hK => ?_)
  obtain ⟨k0, k1, k2, k3⟩ := HK.out wq (HD.out.trans (hq.mono HD.out.size))
  go_wp2
  clear k0 k1 k2 k3
  have Fr8 := Lib.hid (FV.op (op := .add) Fr5.out Fr7.out wq)
  generalize fres .add .f32 r5 r7 wq = r8 at *
  refine wpRel_under rfl rfl (fun wq hq K hK => ?_); obtain ⟨k0, k1, k2, k3⟩ := HK.out wq (HD.out.trans (hq.mono HD.out.size)); go_wp2; clear k0 k1 k2 k3
  refine wpRel_nil ?_
  intro we hbe
  have HE := Lib.hid (HD.out.trans (hbe.mono HD.out.size))
  clear hbe
  go_wp2
  go_ret
  have e : smoothF A a b s x z = fop .add .f32 (fop .mul .f32 (fop .sub .f32 1065353216 s) N5) (fop .mul .f32 s (fop .mul .f32 1048576000 (fop .add .f32 (fop .add .f32 (fop .add .f32 N1 N2) N3) N4))) := by
    unfold smoothF aroundF
    rw [HN1.out, HN2.out, HN3.out, HN4.out, HN5.out]
  exact ⟨_, rfl, by rw [e]; exact Fr8.out, HE.out⟩
set_option maxRecDepth 100000 in
set_option maxHeartbeats 3200000 in
theorem edge1_any (w : World) (v : Value) (A : List Nat) (a b x z g : Nat) (h : RdF w v A) (hl : A.length = a * b) (hN : ∀ j, isN .f32 (A.getD j 0) = false) (ha : 1 ≤ a) (ha2 : a ≤ 16) (hb : 1 ≤ b) (hb2 : b ≤ 16) (hx : x < a) (hz : z < b)
    (hg : w.heap[g]? = some (.cells #[.int .i64 a, .int .i64 b, v] 27 (0, 0))) :
    Calls Try.prog 57 #[.int .i64 x, .int .i64 z, .pointer (some ⟨g, 0, none⟩)] w fun e w' => ∃ r, e = .returned (.float .f32 r) ∧ FV .f32 r (edgeF A a b x z) ∧ Below w.heap.size w w' := by
  have hsub := run_fsub (P := Try.prog)
  have hmul := run_fmul (P := Try.prog)
  have HNear : Hid (∀ wq, Below w.heap.size w wq → ∀ x z : Int, -1000 ≤ x → x ≤ 1000 → -1000 ≤ z → z ≤ 1000 → Calls Try.prog 56 #[.agg #[.int .i64 a, .int .i64 b, v], .int .i64 x, .int .i64 z] wq fun e w' => e = .returned (.float .f32 (nearF A a b x z)) ∧ Below wq.heap.size wq w') :=
    Lib.hid fun wq hq x z h0 h1 h2 h3 => near_any wq v A a b x z (h.mono hq) hl hN ha ha2 hb hb2 h0 h1 h2 h3
  have HFV : Hid (∀ x z : Int, FV .f32 (nearF A a b x z) (nearF A a b x z)) := Lib.hid fun x z => by
    obtain ⟨_, _, _, _, _, hcell⟩ := h.opened
    obtain ⟨_, _, r, _, _, hf⟩ := hcell (cl x a + a * cl z b) (by rw [hl]; exact near_lt x z ha hb)
    have e : r = nearF A a b x z := fv_wordS hf (hN _)
    rw [← e]
    rw [e]
    rw [e] at hf
    exact hf
  obtain ⟨ad, c, rfl, -⟩ := h.opened
  obtain ⟨n, hn⟩ : ∃ n, A.length = n := ⟨_, rfl⟩
  rw [hn] at hg HNear
  have HK : Hid (∀ wq, Below w.heap.size w wq → wq.cell? ⟨g, 0, none⟩ = some (.int .i64 a) ∧ wq.cell? ⟨g, 1, none⟩ = some (.int .i64 b) ∧ wq.cell? ⟨g, 2, none⟩ = some (.slice ad n c) ∧ True) := Lib.hid fun wq hq => by
    obtain ⟨k0, k1, k2, -, -, -⟩ := blk3 ((hq.block _ (Array.getElem?_eq_some_iff.1 hg).1).trans hg)
    exact ⟨k0, k1, k2, trivial⟩
  clear h hl hN hg hn
  go_enter Try.func57, Try.ntmps57
  go_wp2_with fail
  refine region_rel_all (by kernel_rfl) (by kernel_rfl) (Below w.heap.size w) (nearT A a b) (Below.drewN (Below.refl _ _) 1) ?_
  refine wpRel_under rfl rfl (fun wq hq K hK => ?_); obtain ⟨k0, k1, k2, k3⟩ := HK.out wq hq; go_wp2; clear k0 k1 k2 k3
  refine wpRel_under rfl rfl (fun wq hq K hK => ?_); obtain ⟨k0, k1, k2, k3⟩ := HK.out wq hq; go_wp2; clear k0 k1 k2 k3
  refine wpRel_under rfl rfl (fun wq hq K hK => ?_); obtain ⟨k0, k1, k2, k3⟩ := HK.out wq hq; go_wp2; clear k0 k1 k2 k3
  refine wpRel_under rfl rfl (fun wq hq K hK => ?_); obtain ⟨k0, k1, k2, k3⟩ := HK.out wq hq; go_wp2; clear k0 k1 k2 k3
  refine wpRel_callF #[.agg #[.int .i64 a, .int .i64 b, .slice ad n c], .int .i64 (x : Int), .int .i64 ((z : Int) + 1)] Try.func56 (by kernel_rfl) (by kernel_rfl) (by simp [go_sem]) ⟨w, Below.refl _ _⟩ ⟨_, rfl⟩
    (fun wq hq => (HNear.out wq (hq) (x : Int) ((z : Int) + 1) (by omega) (by omega) (by omega) (by omega)).mono fun e w'' ⟨he, hb⟩ => ⟨_, he, rfl, hq.trans (hb.mono hq.size)⟩) ?_
  intro u hu
  obtain rfl : u = .float .f32 (nearF A a b (x : Int) ((z : Int) + 1)) := hu
  simp only [Act.put, List.setIfInBounds_toArray, List.set_cons_succ, List.set_cons_zero]
  have fN1 := HFV.out (x : Int) ((z : Int) + 1)
  obtain ⟨N1, hN1⟩ : ∃ N, nearF A a b (x : Int) ((z : Int) + 1) = N := ⟨_, rfl⟩
  rw [hN1] at fN1 ⊢
  have FN1 := Lib.hid fN1
  have HN1 := Lib.hid hN1
  clear fN1 hN1
  refine wpRel_under rfl rfl (fun wq hq K hK => ?_); obtain ⟨k0, k1, k2, k3⟩ := HK.out wq hq; go_wp2; clear k0 k1 k2 k3
  refine wpRel_under rfl rfl (fun wq hq K hK => ?_); obtain ⟨k0, k1, k2, k3⟩ := HK.out wq hq; go_wp2; clear k0 k1 k2 k3
  refine wpRel_under rfl rfl (fun wq hq K hK => ?_); obtain ⟨k0, k1, k2, k3⟩ := HK.out wq hq; go_wp2; clear k0 k1 k2 k3
  refine wpRel_under rfl rfl (fun wq hq K hK => ?_); obtain ⟨k0, k1, k2, k3⟩ := HK.out wq hq; go_wp2; clear k0 k1 k2 k3
  refine wpRel_callF #[.agg #[.int .i64 a, .int .i64 b, .slice ad n c], .int .i64 (x : Int), .int .i64 ((z : Int) - 1)] Try.func56 (by kernel_rfl) (by kernel_rfl) (by simp [go_sem]) ⟨w, Below.refl _ _⟩ ⟨_, rfl⟩
    (fun wq hq => (HNear.out wq (hq) (x : Int) ((z : Int) - 1) (by omega) (by omega) (by omega) (by omega)).mono fun e w'' ⟨he, hb⟩ => ⟨_, he, rfl, hq.trans (hb.mono hq.size)⟩) ?_
  intro u hu
  obtain rfl : u = .float .f32 (nearF A a b (x : Int) ((z : Int) - 1)) := hu
  simp only [Act.put, List.setIfInBounds_toArray, List.set_cons_succ, List.set_cons_zero]
  have fN2 := HFV.out (x : Int) ((z : Int) - 1)
  obtain ⟨N2, hN2⟩ : ∃ N, nearF A a b (x : Int) ((z : Int) - 1) = N := ⟨_, rfl⟩
  rw [hN2] at fN2 ⊢
  have FN2 := Lib.hid fN2
  have HN2 := Lib.hid hN2
  clear fN2 hN2
  refine wpRel_drawU rfl rfl (fun wq hq K hK => ?_)
  obtain ⟨k0, k1, k2, k3⟩ := HK.out wq hq
  go_wp2
  clear k0 k1 k2 k3
  have Fr1 := Lib.hid (FV.op (op := .sub) FN1.out FN2.out wq)
  generalize fres .sub .f32 N1 N2 wq = r1 at *
  refine wpRel_drawU rfl rfl (fun wq hq K hK => ?_)
  obtain ⟨k0, k1, k2, k3⟩ := HK.out wq hq
  go_wp2
  clear k0 k1 k2 k3
  have Fr2 := Lib.hid (FV.op (op := .mul) (fv_const 1056964608 (by decide) (by decide +kernel)) Fr1.out wq)
  generalize fres .mul .f32 1056964608 r1 wq = r2 at *
  refine wpRel_under rfl rfl (fun wq hq K hK => ?_); obtain ⟨k0, k1, k2, k3⟩ := HK.out wq hq; go_wp2; clear k0 k1 k2 k3
  refine wpRel_nil ?_
  intro wd hbd
  have HD := Lib.hid hbd
  clear hbd
  go_wp2
  go_ret
  have e : edgeF A a b x z = fop .mul .f32 1056964608 (fop .sub .f32 N1 N2) := by
    unfold edgeF
    rw [HN1.out, HN2.out]
  exact ⟨_, rfl, by rw [e]; exact Fr2.out, HD.out⟩
end Go.Proofs.Ytjhbcnmkamkkaaa
