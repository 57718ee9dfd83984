/- Walks: how the program compares frames. -/
import Derived.Test.YtibojlpeaolfbaaShF
import Derived.Test.YtibojlpeaolfbaaCln
namespace Go.Proofs.Ytibojlpeaolfbaa
open Go Go.RowKit
open Go.Sort (grow grow_grow grow_empty)

/-- w' is w behind some draws, with some blocks behind it. -/
def Grown (w w' : World) : Prop := ∃ (n : Nat) (os : Array Obj), w' = grow (w.drewN n) os
theorem Grown.refl (w : World) : Grown w w := ⟨0, #[], by rw [grow_empty]; rfl⟩
theorem Grown.trans {a b c : World} (h : Grown a b) (k : Grown b c) : Grown a c := by
  obtain ⟨n, os, rfl⟩ := h
  obtain ⟨m, os', rfl⟩ := k
  refine ⟨n + m, os ++ os', ?_⟩
  show grow (grow ((a.drewN n).drewN m) os) os' = _
  rw [grow_grow, World.drewN_drewN]
theorem Grown.alloc (w : World) (o : Obj) : Grown w (w.alloc o) := ⟨0, #[o], Go.Sort.alloc_eq_grow w o⟩
theorem Grown.drew (w : World) : Grown w w.drew := ⟨1, #[], by rw [grow_empty]; rfl⟩
theorem Grown.drewN (w : World) (n : Nat) : Grown w (w.drewN n) := ⟨n, #[], by rw [grow_empty]⟩
theorem Grown.below {a b : World} (h : Grown a b) : Below a.heap.size a b := by
  obtain ⟨n, os, rfl⟩ := h
  exact ⟨rfl, rfl, rfl, by simp [grow], fun k hk => Go.Sort.heap_grow_old (a.drewN n) os hk⟩
section
variable {P : Program} {ops : Array Oper} {T : FuncId → Array Value → Value → Prop} {Q : Act → Prop} {a : Act} {o : Oper} {rest : List Oper}
theorem wpRel_grown {W : World} (hp : plainOp o.op = true) (hg : Region.wanted o (yielded ops a.tmps) = true)
    (h : ∀ w, Grown W w → ∀ K : Act → World → Prop, (∀ a', wpRel P ops (Grown W) T Q rest a' → K a' w) → o.wp P a w K (fun _ _ _ => False)) : wpRel P ops (Grown W) T Q (o :: rest) a :=
  wpRel_op hp hg ⟨W, Grown.refl _⟩ fun w hw K hK => h w hw K fun a' hr => hK a' w ⟨hw, hr⟩
end

def cmpI (a b : Int) : Int := if a < b then -1 else if b < a then 1 else 0
def cmpF (x y : FM) : Int := if cmpI x.st y.st = 0 then cmpI x.sa y.sa else cmpI x.st y.st
theorem cmpF_lt (x y : FM) : decide (cmpF x y < 0) = ltF x y := by
  unfold cmpF ltF cmpI
  by_cases h1 : x.st < y.st
  · simp [h1]
  · by_cases h2 : y.st < x.st
    · have h3 : ¬ x.st = y.st := by omega
      simp [h1, h2, h3]
    · have h3 : x.st = y.st := by omega
      by_cases h4 : x.sa < y.sa
      · simp [h3, h4]
      · by_cases h5 : y.sa < x.sa
        · simp [h3, h4, h5]
        · simp [h3, h4, h5]

set_option maxRecDepth 100000 in
theorem isNaNI_any (w : World) (a : Int) : Calls Try.prog 136 #[.int .i64 a] w fun e w' => e = .returned (.bool false) ∧ w' = w := by
  go_enter Try.func136, Try.ntmps136
  go_wp2
  go_ret
  exact ⟨by simp, rfl⟩
set_option maxRecDepth 100000 in
set_option maxHeartbeats 800000 in
theorem compareI_any (w : World) (a b : Int) : Calls Try.prog 111 #[.int .i64 a, .int .i64 b] w fun e w' => e = .returned (.int .i64 (cmpI a b)) ∧ w' = w := by
  have HE : ∀ x, x = cmpI a b → Hid (x = cmpI a b) := fun x h => Lib.hid h
  by_cases h1 : a < b
  · have H := HE (-1) (by simp [cmpI, h1])
    go_enter Try.func111, Try.ntmps111
    go_wp2_with fail
    refine (isNaNI_any w a).mono ?_
    rintro e w1 ⟨rfl, rfl⟩
    go_wp2_with fail
    refine (isNaNI_any _ b).mono ?_
    rintro e w1 ⟨rfl, rfl⟩
    go_wp2
    go_ret
    exact ⟨by rw [← H.out]; rfl, rfl⟩
  · by_cases h2 : b < a
    · have H := HE 1 (by simp [cmpI, h1, h2])
      go_enter Try.func111, Try.ntmps111
      go_wp2_with fail
      refine (isNaNI_any w a).mono ?_
      rintro e w1 ⟨rfl, rfl⟩
      go_wp2_with fail
      refine (isNaNI_any _ b).mono ?_
      rintro e w1 ⟨rfl, rfl⟩
      go_wp2
      go_ret
      exact ⟨by rw [← H.out]; rfl, rfl⟩
    · have H := HE 0 (by simp [cmpI, h1, h2])
      go_enter Try.func111, Try.ntmps111
      go_wp2_with fail
      refine (isNaNI_any w a).mono ?_
      rintro e w1 ⟨rfl, rfl⟩
      go_wp2_with fail
      refine (isNaNI_any _ b).mono ?_
      rintro e w1 ⟨rfl, rfl⟩
      go_wp2
      go_ret
      exact ⟨by rw [← H.out]; rfl, rfl⟩
set_option maxRecDepth 100000 in
set_option maxHeartbeats 800000 in
theorem orI_any (w : World) (g : Nat) (a b : Int) (h0 : w.cell? ⟨g, 0, none⟩ = some (.int .i64 a)) (h1 : w.cell? ⟨g, 1, none⟩ = some (.int .i64 b)) :
    Calls Try.prog 110 #[.slice (some ⟨g, 0, none⟩) 2 2] w fun e w' => e = .returned (.int .i64 (if a = 0 then b else a)) ∧ w' = w := by
  go_enter Try.func110, Try.ntmps110
  go_wp2
  go_loop [8] (fun i => ∃ k : Nat, k ≤ 2 ∧ i = .int .i64 k ∧ (1 ≤ k → a = 0) ∧ (2 ≤ k → b = 0)) (fun i => 2 - (intOf i).toNat)
  case atStart => exact ⟨0, by omega, rfl, fun h => by omega, fun h => by omega⟩
  case round =>
    obtain ⟨k, hk, rfl, ka, kb⟩ := hrel
    match k, hk with
    | 0, _ =>
      clear ka kb
      by_cases ha : a = 0
      · subst ha
        go_wp2
        exact ⟨⟨1, by omega, rfl, fun _ => trivial, fun h => by omega⟩, by simp [intOf]⟩
      · have ha2 : (a != 0) = true := by simp [ha]
        go_wp2
        go_ret
        exact ⟨rfl, rfl⟩
    | 1, _ =>
      obtain rfl := ka (by omega)
      clear ka kb
      by_cases hb : b = 0
      · subst hb
        go_wp2
        exact ⟨⟨2, by omega, rfl, fun _ => trivial, fun _ => trivial⟩, by simp [intOf]⟩
      · have hb2 : (b != 0) = true := by simp [hb]
        go_wp2
        go_ret
        exact ⟨rfl, rfl⟩
    | 2, _ =>
      obtain rfl := ka (by omega)
      obtain rfl := kb (by omega)
      clear ka kb
      go_wp2
      go_ret
      exact ⟨rfl, rfl⟩
theorem heap2 (w : World) (A B : Obj) : ((w.alloc A).alloc B).heap[w.heap.size]? = some A ∧ ((w.alloc A).alloc B).heap[w.heap.size + 1]? = some B := by
  have s1 : (w.alloc A).heap.size = w.heap.size + 1 := World.size_alloc _ _
  refine ⟨?_, ?_⟩
  · rw [Below.heap_alloc _ _ _ (by omega), heap_alloc_new]
  · rw [← s1, heap_alloc_new]
def cmpT (f : FuncId) (args : Array Value) (v : Value) : Prop := f = 111 ∧ ∃ a b, args = #[.int .i64 a, .int .i64 b] ∧ v = .int .i64 (cmpI a b)
set_option maxRecDepth 100000 in
set_option maxHeartbeats 1600000 in
theorem sortedCmp_any (w : World) (x y : FE) :
    Calls Try.prog 109 #[.agg (encE x).toArray, .agg (encE y).toArray] w fun e w' => e = .returned (.int .i64 (cmpF x.f y.f)) ∧ Grown w w' := by
  obtain ⟨⟨xst, xsa, xL⟩, xa, xc⟩ := x
  obtain ⟨⟨yst, ysa, yL⟩, ya, yc⟩ := y
  simp only [encE, FE.tr]
  obtain ⟨W, hW⟩ : ∃ W, ((w.alloc (.cells #[.int .i64 xst, .int .i64 xsa, .slice xa xL.length xc] 31)).alloc (.cells #[.int .i64 yst, .int .i64 ysa, .slice ya yL.length yc] 31)) = W := ⟨_, rfl⟩
  have hG : Grown w W := by rw [← hW]; exact (Grown.alloc _ _).trans (Grown.alloc _ _)
  have h2 := heap2 w (.cells #[.int .i64 xst, .int .i64 xsa, .slice xa xL.length xc] 31) (.cells #[.int .i64 yst, .int .i64 ysa, .slice ya yL.length yc] 31)
  rw [hW] at h2
  have hs : w.heap.size + 1 < W.heap.size := by rw [← hW]; simp
  go_enter Try.func109, Try.ntmps109
  go_wp2_with fail
  have HG := Lib.hid hG
  have H2 := Lib.hid h2
  clear hW hG h2
  refine region_rel_tail 10 (by kernel_rfl) (by kernel_rfl) (Grown W) cmpT (Grown.drew W) ?_
  simp only [List.take_succ_cons, List.take_zero, List.drop_succ_cons, List.drop_zero]
  have fx : ∀ wq, Grown W wq → wq.cell? ⟨w.heap.size, 0, none⟩ = some (.int .i64 xst) ∧ wq.cell? ⟨w.heap.size, 1, none⟩ = some (.int .i64 xsa) ∧ wq.cell? ⟨w.heap.size + 1, 0, none⟩ = some (.int .i64 yst) ∧ wq.cell? ⟨w.heap.size + 1, 1, none⟩ = some (.int .i64 ysa) := fun wq hq => by
    obtain ⟨k0, k1, -, -, -, -⟩ := blk3 ((hq.below.block w.heap.size (by omega)).trans H2.out.1)
    obtain ⟨l0, l1, -, -, -, -⟩ := blk3 ((hq.below.block (w.heap.size + 1) hs).trans H2.out.2)
    exact ⟨k0, k1, l0, l1⟩
  have FX := Lib.hid fx
  clear fx
  iterate 4 (refine wpRel_grown rfl rfl (fun wq hq K hK => ?_); obtain ⟨q0, q1, q2, q3⟩ := FX.out wq hq; go_wp2; clear q0 q1 q2 q3)
  refine wpRel_callF #[.int .i64 xst, .int .i64 yst] Try.func111 (by kernel_rfl) (by kernel_rfl) (by simp [go_sem]) ⟨W, Grown.refl _⟩ ⟨_, rfl, _, _, rfl, rfl⟩
    (fun wq hq => (compareI_any wq xst yst).mono fun e w'' ⟨he, h2⟩ => ⟨_, he, ⟨rfl, _, _, rfl, rfl⟩, by rw [h2]; exact hq⟩) ?_
  rintro v ⟨-, a, b, hab, rfl⟩
  obtain ⟨rfl, rfl⟩ : xst = a ∧ yst = b := by simpa using hab
  simp only [Act.put, List.setIfInBounds_toArray, List.set_cons_succ, List.set_cons_zero]
  iterate 4 (refine wpRel_grown rfl rfl (fun wq hq K hK => ?_); obtain ⟨q0, q1, q2, q3⟩ := FX.out wq hq; go_wp2; clear q0 q1 q2 q3)
  refine wpRel_callF #[.int .i64 xsa, .int .i64 ysa] Try.func111 (by kernel_rfl) (by kernel_rfl) (by simp [go_sem]) ⟨W, Grown.refl _⟩ ⟨_, rfl, _, _, rfl, rfl⟩
    (fun wq hq => (compareI_any wq xsa ysa).mono fun e w'' ⟨he, h2⟩ => ⟨_, he, ⟨rfl, _, _, rfl, rfl⟩, by rw [h2]; exact hq⟩) ?_
  rintro v ⟨-, a, b, hab2, rfl⟩
  obtain ⟨rfl, rfl⟩ : xsa = a ∧ ysa = b := by simpa using hab2
  simp only [Act.put, List.setIfInBounds_toArray, List.set_cons_succ, List.set_cons_zero]
  refine wpRel_nil ?_
  intro wd hd
  clear hab hab2
  go_wp2_with fail
  refine (orI_any _ wd.heap.size _ _ (cell_of_row _ wd.heap.size 0 _ _ _ (alloc_new _ _)) (cell_of_row _ wd.heap.size 1 _ _ _ (alloc_new _ _))).mono ?_
  obtain ⟨r, hr⟩ : ∃ r, r = cmpF ⟨xst, xsa, xL⟩ ⟨yst, ysa, yL⟩ := ⟨_, rfl⟩
  rintro e w3 ⟨he, rfl⟩
  have he2 : e = .returned (.int .i64 r) := by rw [he, hr]; rfl
  subst he2
  have HRr := Lib.hid hr
  clear he hr
  go_wp2
  go_ret
  exact ⟨by rw [← HRr.out]; rfl, HG.out.trans (hd.trans (Grown.alloc _ _))⟩
end Go.Proofs.Ytibojlpeaolfbaa
