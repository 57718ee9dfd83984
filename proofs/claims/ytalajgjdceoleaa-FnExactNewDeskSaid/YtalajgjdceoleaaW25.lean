/- Walks: a new desk. -/
import Derived.Test.YtalajgjdceoleaaL9
import Derived.Test.YtalajgjdceoleaaBox
namespace Go.Proofs.Ytalajgjdceoleaa
open Go Go.RowKit

theorem alloc_at (w : World) (o : Obj) (k : Nat) (h : k = w.heap.size) : (w.alloc o).heap[k]? = some o := by rw [h]; exact alloc_new w o
/-- A block of numbers. -/
theorem OwnC.ofBlock {w : World} {S : Nat → Prop} {t : TypeId} {size g n : Nat} {us : List Value} {ds : List D1} (h : w.heap[g]? = some (.cells us.toArray t (0, 0))) (hl : us.length = n * size) (hd : us.length = ds.length) (hn : n ≤ maxLen) (hS : S g)
    (hu : ∀ j, j < ds.length → Own1 w S (ds.getD j default) (us.getD j undef)) (h3 : ∀ i j k, i < us.length → j < us.length → (us.getD i undef).ownBlock = some k → (us.getD j undef).ownBlock = some k → i = j)
    (h4 : ∀ j, j < us.length → (us.getD j undef).ownBlock ≠ some g) : OwnC w S t size (.slice (some ⟨g, 0, none⟩) n n) n ds := by
  refine ⟨us, hd, ⟨hl, .inr ⟨g, n, us.toArray, rfl, Nat.zero_le _, h, Nat.le_refl _, hn, by simpa using hl, by simp [← hl]⟩⟩, fun k hk => by cases hk; exact hS, hu, h3, fun j k hj hk e => ?_⟩
  cases e
  exact h4 j hj hk
theorem OwnF.oneAt {w : World} {B g r x : Nat} (h : w.heap[g]? = some (.cells #[.float .f32 r] 26 (0, 0))) (hB : B ≤ g) (hf : FV .f32 r x) : OwnF w B (.slice (some ⟨g, 0, none⟩) 1 1) [x] := by
  refine ⟨[r], rfl, fun j hj => ?_, rfl, .inr ⟨g, 1, #[.float .f32 r], rfl, hB, h, Nat.le_refl _, by decide, rfl, rfl⟩⟩
  obtain rfl : j = 0 := by simp at hj; omega
  exact hf
theorem fv1 : FV .f32 1065353216 1065353216 := by refine ⟨by decide, ?_⟩; decide +kernel
def newK : KM := ⟨⟨1, [1065353216, 1065353216, 1065353216, 0], 1065353216, 1065353216⟩, ⟨1, [0], [[0]]⟩⟩
/-- The blocks of a new desk. -/
theorem newK_own {w : World} {S : Nat → Prop} {g1 g2 g3 g4 : Nat} (h1 : w.heap[g1]? = some (.cells #[.float .f32 1065353216, .float .f32 1065353216, .float .f32 1065353216, .float .f32 0] 57 (0, 0)))
    (h2 : w.heap[g2]? = some (.cells #[.float .f32 0] 26 (0, 0))) (h3 : w.heap[g3]? = some (.cells #[.float .f32 0] 26 (0, 0))) (h4 : w.heap[g4]? = some (.cells #[.slice (some ⟨g3, 0, none⟩) 1 1] 29 (0, 0)))
    (s1 : S g1) (s2 : S g2) (s3 : S g3) (s4 : S g4) (n12 : g1 ≠ g2) (n13 : g1 ≠ g3) (n14 : g1 ≠ g4) (n23 : g2 ≠ g3) (n24 : g2 ≠ g4) (n34 : g3 ≠ g4) :
    OwnK w S (.agg #[.slice (some ⟨g1, 0, none⟩) 1 1, .float .f32 1065353216, .float .f32 1065353216, .int .i64 1, .slice (some ⟨g2, 0, none⟩) 1 1, .slice (some ⟨g4, 0, none⟩) 1 1]) newK := by
  refine ⟨_, _, _, _, _, fun k => k = g1, fun k => k = g2 ∨ k = g3 ∨ k = g4, rfl, ⟨_, _, _, rfl, ?_, fv1, fv1⟩, ⟨_, _, fun k => k = g2, fun k => k = g3 ∨ k = g4, rfl, OwnF.oneAt h2 (Nat.zero_le _) (fv0 _), fun k hk => by cases hk; rfl, ?_, fun k hk => .inl hk, fun k hk => .inr hk, fun k hk e => by rcases e with e | e <;> omega⟩,
    fun k hk => hk ▸ s1, fun k hk => by rcases hk with rfl | rfl | rfl <;> assumption, fun k hk e => by rcases e with e | e | e <;> omega⟩
  · refine OwnC.ofBlock (us := [.float .f32 1065353216, .float .f32 1065353216, .float .f32 1065353216, .float .f32 0]) h1 rfl rfl (by decide) rfl (fun j hj => ?_) (fun i j k hi hj hk => ?_) fun j hj hk => ?_
    · match j, hj with
      | 0, _ => exact Own1.f fv1
      | 1, _ => exact Own1.f fv1
      | 2, _ => exact Own1.f fv1
      | 3, _ => exact Own1.f (fv0 _)
    · match i, hi with
      | 0, _ => cases hk
      | 1, _ => cases hk
      | 2, _ => cases hk
      | 3, _ => cases hk
    · match j, hj with
      | 0, _ => cases hk
      | 1, _ => cases hk
      | 2, _ => cases hk
      | 3, _ => cases hk
  · refine OwnC.ofBlock (us := [.slice (some ⟨g3, 0, none⟩) 1 1]) h4 rfl rfl (by decide) (.inr rfl) (fun j hj => ?_) (fun i j k hi hj _ _ => ?_) fun j hj hk => ?_
    · match j, hj with
      | 0, _ => exact Own1.fs_ (OwnF.oneAt h3 (Nat.zero_le _) (fv0 _)) fun k hk => by cases hk; exact .inl rfl
    · simp at hi hj; omega
    · match j, hj with
      | 0, _ => cases hk; exact n34 rfl

set_option maxRecDepth 100000 in
set_option maxHeartbeats 1600000 in
theorem implNewDesk_any (w : World) :
    Calls Try.prog 10 #[] w fun e w' => ∃ u, e = .returned u ∧ OwnK w' (Iv w.heap.size w'.heap.size) u newK ∧ Below w.heap.size w w' := by
  have hst := run_store_float (P := Try.prog)
  go_enter Try.func10, Try.ntmps10
  go_wp2
  generalize hA : Obj.cells #[.slice (some ⟨w.heap.size + 1, 0, none⟩) 1 1, .float .f32 1065353216, .float .f32 1065353216, .int .i64 1, .slice (some ⟨w.heap.size + 1 + 1, 0, none⟩) 1 1, .slice (some ⟨w.heap.size + 1 + 1 + 1 + 1, 0, none⟩) 1 1] 34 = A
  generalize hB : Obj.cells #[.float .f32 1065353216, .float .f32 1065353216, .float .f32 1065353216, .float .f32 0] 57 = B
  generalize hC : Obj.cells #[.float .f32 0] 26 = C
  generalize hD : Obj.cells #[.slice (some ⟨w.heap.size + 1 + 1 + 1, 0, none⟩) 1 1] 29 = D
  have hs : (((((w.alloc A).alloc B).alloc C).alloc C).alloc D).heap.size = w.heap.size + 5 := by simp only [World.size_alloc]
  have a0 : (((((w.alloc A).alloc B).alloc C).alloc C).alloc D).heap[w.heap.size]? = some A := by
    repeat (rw [Below.heap_alloc _ _ _ (by simp only [World.size_alloc]; omega)])
    exact alloc_at _ _ _ (by simp only [World.size_alloc])
  have a1 : (((((w.alloc A).alloc B).alloc C).alloc C).alloc D).heap[w.heap.size + 1]? = some B := by
    repeat (rw [Below.heap_alloc _ _ _ (by simp only [World.size_alloc]; omega)])
    exact alloc_at _ _ _ (by simp only [World.size_alloc])
  have a2 : (((((w.alloc A).alloc B).alloc C).alloc C).alloc D).heap[w.heap.size + 1 + 1]? = some C := by
    repeat (rw [Below.heap_alloc _ _ _ (by simp only [World.size_alloc]; omega)])
    exact alloc_at _ _ _ (by simp only [World.size_alloc])
  have a3 : (((((w.alloc A).alloc B).alloc C).alloc C).alloc D).heap[w.heap.size + 1 + 1 + 1]? = some C := by
    repeat (rw [Below.heap_alloc _ _ _ (by simp only [World.size_alloc]; omega)])
    exact alloc_at _ _ _ (by simp only [World.size_alloc])
  have a4 : (((((w.alloc A).alloc B).alloc C).alloc C).alloc D).heap[w.heap.size + 1 + 1 + 1 + 1]? = some D := by
    exact alloc_at _ _ _ (by simp only [World.size_alloc])
  have hb : Below w.heap.size w (((((w.alloc A).alloc B).alloc C).alloc C).alloc D) := by (repeat (first | exact Below.refl _ _ | (refine Below.drewN ?_ _) | (refine Below.alloc ?_ (by first | exact Nat.le_refl _ | (simp; done) | (simp; omega)) _)))
  generalize ((((w.alloc A).alloc B).alloc C).alloc C).alloc D = w1 at *
  subst hA hB hC hD
  refine bodyPost_ret (results_cell_row (g := w.heap.size) rfl _ _ _ _ _ _ (by rfl) a0 Try.underlying34 rfl (by kernel_rfl)) rfl ?_
  exact ⟨_, rfl, newK_own a1 a2 a3 a4 ⟨by omega, by omega⟩ ⟨by omega, by omega⟩ ⟨by omega, by omega⟩ ⟨by omega, by omega⟩ (by omega) (by omega) (by omega) (by omega) (by omega) (by omega), hb⟩

set_option maxRecDepth 100000 in
set_option maxHeartbeats 1600000 in
theorem l08New_any (w : World) :
    Calls Try.prog 23 #[] w fun e w' => ∃ u, e = .returned u ∧ OwnK w' (Iv w.heap.size w'.heap.size) u newK ∧ Below w.heap.size w w' := by
  have hst := run_store_float (P := Try.prog)
  go_enter Try.func23, Try.ntmps23
  go_wp2
  generalize hA : Obj.cells #[.slice (some ⟨w.heap.size + 1, 0, none⟩) 1 1, .float .f32 1065353216, .float .f32 1065353216, .int .i64 1, .slice (some ⟨w.heap.size + 1 + 1 + 1, 0, none⟩) 1 1, .slice (some ⟨w.heap.size + 1 + 1 + 1 + 1 + 1, 0, none⟩) 1 1] 34 = A
  generalize hB : Obj.cells #[.float .f32 1065353216, .float .f32 1065353216, .float .f32 1065353216, .float .f32 0] 57 = B
  generalize hE : Obj.cells #[.slice (some ⟨w.heap.size + 1, 0, none⟩) 1 1, .float .f32 1065353216, .float .f32 1065353216] 28 = E
  generalize hC : Obj.cells #[.float .f32 0] 26 = C
  generalize hD : Obj.cells #[.slice (some ⟨w.heap.size + 1 + 1 + 1 + 1, 0, none⟩) 1 1] 29 = D
  have hs : ((((((w.alloc A).alloc B).alloc E).alloc C).alloc C).alloc D).heap.size = w.heap.size + 6 := by simp only [World.size_alloc]
  have a0 : ((((((w.alloc A).alloc B).alloc E).alloc C).alloc C).alloc D).heap[w.heap.size]? = some A := by
    repeat (rw [Below.heap_alloc _ _ _ (by simp only [World.size_alloc]; omega)])
    exact alloc_at _ _ _ (by simp only [World.size_alloc])
  have a1 : ((((((w.alloc A).alloc B).alloc E).alloc C).alloc C).alloc D).heap[w.heap.size + 1]? = some B := by
    repeat (rw [Below.heap_alloc _ _ _ (by simp only [World.size_alloc]; omega)])
    exact alloc_at _ _ _ (by simp only [World.size_alloc])
  have a2 : ((((((w.alloc A).alloc B).alloc E).alloc C).alloc C).alloc D).heap[w.heap.size + 1 + 1 + 1]? = some C := by
    repeat (rw [Below.heap_alloc _ _ _ (by simp only [World.size_alloc]; omega)])
    exact alloc_at _ _ _ (by simp only [World.size_alloc])
  have a3 : ((((((w.alloc A).alloc B).alloc E).alloc C).alloc C).alloc D).heap[w.heap.size + 1 + 1 + 1 + 1]? = some C := by
    repeat (rw [Below.heap_alloc _ _ _ (by simp only [World.size_alloc]; omega)])
    exact alloc_at _ _ _ (by simp only [World.size_alloc])
  have a4 : ((((((w.alloc A).alloc B).alloc E).alloc C).alloc C).alloc D).heap[w.heap.size + 1 + 1 + 1 + 1 + 1]? = some D := by
    exact alloc_at _ _ _ (by simp only [World.size_alloc])
  have hb : Below w.heap.size w ((((((w.alloc A).alloc B).alloc E).alloc C).alloc C).alloc D) := by (repeat (first | exact Below.refl _ _ | (refine Below.drewN ?_ _) | (refine Below.alloc ?_ (by first | exact Nat.le_refl _ | (simp; done) | (simp; omega)) _)))
  generalize (((((w.alloc A).alloc B).alloc E).alloc C).alloc C).alloc D = w1 at *
  subst hA hB hC hD hE
  refine bodyPost_ret (results_cell_row (g := w.heap.size) rfl _ _ _ _ _ _ (by rfl) a0 Try.underlying34 rfl (by kernel_rfl)) rfl ?_
  exact ⟨_, rfl, newK_own a1 a2 a3 a4 ⟨by omega, by omega⟩ ⟨by omega, by omega⟩ ⟨by omega, by omega⟩ ⟨by omega, by omega⟩ (by omega) (by omega) (by omega) (by omega) (by omega) (by omega), hb⟩
set_option maxRecDepth 100000 in
set_option maxHeartbeats 1600000 in
theorem specNewDesk_any (w : World) :
    Calls Try.prog 9 #[] w fun e w' => ∃ u, e = .returned u ∧ OwnK w' (Iv w.heap.size w'.heap.size) u newK ∧ Below w.heap.size w w' := by
  have hst := run_store_float (P := Try.prog)
  have hb0 : Below w.heap.size w (w.alloc (.cells #[.slice none 0 0, .float .f32 0, .float .f32 0, .int .i64 0, .slice none 0 0, .slice none 0 0] 34)) := by (repeat (first | exact Below.refl _ _ | (refine Below.drewN ?_ _) | (refine Below.alloc ?_ (by first | exact Nat.le_refl _ | (simp; done) | (simp; omega)) _)))
  have hh := alloc_new w (.cells #[.slice none 0 0, .float .f32 0, .float .f32 0, .int .i64 0, .slice none 0 0, .slice none 0 0] 34)
  have hsz : (w.alloc (.cells #[.slice none 0 0, .float .f32 0, .float .f32 0, .int .i64 0, .slice none 0 0, .slice none 0 0] 34)).heap.size = w.heap.size + 1 := World.size_alloc _ _
  go_enter Try.func9, Try.ntmps9
  go_wp2_with fail
  generalize w.alloc (.cells #[.slice none 0 0, .float .f32 0, .float .f32 0, .int .i64 0, .slice none 0 0, .slice none 0 0] 34) = w0 at *
  refine (l08New_any w0).mono ?_
  rintro e w1 ⟨u, rfl, o1, b1⟩
  obtain ⟨a, c, r, s, b, d, e, f, rfl⟩ := o1.rd.opened
  have h1 := (b1.block w.heap.size (by omega)).trans hh
  have z1 := b1.size
  obtain ⟨⟨g0, g1, g2, g3, g4, g5⟩, g6, g7, g8, g9, g10, g11⟩ := blk6 h1
  have O1 := Lib.hid o1
  clear o1 hh
  go_wp2
  have P := put6 h1 (.slice a newK.G.n c) (.float .f32 r) (.float .f32 s) (.int .i64 newK.T.t) (.slice b newK.T.P.length d) (.slice e newK.T.Ls.length f)
  generalize (((((w1.setCell ⟨w.heap.size, 0, none⟩ (.slice a newK.G.n c)).setCell ⟨w.heap.size, 1, none⟩ (.float .f32 r)).setCell ⟨w.heap.size, 2, none⟩ (.float .f32 s)).setCell ⟨w.heap.size, 3, none⟩ (.int .i64 newK.T.t)).setCell ⟨w.heap.size, 4, none⟩ (.slice b newK.T.P.length d)).setCell ⟨w.heap.size, 5, none⟩ (.slice e newK.T.Ls.length f) = w2 at *
  have z2 := P.size
  refine bodyPost_ret (results_cell_row (g := w.heap.size) rfl _ _ _ _ _ _ (by rfl) P.heap Try.underlying34 rfl (by kernel_rfl)) rfl ?_
  exact ⟨_, rfl, (O1.out.chg P.chg fun k hk e => by have := hk.1; omega).wide fun k hk => ⟨by have := hk.1; omega, by have := hk.2; omega⟩, Below.chg (hb0.trans (b1.mono hb0.size)) P.chg (fun k hk => by omega) (by omega)⟩
end Go.Proofs.Ytalajgjdceoleaa
