/- Several texts in one: Tru, FinRt, Laid9, LaidT, Hsh, PrRt, CdRt. -/
import Derived.Test.YtjbaebgdebcipaaGreatDoorOwn
import Derived.Test.YtjbaebgdebcipaaGreatDoorRtS
import Derived.Test.YtjbaebgdebcipaaGreatDoorL9
import Derived.Test.YtjbaebgdebcipaaGreatDoorDcW
import Derived.Test.YtjbaebgdebcipaaGreatDoorRb
import Derived.Test.YtjbaebgdebcipaaGreatDoorRows
import Derived.ProofKit
import Derived.LaidMore
import Derived.LaidLaws
import Derived.LaidHandle
import Derived.Stop.Joined
import Derived.Lib.LaidTab
import Derived.MakeChecks
import Derived.Stop.LaidErr
import Derived.Lay
import Derived.Shelf.Vars
import Derived.Test.YtjbaebgdebcipaaGreatDoorOpn
import Derived.HandedShaped
import Derived.Laws.Cover2
import Derived.Test.YtjbaebgdebcipaaGreatDoorTie
import Derived.Test.YtjbaebgdebcipaaGreatDoorCards
import Derived.SevenTiedAt
/- What a law hands back. -/
namespace Go.Proofs.YtjbaebgdebcipaaGreatDoor
open Go Go.RowKit
def TrueB (w : World) (e : Ending) (w' : World) : Prop := e = .returned (.bool true) ∧ Below w.heap.size w w'
theorem TrueB.mk {w w' : World} (h : Below w.heap.size w w') : TrueB w (.returned (.bool true)) w' := ⟨rfl, h⟩
end Go.Proofs.YtjbaebgdebcipaaGreatDoor

/- FnExactReadGather: the walk of the law. -/
namespace Go.Proofs.YtjbaebgdebcipaaGreatDoor
open Go Go.RowKit

noncomputable def gV (t : ByteArray) : TM := match rt t with | some G => G | none => ⟨0, [], []⟩
noncomputable def gB (t : ByteArray) : Bool := match rt t with | some _ => true | none => false
theorem OwnT.shape {w : World} {S : Nat → Prop} {u : Value} {G : TM} (h : OwnT w S u G) : ∃ a c b d, u = .agg #[.int .i64 G.t, .slice a G.P.length c, .slice b G.Ls.length d] := by
  obtain ⟨vp, vt, rfl, o1, o2⟩ := h.rd
  obtain ⟨a, c, rfl, -⟩ := o1.opened
  obtain ⟨b, d, rfl, -⟩ := o2.opened
  exact ⟨a, c, b, d, rfl⟩
theorem gV_small (t : ByteArray) : (gV t).P.length ≤ 256 ∧ (gV t).Ls.length ≤ 256 ∧ ∀ j, (rowAt (gV t).Ls j).length ≤ 256 := by
  unfold gV
  cases h : rt t with
  | none => exact ⟨Nat.zero_le _, Nat.zero_le _, fun j => Nat.zero_le _⟩
  | some G => exact rt_few h
theorem RtRes.told {B : Nat} {t : ByteArray} {w : World} {u : Value} (h : RtRes B t w u) : ∃ v, u = .tuple #[v, .bool (gB t)] ∧ OwnT w (fun k => B ≤ k) v (gV t) := by
  unfold gV gB
  rcases h with ⟨G, v, hG, rfl, ho⟩ | ⟨hn, rfl⟩
  · rw [hG]; exact ⟨v, rfl, ho⟩
  · rw [hn]; exact ⟨_, rfl, ⟨_, _, (fun _ => False), (fun _ => False), rfl, OwnF.nil _ _, (fun k hk => by cases hk), ⟨[], rfl, World.ownsRow_nil w 0 _ 1, (fun k hk => by cases hk), (fun j hj => by cases hj), (fun i j k hi => by cases hi), (fun j k hj => by cases hj)⟩, (fun k h => h.elim), (fun k h => h.elim), fun k h => h.elim⟩⟩
/-- The two results, where the law holds them. -/
structure ResAt (w W : World) (g3 g5 : Nat) (u v : Array Value) (S1 S2 : Nat → Prop) (G M : TM) : Prop where
  b : Below w.heap.size w W
  c3 : W.heap[g3]? = some (.cells u 52 (0, 0))
  c5 : W.heap[g5]? = some (.cells v 52 (0, 0))
  o0 : OwnT W S1 (.agg u) G
  o1 : OwnT W S2 (.agg v) M
  d : ∀ k, S1 k → ¬ S2 k
  n3 : ¬ S2 g3
  n5 : ¬ S2 g5
  up : ∀ k, S2 k → w.heap.size ≤ k
theorem ResAt.below {w W W' : World} {g3 g5 : Nat} {u v : Array Value} {S1 S2 : Nat → Prop} {G M : TM} (h : ResAt w W g3 g5 u v S1 S2 G M) (hb : Below W.heap.size W W') : ResAt w W' g3 g5 u v S1 S2 G M :=
  ⟨h.b.trans (hb.mono h.b.size), (hb.block _ (Array.getElem?_eq_some_iff.1 h.c3).1).trans h.c3, (hb.block _ (Array.getElem?_eq_some_iff.1 h.c5).1).trans h.c5, h.o0.kept hb, h.o1.kept hb, h.d, h.n3, h.n5, h.up⟩
theorem ResAt.turned {w W W' : World} {g3 g5 : Nat} {u v : Array Value} {S1 S2 : Nat → Prop} {G M M' : TM} (h : ResAt w W g3 g5 u v S1 S2 G M) (hc : Chg W W' S2) (ho : OwnT W' S2 (.agg v) M') : ResAt w W' g3 g5 u v S1 S2 G M' :=
  ⟨Below.chg h.b hc h.up h.b.size, (hc.block _ (Array.getElem?_eq_some_iff.1 h.c3).1 h.n3).trans h.c3, (hc.block _ (Array.getElem?_eq_some_iff.1 h.c5).1 h.n5).trans h.c5, h.o0.chg hc h.d, ho, h.d, h.n3, h.n5, h.up⟩

set_option maxRecDepth 100000 in
set_option maxHeartbeats 4000000 in
theorem lawReadGather_any (w : World) (t : ByteArray) (hD : Dr w ∧ Tab10 w) :
    Calls Tryz.prog 6 #[.string t] w (TrueB w) := by
  have HD := Lib.hid hD
  clear hD
  by_cases hmax : t.size ≤ 1048576
  rotate_left
  · go_enter Tryz.func6, Tryz.ntmps6
    have hd : decide ((t.size : Int) > 1048576) = true := by simp; omega
    go_wp2
    go_ret
    exact TrueB.mk (Below.refl _ _)
  · have hd : decide ((t.size : Int) > 1048576) = false := by simp; omega
    have hst := run_store_float (P := Tryz.prog)
    have HS : Hid (Calls Tryz.prog 25 #[.string t] w fun e w' => ∃ v, e = .returned (.tuple #[v, .bool (gB t)]) ∧ OwnT w' (fun k => w.heap.size ≤ k) v (gV t) ∧ Below w.heap.size w w') :=
      Lib.hid ((specReadGather_any w t hmax).mono fun e w' ⟨u, he, hr, hb⟩ => by
        obtain ⟨v, rfl, ho⟩ := hr.told
        exact ⟨v, he, ho, hb⟩)
    have HI : Hid (∀ wq, Below w.heap.size w wq → Calls Tryz.prog 26 #[.string t] wq fun e w' => ∃ v, e = .returned (.tuple #[v, .bool (gB t)]) ∧ OwnT w' (fun k => wq.heap.size ≤ k) v (gV t) ∧ Below wq.heap.size wq w') :=
      Lib.hid fun wq hq => (implReadGather_any wq t hmax (HD.out.1.mono hq) (HD.out.2.mono hq)).mono fun e w' ⟨u, he, hr, hb⟩ => by
        obtain ⟨v, rfl, ho⟩ := hr.told
        exact ⟨v, he, ho, hb⟩
    have HK := Lib.hid (gV_small t)
    clear hmax HD
    generalize gV t = G at *
    generalize gB t = b at *
    have hz : decide (((1 + sizeT G : Nat) : Int) < 0) = false := by simp; omega
    have HEQ : Hid (∀ W u v, RdT W u G → RdT W v G → Calls Tryz.prog 27 #[u, v] W fun e w' => e = .returned (.bool true) ∧ Below W.heap.size W w') := Lib.hid fun W u v h1 h2 => eqGather_any W u v G h1 h2 ⟨Nat.le_trans HK.out.1 (by decide), Nat.le_trans HK.out.2.1 (by decide), fun j _ => Nat.le_trans (HK.out.2.2 j) (by decide)⟩
    have HMK : Hid (∀ W S v, OwnT W S v G → Calls Tryz.prog 28 #[v, .int .i64 1] W fun e w' => e = .returned (.int .i64 ((1 + sizeT G : Nat) : Int)) ∧ OwnT w' S v (markT 1 G) ∧ Chg W w' S) := Lib.hid fun W S v h => markGather_any W S v G 1 h ⟨Nat.le_trans HK.out.1 (by decide), Nat.le_trans HK.out.2.1 (by decide), fun j _ => Nat.le_trans (HK.out.2.2 j) (by decide)⟩ (by have := HK.out.1; have := HK.out.2.1; omega)
    have HHD : Hid (∀ W v, RdT W v (markT 1 G) → Calls Tryz.prog 29 #[v, .int .i64 1] W fun e w' => e = .returned (.int .i64 ((1 + sizeT G : Nat) : Int)) ∧ Below W.heap.size W w') := Lib.hid fun W v h => heldGather_any W v G 1 h ⟨Nat.le_trans HK.out.1 (by decide), Nat.le_trans HK.out.2.1 (by decide), fun j _ => Nat.le_trans (HK.out.2.2 j) (by decide)⟩ (by have := HK.out.1; have := HK.out.2.1; omega)
    have HSH : Hid (∀ W S v, OwnT W S v G → ∃ a c b d, v = .agg #[.int .i64 G.t, .slice a G.P.length c, .slice b G.Ls.length d]) := Lib.hid fun W S v h => h.shape
    clear HK
    generalize markT 1 G = M at *
    generalize (1 + sizeT G : Nat) = kn at *
    generalize G.t = tt at *
    generalize G.P.length = n at *
    generalize G.Ls.length = m at *
    cases b
    all_goals
      go_enter Tryz.func6, Tryz.ntmps6
      go_wp2_with fail
      refine HS.out.mono ?_
      clear HS
      rintro e w1 ⟨u, rfl, ho1, hb1⟩
      obtain ⟨a1, c1, b1, d1, hu⟩ := HSH.out _ _ _ ho1
      subst hu
      have ot1 := ho1.tight
      obtain ⟨W1, hW1⟩ : ∃ W1, w1.alloc (.cells #[.int .i64 tt, .slice a1 n c1, .slice b1 m d1] 52) = W1 := ⟨_, rfl⟩
      have hz1 : W1.heap.size = w1.heap.size + 1 := by rw [← hW1]; exact World.size_alloc _ _
      have hx1 : Below w1.heap.size w1 W1 := by rw [← hW1]; exact (Below.refl _ _).alloc (Nat.le_refl _) _
      have B1 : Hid (Below w.heap.size w W1) := Lib.hid (hb1.trans (hx1.mono hb1.size))
      have C1 : Hid (W1.heap[w1.heap.size]? = some (.cells #[.int .i64 tt, .slice a1 n c1, .slice b1 m d1] 52 (0, 0))) := Lib.hid (by rw [← hW1]; exact alloc_new _ _)
      have O1 : Hid (OwnT W1 (fun k => k < w1.heap.size) (.agg #[.int .i64 tt, .slice a1 n c1, .slice b1 m d1]) G) := Lib.hid ((ot1.kept hx1).wide fun k hk => hk.2)
      clear ho1 hb1 ot1 hx1
      go_wp2_with fail
      clear hW1
      refine (HI.out _ B1.out).mono ?_
      rintro e w2 ⟨v, rfl, ho2, hb2⟩
      obtain ⟨a2, c2, b2, d2, hv⟩ := HSH.out _ _ _ ho2
      subst hv
      have ot2 := ho2.tight
      obtain ⟨W2, hW2⟩ : ∃ W2, w2.alloc (.cells #[.int .i64 tt, .slice a2 n c2, .slice b2 m d2] 52) = W2 := ⟨_, rfl⟩
      have hz2 : W2.heap.size = w2.heap.size + 1 := by rw [← hW2]; exact World.size_alloc _ _
      have hx0 : Below w2.heap.size w2 W2 := by rw [← hW2]; exact (Below.refl _ _).alloc (Nat.le_refl _) _
      have hx2 : Below W1.heap.size W1 W2 := hb2.trans (hx0.mono hb2.size)
      have hs2 := hb2.size
      have S2 : Hid (ResAt w W2 w1.heap.size w2.heap.size #[.int .i64 tt, .slice a1 n c1, .slice b1 m d1] #[.int .i64 tt, .slice a2 n c2, .slice b2 m d2] (fun k => k < w1.heap.size) (fun k => W1.heap.size ≤ k ∧ k < w2.heap.size) G G) := Lib.hid
        ⟨B1.out.trans (hx2.mono B1.out.size), (hx2.block _ (by omega)).trans C1.out, by rw [← hW2]; exact alloc_new _ _, O1.out.kept hx2, ot2.kept hx0, fun k hk e => by omega, fun e => by omega, fun e => by omega, fun k hk => by have := B1.out.size; omega⟩
      clear hx2 ho2 hb2 hz1 hz2 B1 C1 O1 ot2 hx0 hs2
      obtain ⟨k0, k1, k2, -, -, -⟩ := blk3 S2.out.c3
      obtain ⟨j0, j1, j2, -, -, -⟩ := blk3 S2.out.c5
      go_wp2_with fail
      clear hW2 k0 k1 k2 j0 j1 j2
      refine (HEQ.out _ _ _ S2.out.o1.rd S2.out.o0.rd).mono ?_
      rintro e W3 ⟨rfl, hb3⟩
      have S3 := Lib.hid (S2.out.below hb3)
      clear hb3 S2
      obtain ⟨j0, j1, j2, -, -, -⟩ := blk3 S3.out.c5
      go_wp2_with fail
      clear j0 j1 j2
      refine (HMK.out _ _ _ S3.out.o1).mono ?_
      rintro e W4 ⟨rfl, ho4, hg4⟩
      have S4 := Lib.hid (S3.out.turned hg4 ho4)
      clear ho4 hg4 S3
      obtain ⟨j0, j1, j2, -, -, -⟩ := blk3 S4.out.c5
      go_wp2_with fail
      clear j0 j1 j2
      refine (HHD.out _ _ S4.out.o1.rd).mono ?_
      rintro e W5 ⟨rfl, hb5⟩
      have S5 := Lib.hid (S4.out.below hb5)
      clear hb5 S4
      go_wp2_with fail
      refine (HI.out _ S5.out.b).mono ?_
      rintro e w6 ⟨v6, rfl, ho6, hb6⟩
      obtain ⟨a6, c6, b6, d6, hv6⟩ := HSH.out _ _ _ ho6
      subst hv6
      obtain ⟨W6, hW6⟩ : ∃ W6, w6.alloc (.cells #[.int .i64 tt, .slice a6 n c6, .slice b6 m d6] 52) = W6 := ⟨_, rfl⟩
      have hx5 : Below w6.heap.size w6 W6 := by rw [← hW6]; exact (Below.refl _ _).alloc (Nat.le_refl _) _
      have hx6 : Below W5.heap.size W5 W6 := hb6.trans (hx5.mono hb6.size)
      have S6 := Lib.hid (S5.out.below hx6)
      have q6 : W6.heap[w6.heap.size]? = some (.cells #[.int .i64 tt, .slice a6 n c6, .slice b6 m d6] 52 (0, 0)) := by rw [← hW6]; exact alloc_new _ _
      have O6 : Hid (RdT W6 (.agg #[.int .i64 tt, .slice a6 n c6, .slice b6 m d6]) G) := Lib.hid (ho6.kept hx5).rd
      clear hx6 ho6 hb6 S5 hx5
      obtain ⟨j0, j1, j2, -, -, -⟩ := blk3 q6
      obtain ⟨k0, k1, k2, -, -, -⟩ := blk3 S6.out.c3
      clear q6
      go_wp2_with fail
      clear hW6 j0 j1 j2 k0 k1 k2
      refine (HEQ.out _ _ _ O6.out S6.out.o0.rd).mono ?_
      rintro e W7 ⟨rfl, hb7⟩
      have S7 := Lib.hid (S6.out.below hb7)
      clear hb7 S6 O6
      obtain ⟨j0, j1, j2, -, -, -⟩ := blk3 S7.out.c5
      go_wp2_with fail
      clear j0 j1 j2
      refine (HHD.out _ _ S7.out.o1.rd).mono ?_
      rintro e W8 ⟨rfl, hb8⟩
      have S8 := Lib.hid (S7.out.below hb8)
      clear hb8 S7
      go_wp2
      go_ret
      exact TrueB.mk S8.out.b
end Go.Proofs.YtjbaebgdebcipaaGreatDoor

/- What the listed variables, and the world's shape, give a walk; a world in which they are laid. -/
namespace Go.Proofs.YtjbaebgdebcipaaGreatDoor
open Go Go.RowKit

def laid7 : List (String × DataW Unit) := [("math/bits.deBruijn32tab", Rows.laid_math_bits_deBruijn32tab), ("math/bits.deBruijn64tab", Rows.laid_math_bits_deBruijn64tab), ("internal/strconv.uint64pow10", Rows.laid_internal_strconv_uint64pow10), ("unicode/utf8.acceptRanges", Rows.laid_unicode_utf8_acceptRanges), ("strconv.ErrRange", Rows.laid_strconv_ErrRange), ("strconv.ErrSyntax", Rows.laid_strconv_ErrSyntax), ("unicode/utf8.first", Rows.laid_unicode_utf8_first)]
theorem plain7 (W : World) : laidMetH Tryz.prog laid7 W ↔ laidMet Tryz.prog laid7 W := by rw [MakeChecks.laidMetH_plain _ _ _ (by kernel_rfl)]
theorem lay_met (os : Os) (args : Array Value) : laidMetH Tryz.prog laid7 ((World.laidAll Tryz.prog os laid7).forCall (fun _ _ => 0) ⟨#[], args, []⟩).memory :=
  (plain7 _).2 (laidMet_laidAll _ (by kernel_rfl) (by kernel_rfl))
theorem cell_of_var {W : World} {n : String} {g : Nat} {v : Value} (hg : Tryz.prog.globalNamed n = some g) (h : W.var? Tryz.prog n = some #[v]) : W.cell? ⟨g, 0, none⟩ = some v := by
  unfold World.var? at h
  rw [hg] at h
  simp only [Option.bind_some] at h
  unfold World.cell?
  split at h
  · rename_i cs t fz he
    rw [he]
    cases h
    rfl
  · cases h
theorem star9 : "*" ++ "errors.errorString" = "*errors.errorString" := by decide
theorem errRow (u : TypeId) (h : Tryz.prog.typeName? 3 u = some "*errors.errorString") : u = 195 :=
  typeName_ptr_named (nm := "errors.errorString") (by rw [star9]; kernel_rfl) (by kernel_rfl) (by decide) u (by rw [star9]; exact h)
theorem of_laid {W : World} (hs : W.ShapedOpen Tryz.prog) (h : laidMetH Tryz.prog laid7 W) : Dr W := by
  rw [plain7] at h
  have h2 := laidMet.tail h
  have h3 : Lib.TabIs Tryz.prog W "math/bits.deBruijn64tab" .u8 [0, 1, 56, 2, 57, 49, 28, 3, 61, 58, 42, 50, 38, 29, 17, 4, 62, 47, 59, 36, 45, 43, 51, 22, 53, 39, 33, 30, 24, 18, 12, 5, 63, 55, 48, 27, 60, 41, 37, 16, 46, 35, 44, 21, 52, 32, 23, 11, 54, 26, 40, 15, 34, 20, 31, 10, 25, 14, 19, 9, 13, 8, 7, 6] :=
    Lib.tabIs_of_head (g := 8) (t := 199) (e := 5) (n := 64) (by kernel_rfl) (by kernel_rfl) (by kernel_rfl) (by kernel_rfl) (by kernel_rfl) (by kernel_rfl) h2
  have h5 := laidMet.tail (laidMet.tail (laidMet.tail h2))
  have h6 := laidMet.tail h5
  refine ⟨h3.cell (by kernel_rfl) 15 (by decide), ?_, ?_, ?_⟩
  · obtain ⟨a, s, hv, -⟩ := laid_sentinel (g := 3) (ti := 122) (tp := 195) (te := 197) (ts := 9) h6 (by kernel_rfl) (by kernel_rfl) Tryz.underlying122 errRow Tryz.underlying195 Tryz.underlying197 rfl rfl Tryz.underlying9 (by kernel_rfl) (by kernel_rfl)
    exact ⟨_, _, cell_of_var (by kernel_rfl) hv⟩
  · obtain ⟨a, s, hv, -⟩ := laid_sentinel (g := 4) (ti := 122) (tp := 195) (te := 197) (ts := 9) h5 (by kernel_rfl) (by kernel_rfl) Tryz.underlying122 errRow Tryz.underlying195 Tryz.underlying197 rfl rfl Tryz.underlying9 (by kernel_rfl) (by kernel_rfl)
    exact ⟨_, _, cell_of_var (by kernel_rfl) hv⟩
  · exact cell_of_shapedOpen_int (P := Tryz.prog) (g := 0) (t := 3) (zero := #[.int .i64 0]) hs (of_decide_eq_true (by kernel_rfl)) (by kernel_rfl) rfl (by kernel_rfl) (by kernel_rfl) Tryz.underlying3
end Go.Proofs.YtjbaebgdebcipaaGreatDoor

/- What the listed variables give a walk that tells decimal numerals too. -/
namespace Go.Proofs.YtjbaebgdebcipaaGreatDoor
open Go Go.RowKit

theorem of_laidT {W : World} (hs : W.ShapedOpen Tryz.prog) (h : laidMetH Tryz.prog laid7 W) : Dr W ∧ Tab10 W := by
  refine ⟨of_laid hs h, ?_⟩
  rw [plain7] at h
  have h2 := laidMet.tail (laidMet.tail h)
  have e : (Rows.laid_internal_strconv_uint64pow10 : DataW Unit) = Lib.tabData .u64 Lib.pow10Tab := by kernel_rfl
  rw [e] at h2
  exact Lib.tabIs_of_head (g := 2) (t := 177) (e := 92) (n := 20) (by kernel_rfl) (by kernel_rfl) (by kernel_rfl) (by kernel_rfl) (by kernel_rfl) (by kernel_rfl) h2
end Go.Proofs.YtjbaebgdebcipaaGreatDoor

/- The wrap of a row that lists variables, the world's shape kept. -/
namespace Go.Proofs.YtjbaebgdebcipaaGreatDoor
open Go
variable {H : Type} {enc : TypeId × Value → H}

theorem returnsInHanded_laid_shaped {a : Assume} {C : Checked} {os : Os} {f : FuncId} {fn : Func} {s : ChangeSpec} {conds : List PathCond} {apart fresh handsOn again : Bool} {X : World → Array Value → Prop}
    (hX : ∀ (w w' : World) (args : Array Value), w.heap = w'.heap → X w args → X w' args)
    (own : ownKnob C.prog.godebug = none) (started : os.Started) (noInit : C.prog.inits.idxOf? f = none) (hfn : C.prog.funcs[f]? = some fn)
    (witness : ∃ (w : World) (tape : Tape) (i : Input), w.os = os ∧ (w.forCall tape i).Shaped C.prog ∧ i.vars = [] ∧ Input.okWide C.prog (w.forCall tape i) .any w.heap.size f i ∧
      ((s.pre enc C.prog fn conds apart (w.forCall tape i).memory i.args ∧ X (w.forCall tape i).memory i.args) ∧ sizedMet enc C.prog fn (OpenSpec.ofChange s) apart (w.forCall tape i).memory i.args) ∧ a.holds C.prog (lone (Frame.enter C.prog f i.args .normal) [] (w.forCall tape i)))
    (contract : ∀ (W : World) (base : Nat) (args : Array Value) (ds gs : List (DataW H)) (before : List MemPlace),
      (∀ (j : Nat) t v, fn.params[j]? = some t → args[j]? = some v → Value.okWide C.prog W .any base t v) →
      DataW.Whole enc C.prog fn.params.toList s.vars apart W args.toList ds gs before →
      W.ShapedOpen C.prog → X W args →
      Calls C.prog f args W fun e W' => ∃ v, e = .returned v ∧ s.post enc C.prog fn apart fresh handsOn again W args v W') :
    ReturnsInHanded a C os f .any (fun w args => (s.pre enc C.prog fn conds apart w args ∧ X w args) ∧ sizedMet enc C.prog fn (OpenSpec.ofChange s) apart w args) (s.post enc C.prog fn apart fresh handsOn again) := by
  refine returnsInHanded_of_calls own started noInit witness ?_
  intro w tape i _ hsh _ hok hpre hholds
  obtain ⟨_, _, _, fn', hfn', _, _, _, _, hval⟩ := hok
  have e : fn' = fn := Option.some.inj (hfn'.symm.trans hfn)
  subst e
  obtain ⟨⟨⟨ds, gs, before, hw, hc⟩, hx⟩, hz⟩ := hpre
  have hw' := DataW.Whole.of_heap (w' := w.forCall tape i) (by rfl) hw
  refine (contract (w.forCall tape i) w.heap.size i.args ds gs before hval hw' hsh (hX _ _ _ (by rfl) hx)).mono fun e W' ⟨v, he, hp⟩ => ?_
  subst he
  exact ChangeSpec.post_blind hp
end Go.Proofs.YtjbaebgdebcipaaGreatDoor

/- FnExactReadGather returns true for every input; the package variables that it names begin as the program lays them. -/
namespace Go.Proofs.YtjbaebgdebcipaaGreatDoor.lawReadGather
open Go.ChangeShapes Go.WideShapes Go.ChangeAt Go.RowKit

theorem own : ownKnob Tryz.prog.godebug = none := by kernel_rfl
theorem laidOut : laidOutB Tryz.prog = true := by kernel_rfl

set_option maxRecDepth 100000 in
theorem lifted (os : Os) (started : os.Started) (H : Type) (enc : TypeId × Value → H) :
    ReturnsInHanded {} Tryz.checked os 6 .any (fun w args => (Rows.fnExactReadGatherSpec.pre enc Tryz.prog Tryz.f6 [] false w args ∧ laidMetH Tryz.prog laid7 w) ∧ sizedMet enc Tryz.prog Tryz.f6 (OpenSpec.ofChange Rows.fnExactReadGatherSpec) false w args)
      (Rows.fnExactReadGatherSpec.post enc Tryz.prog Tryz.f6 false true false false) := by
  refine returnsInHanded_laid_shaped (C := Tryz.checked) (X := fun w _ => laidMetH Tryz.prog laid7 w) (fun _ _ _ hh h => h.of_heap hh) own started (by kernel_rfl) Tryz.func6
    (ChangeSpec.witness_shaped (enc := enc) (C := Tryz.checked) (os := os) (X := fun w _ => laidMetH Tryz.prog laid7 w) false (World.laidAll Tryz.prog os laid7) #[.string ⟨#[]⟩] 8 (World.laidAll_os _ _ _) (World.shaped_of_ZipB (by kernel_rfl) (by kernel_rfl)) (by kernel_rfl) (by kernel_rfl) (by kernel_rfl) (lay_met os _)) ?_
  intro W base args ds gs before hval0 hW hsh hL
  have hval : ∀ (j : Nat) t v, Tryz.f6.params[j]? = some t → args[j]? = some v → Value.okWide Tryz.prog W .any base t v := hval0
  have hW' := hW
  obtain ⟨p, q, hA0, hV, rfl, hfz, hnd⟩ := hW
  have hA : DataW.TrodAll enc Tryz.prog W 0 (fun _ => true) true Tryz.f6.params.toList args.toList ds p := hA0
  rw [Tryz.params6] at hA hval
  obtain ⟨v0, vs0, d0, ds0, p0, q0, hargs, rfl, rfl, h0, r0⟩ := trodAll_cons hA
  obtain ⟨rfl, rfl, rfl⟩ := trodAll_nil r0
  obtain rfl : args = #[v0] := by cases args; simp_all
  obtain ⟨rfl, rfl⟩ := trodVars_none hV
  have k0 := h0
  have lt0 : ∀ x ∈ p0, x.block < W.heap.size := by obtain ⟨m, hm⟩ := k0; exact DataW.trod_lt m _ _ _ hm
  obtain ⟨s, rfl⟩ := okWide_string Tryz.underlying9 (hval 0 9 v0 rfl rfl)
  clear hA0 hval0
  refine (lawReadGather_any W s (of_laidT hsh hL)).mono fun e W' ⟨he, bel⟩ => ?_
  subst he
  exact ⟨_, rfl, _, _, _, [], _, [], hW', trodAll_mk1 (shut_bool Tryz.underlying4 _), (trodAll_cons_mk (Below.trod laidOut (by kernel_rfl) (of_decide_eq_true (by kernel_rfl)) k0 bel lt0) trodAll_mk0), rfl, bel.frame _, fun h => by cases h⟩

theorem over : Rows.fnExactReadGatherRow.holds Tryz.pinned (OpenSpec.ofChange Rows.fnExactReadGatherSpec) :=
  OpenClaim.holds_of_wide 6 Tryz.f6 rfl rfl rfl rfl rfl rfl rfl ⟨rfl, rfl, rfl, rfl, rfl⟩ rfl rfl rfl rfl rfl (by kernel_rfl) Tryz.func6 (by kernel_rfl)
    (of_decide_eq_true (by kernel_rfl)) (by unfold Func.isWrapper; first | (rw [if_pos (by decide +kernel)]; kernel_rfl) | (rw [if_neg (by decide +kernel)]; exact ⟨rfl, rfl⟩))
    (fun os started H enc _ => lifted os started H enc)

/-- THE STATEMENT. -/
theorem proved : Rows.FnExactReadGatherSaid := over
end Go.Proofs.YtjbaebgdebcipaaGreatDoor.lawReadGather

/- The tied card of FnExactReadGather. -/
namespace Go.Proofs.YtjbaebgdebcipaaGreatDoor.lawReadGather
open Go

theorem card : Rows.FnExactReadGatherCardSaid :=
  Claim7.holds_tied_plain_at .later [] [.data, .data, .data, .data, .sentinel, .sentinel, .pinned] true (true, "7d3e64b44cb7fd55683c551a4d0ee4d848a7a9faf8eb6d073ec546c05034f0f5") true
    proved (fun _ h => by cases h) (by kernel_rfl) (fun _ h => by cases h) fnExactReadGather_row_tie rfl ⟨rfl, rfl⟩ (by kernel_rfl) rfl
    (fun f fn hf hfn => by
      obtain rfl : f = 6 := Option.some.inj ((show Tryz.prog.funcNamed "loop.example/g01231/laws.FnExactReadGather" = some 6 by kernel_rfl).symm.trans hf) |>.symm
      obtain rfl : fn = Tryz.f6 := (Option.some.inj (Tryz.func6.symm.trans hfn)).symm
      exact ⟨by kernel_rfl, fun j t ht => by
        rw [Tryz.params6] at ht
        have hm : t ∈ [9] := by simpa using Array.mem_of_getElem? ht
        have hall : ([9].all fun u => !Tryz.prog.wantsStandIn u) = true := by kernel_rfl
        exact (show Tryz.prog.wantsStandIn t = false by simpa using List.all_eq_true.1 hall t hm)⟩)
    (by kernel_rfl)
end Go.Proofs.YtjbaebgdebcipaaGreatDoor.lawReadGather

