/- What the listed variables, and the world's shape, give a walk; a world in which they are laid. -/
import Derived.Test.YtjbaebgdebcipaaDoorRb
import Derived.Test.YtjbaebgdebcipaaDoorRows
import Derived.ProofKit
import Derived.LaidMore
import Derived.LaidLaws
import Derived.LaidHandle
import Derived.Stop.Joined
import Derived.Lib.LaidTab
import Derived.MakeChecks
import Derived.Stop.LaidErr
import Derived.Lay
import Derived.Shelf.Vars
namespace Go.Proofs.YtjbaebgdebcipaaDoor
open Go Go.RowKit

def laid7 : List (String × DataW Unit) := [("math/bits.deBruijn32tab", Rows.laid_math_bits_deBruijn32tab), ("math/bits.deBruijn64tab", Rows.laid_math_bits_deBruijn64tab), ("internal/strconv.uint64pow10", Rows.laid_internal_strconv_uint64pow10), ("unicode/utf8.acceptRanges", Rows.laid_unicode_utf8_acceptRanges), ("strconv.ErrRange", Rows.laid_strconv_ErrRange), ("strconv.ErrSyntax", Rows.laid_strconv_ErrSyntax), ("unicode/utf8.first", Rows.laid_unicode_utf8_first)]
theorem plain7 (W : World) : laidMetH Tryd.prog laid7 W ↔ laidMet Tryd.prog laid7 W := by rw [MakeChecks.laidMetH_plain _ _ _ (by kernel_rfl)]
theorem lay_met (os : Os) (args : Array Value) : laidMetH Tryd.prog laid7 ((World.laidAll Tryd.prog os laid7).forCall (fun _ _ => 0) ⟨#[], args, []⟩).memory :=
  (plain7 _).2 (laidMet_laidAll _ (by kernel_rfl) (by kernel_rfl))
theorem cell_of_var {W : World} {n : String} {g : Nat} {v : Value} (hg : Tryd.prog.globalNamed n = some g) (h : W.var? Tryd.prog n = some #[v]) : W.cell? ⟨g, 0, none⟩ = some v := by
  unfold World.var? at h
  rw [hg] at h
  simp only [Option.bind_some] at h
  unfold World.cell?
  split at h
  · rename_i cs t fz he
    rw [he]
    cases h
    rfl
  · cases h
theorem star9 : "*" ++ "errors.errorString" = "*errors.errorString" := by decide
theorem errRow (u : TypeId) (h : Tryd.prog.typeName? 3 u = some "*errors.errorString") : u = 102 :=
  typeName_ptr_named (nm := "errors.errorString") (by rw [star9]; kernel_rfl) (by kernel_rfl) (by decide) u (by rw [star9]; exact h)
theorem of_laid {W : World} (hs : W.ShapedOpen Tryd.prog) (h : laidMetH Tryd.prog laid7 W) : Dr W := by
  rw [plain7] at h
  have h2 := laidMet.tail h
  have h3 : Lib.TabIs Tryd.prog W "math/bits.deBruijn64tab" .u8 [0, 1, 56, 2, 57, 49, 28, 3, 61, 58, 42, 50, 38, 29, 17, 4, 62, 47, 59, 36, 45, 43, 51, 22, 53, 39, 33, 30, 24, 18, 12, 5, 63, 55, 48, 27, 60, 41, 37, 16, 46, 35, 44, 21, 52, 32, 23, 11, 54, 26, 40, 15, 34, 20, 31, 10, 25, 14, 19, 9, 13, 8, 7, 6] :=
    Lib.tabIs_of_head (g := 8) (t := 120) (e := 5) (n := 64) (by kernel_rfl) (by kernel_rfl) (by kernel_rfl) (by kernel_rfl) (by kernel_rfl) (by kernel_rfl) h2
  have h5 := laidMet.tail (laidMet.tail (laidMet.tail h2))
  have h6 := laidMet.tail h5
  refine ⟨h3.cell (by kernel_rfl) 15 (by decide), ?_, ?_, ?_⟩
  · obtain ⟨a, s, hv, -⟩ := laid_sentinel (g := 1) (ti := 54) (tp := 102) (te := 104) (ts := 9) h6 (by kernel_rfl) (by kernel_rfl) Tryd.underlying54 errRow Tryd.underlying102 Tryd.underlying104 rfl rfl Tryd.underlying9 (by kernel_rfl) (by kernel_rfl)
    exact ⟨_, _, cell_of_var (by kernel_rfl) hv⟩
  · obtain ⟨a, s, hv, -⟩ := laid_sentinel (g := 2) (ti := 54) (tp := 102) (te := 104) (ts := 9) h5 (by kernel_rfl) (by kernel_rfl) Tryd.underlying54 errRow Tryd.underlying102 Tryd.underlying104 rfl rfl Tryd.underlying9 (by kernel_rfl) (by kernel_rfl)
    exact ⟨_, _, cell_of_var (by kernel_rfl) hv⟩
  · exact cell_of_shapedOpen_int (P := Tryd.prog) (g := 3) (t := 3) (zero := #[.int .i64 0]) hs (of_decide_eq_true (by kernel_rfl)) (by kernel_rfl) rfl (by kernel_rfl) (by kernel_rfl) Tryd.underlying3
end Go.Proofs.YtjbaebgdebcipaaDoor
