/- Walks: the number of frames at a time; frames and a station; a time and a count. -/
import Derived.Test.YtibojlpeaolfbaaOfS
import Derived.Test.YtibojlpeaolfbaaVal2
namespace Go.Proofs.Ytibojlpeaolfbaa
open Go Go.RowKit

/-- The number of frames at a time, and whether there is one. -/
def atF : List FM → Int → Nat × Bool
  | [], _ => (0, false)
  | f :: r, t => if inB (t - f.sa) 0 ((f.L.length : Int) - 1) then (f.L.getD (t - f.sa).toNat 0, true) else atF r t
theorem atF_skip {Fs : List FM} {j : Nat} {t : Int} (hj : j < Fs.length) (h : inB (t - (frAt Fs j).sa) 0 (((frAt Fs j).L.length : Int) - 1) = false) : atF (Fs.drop j) t = atF (Fs.drop (j + 1)) t := by
  have e : Fs.drop j = frAt Fs j :: Fs.drop (j + 1) := by
    rw [List.drop_eq_getElem_cons hj]
    simp [frAt, List.getD_eq_getElem?_getD, List.getElem?_eq_getElem hj]
  rw [e, atF, h]; rfl
theorem atF_hit {Fs : List FM} {j : Nat} {t : Int} (hj : j < Fs.length) (h : inB (t - (frAt Fs j).sa) 0 (((frAt Fs j).L.length : Int) - 1) = true) : atF (Fs.drop j) t = ((frAt Fs j).L.getD (t - (frAt Fs j).sa).toNat 0, true) := by
  have e : Fs.drop j = frAt Fs j :: Fs.drop (j + 1) := by
    rw [List.drop_eq_getElem_cons hj]
    simp [frAt, List.getD_eq_getElem?_getD, List.getElem?_eq_getElem hj]
  rw [e, atF, h]; rfl
theorem atF_end {Fs : List FM} {t : Int} : atF (Fs.drop Fs.length) t = (0, false) := by rw [List.drop_length]; rfl
theorem inB_lt {t sa : Int} {n : Nat} (h : inB (t - sa) 0 ((n : Int) - 1) = true) : ∃ i : Nat, t - sa = i ∧ i < n := by
  unfold inB at h
  simp at h
  exact ⟨(t - sa).toNat, by omega, by omega⟩
/-- Times of frames are within bounds. -/
def Fsa (Fs : List FM) : Prop := ∀ j, j < Fs.length → 0 ≤ (frAt Fs j).sa ∧ (frAt Fs j).sa ≤ 100000 ∧ (frAt Fs j).L.length ≤ 1048576

set_option maxRecDepth 100000 in
set_option maxHeartbeats 400000 in
theorem isStation_any (w : World) (v : Value) (Fs : List FM) (s : Int) (h : RdFr w v Fs) (hs : Fsmall Fs) :
    Calls Try.prog 80 #[v, .int .i64 s] w fun e w' => e = .returned (.bool (areF Fs && inB s 0 200)) ∧ Below w.heap.size w w' := by
  have HK := Lib.hid (areFrames_any w v Fs h hs)
  have HI := Lib.hid (fun wq => within_any wq s 0 200)
  obtain ⟨a, c, rfl, -⟩ := h.opened
  generalize areF Fs = p at HK ⊢
  generalize inB s 0 200 = q at HI ⊢
  clear h hs
  cases p with
  | false =>
    go_enter Try.func80, Try.ntmps80
    go_wp2_with fail
    refine HK.out.mono ?_
    rintro e w1 ⟨rfl, b1⟩
    go_wp2
    go_ret
    exact ⟨rfl, b1⟩
  | true =>
    go_enter Try.func80, Try.ntmps80
    go_wp2_with fail
    refine HK.out.mono ?_
    rintro e w1 ⟨rfl, b1⟩
    go_wp2_with fail
    refine (HI.out _).mono ?_
    rintro e w2 ⟨rfl, rfl⟩
    go_wp2
    go_ret
    exact ⟨by simp, b1⟩
set_option maxRecDepth 100000 in
set_option maxHeartbeats 400000 in
theorem isSpan_any (w : World) (t n : Int) :
    Calls Try.prog 77 #[.int .i64 t, .int .i64 n] w fun e w' => e = .returned (.bool (inB t 0 100000 && inB n 1 128)) ∧ w' = w := by
  have HK := Lib.hid (within_any w t 0 100000)
  have HI := Lib.hid (fun wq => isCount_any wq n)
  generalize inB t 0 100000 = p at HK ⊢
  generalize inB n 1 128 = q at HI ⊢
  cases p with
  | false =>
    go_enter Try.func77, Try.ntmps77
    go_wp2_with fail
    refine HK.out.mono ?_
    rintro e w1 ⟨rfl, rfl⟩
    go_wp2
    go_ret
    exact ⟨rfl, rfl⟩
  | true =>
    go_enter Try.func77, Try.ntmps77
    go_wp2_with fail
    refine HK.out.mono ?_
    rintro e w1 ⟨rfl, rfl⟩
    go_wp2_with fail
    refine (HI.out _).mono ?_
    rintro e w2 ⟨rfl, rfl⟩
    go_wp2
    go_ret
    exact ⟨by simp, rfl⟩
end Go.Proofs.Ytibojlpeaolfbaa
