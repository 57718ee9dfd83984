/- Walks: the number of frames at a time; frames and a station; a time and a count. -/
import Derived.Test.YtpijiidbjcbdhaaOfS
import Derived.Test.YtpijiidbjcbdhaaVal2
namespace Go.Proofs.Ytpijiidbjcbdhaa
open Go Go.RowKit

/-- The number of frames at a time, and whether there is one. -/
def atF : List FM → Int → Nat × Bool
  | [], _ => (0, false)
  | f :: r, t => if inB (t - f.sa) 0 ((f.L.length : Int) - 1) then (f.L.getD (t - f.sa).toNat 0, true) else atF r t
theorem atF_skip {Fs : List FM} {j : Nat} {t : Int} (hj : j < Fs.length) (h : inB (t - (frAt Fs j).sa) 0 (((frAt Fs j).L.length : Int) - 1) = false) : atF (Fs.drop j) t = atF (Fs.drop (j + 1)) t := by
  have e : Fs.drop j = frAt Fs j :: Fs.drop (j + 1) := by
    rw [List.drop_eq_getElem_cons hj]
    simp [frAt, List.getD_eq_getElem?_getD, List.getElem?_eq_getElem hj]
  rw [e, atF, h]; rfl
theorem atF_hit {Fs : List FM} {j : Nat} {t : Int} (hj : j < Fs.length) (h : inB (t - (frAt Fs j).sa) 0 (((frAt Fs j).L.length : Int) - 1) = true) : atF (Fs.drop j) t = ((frAt Fs j).L.getD (t - (frAt Fs j).sa).toNat 0, true) := by
  have e : Fs.drop j = frAt Fs j :: Fs.drop (j + 1) := by
    rw [List.drop_eq_getElem_cons hj]
    simp [frAt, List.getD_eq_getElem?_getD, List.getElem?_eq_getElem hj]
  rw [e, atF, h]; rfl
theorem atF_end {Fs : List FM} {t : Int} : atF (Fs.drop Fs.length) t = (0, false) := by rw [List.drop_length]; rfl
theorem inB_lt {t sa : Int} {n : Nat} (h : inB (t - sa) 0 ((n : Int) - 1) = true) : ∃ i : Nat, t - sa = i ∧ i < n := by
  unfold inB at h
  simp at h
  exact ⟨(t - sa).toNat, by omega, by omega⟩
/-- Times of frames are within bounds. -/
def Fsa (Fs : List FM) : Prop := ∀ j, j < Fs.length → 0 ≤ (frAt Fs j).sa ∧ (frAt Fs j).sa ≤ 100000 ∧ (frAt Fs j).L.length ≤ 1048576

set_option maxRecDepth 100000 in
set_option maxHeartbeats 1600000 in
theorem l07At_any (w : World) (v : Value) (Fs : List FM) (t : Int) (h : RdFr w v Fs) (hs : Fsa Fs) (hl : Fs.length ≤ 1000) (h0 : 0 ≤ t) (h1 : t ≤ 1000000) :
    Calls Try.prog 35 #[v, .int .i64 t] w fun e w' => ∃ r, e = .returned (.tuple #[.float .f32 r, .bool (atF Fs t).2]) ∧ FV .f32 r (atF Fs t).1 ∧ w' = w := by
  obtain ⟨a, c, rfl, hc, -, hcell⟩ := h.opened
  clear h
  go_enter Try.func35, Try.ntmps35
  go_wp2
  go_loopw [10] (fun i wr => ∃ j : Nat, j ≤ Fs.length ∧ i = .int .i64 j ∧ atF Fs t = atF (Fs.drop j) t ∧ wr = w) (fun i _ => Fs.length - (intOf i).toNat)
  case atStart => exact ⟨0, Nat.zero_le _, rfl, rfl, rfl⟩
  case round =>
    obtain ⟨j, hj, rfl, hsk, rfl⟩ := hrel
    by_cases hlt : j < Fs.length
    · obtain ⟨b, o, a', c', rfl, hlb, d0, d1, d2, R0⟩ := hcell j hlt
      obtain ⟨s1, s2, s3⟩ := hs j hlt
      have HK := Lib.hid (fun wq => l00In_any wq (t - (frAt Fs j).sa) 0 (((frAt Fs j).L.length : Int) - 1))
      have HS : Hid (inB (t - (frAt Fs j).sa) 0 (((frAt Fs j).L.length : Int) - 1) = false → atF Fs t = atF (Fs.drop (j + 1)) t) := Lib.hid fun hx => by rw [hsk, atF_skip hlt hx]
      have HH : Hid (inB (t - (frAt Fs j).sa) 0 (((frAt Fs j).L.length : Int) - 1) = true → atF Fs t = ((frAt Fs j).L.getD (t - (frAt Fs j).sa).toNat 0, true)) := Lib.hid fun hx => by rw [hsk, atF_hit hlt hx]
      have HB : Hid (inB (t - (frAt Fs j).sa) 0 (((frAt Fs j).L.length : Int) - 1) = true → ∃ i : Nat, t - (frAt Fs j).sa = i ∧ i < (frAt Fs j).L.length) := Lib.hid inB_lt
      have HR := Lib.hid R0
      generalize inB (t - (frAt Fs j).sa) 0 (((frAt Fs j).L.length : Int) - 1) = q at HK HS HH HB
      clear hcell hsk R0 d0 hs
      generalize frAt Fs j = f at *
      obtain ⟨st, sa, L⟩ := f
      simp only at *
      go_wp2_with fail
      refine (HK.out _).mono ?_
      rintro e w1 ⟨rfl, rfl⟩
      clear HK
      cases q with
      | false =>
        have HS2 := Lib.hid (HS.out rfl)
        clear HS HH HB
        go_wp2
        exact ⟨⟨j + 1, by omega, by go_num, HS2.out, trivial⟩, by simp [intOf]; omega⟩
      | true =>
        have HH2 := Lib.hid (HH.out rfl)
        obtain ⟨i, hi, hin⟩ := HB.out rfl
        clear HS HH HB
        obtain ⟨b1, o1, c1, hv1, hcap, hlb1, hr⟩ := HR.out.at_block (by omega)
        obtain ⟨rfl, rfl⟩ : a' = some ⟨b1, o1, none⟩ ∧ c' = c1 := by cases hv1; exact ⟨rfl, rfl⟩
        obtain ⟨r, hr1, hr2⟩ := hr i hin
        have HF : Hid (FV .f32 r (atF Fs t).1) := Lib.hid (by rw [HH2.out]; show FV .f32 r (L.getD (t - sa).toNat 0); rw [hi]; exact hr2)
        clear hv1 hr hr2 HR
        rw [hi] at *
        go_wp2
        go_ret2
        refine ⟨r, ?_, ?_, rfl⟩
        · rw [HH2.out]; rfl
        · exact HF.out
    · obtain rfl : j = Fs.length := by omega
      have HH := Lib.hid (hsk.trans atF_end)
      clear hsk hcell
      go_wp2
      go_ret2
      exact ⟨0, by rw [HH.out]; rfl, by rw [HH.out]; exact fv0 _, rfl⟩
set_option maxRecDepth 100000 in
set_option maxHeartbeats 400000 in
theorem isStation_any (w : World) (v : Value) (Fs : List FM) (s : Int) (h : RdFr w v Fs) (hs : Fsmall Fs) :
    Calls Try.prog 37 #[v, .int .i64 s] w fun e w' => e = .returned (.bool (areF Fs && inB s 0 200)) ∧ Below w.heap.size w w' := by
  have HK := Lib.hid (areFrames_any w v Fs h hs)
  have HI := Lib.hid (fun wq => within_any wq s 0 200)
  obtain ⟨a, c, rfl, -⟩ := h.opened
  generalize areF Fs = p at HK ⊢
  generalize inB s 0 200 = q at HI ⊢
  clear h hs
  cases p with
  | false =>
    go_enter Try.func37, Try.ntmps37
    go_wp2_with fail
    refine HK.out.mono ?_
    rintro e w1 ⟨rfl, b1⟩
    go_wp2
    go_ret
    exact ⟨rfl, b1⟩
  | true =>
    go_enter Try.func37, Try.ntmps37
    go_wp2_with fail
    refine HK.out.mono ?_
    rintro e w1 ⟨rfl, b1⟩
    go_wp2_with fail
    refine (HI.out _).mono ?_
    rintro e w2 ⟨rfl, rfl⟩
    go_wp2
    go_ret
    exact ⟨by simp, b1⟩
set_option maxRecDepth 100000 in
set_option maxHeartbeats 400000 in
theorem l07Station_any (w : World) (v : Value) (Fs : List FM) (s : Int) (h : RdFr w v Fs) (hs : Fsmall Fs) :
    Calls Try.prog 32 #[v, .int .i64 s] w fun e w' => e = .returned (.bool (areF Fs && inB s 0 200)) ∧ w' = w := by
  have HK := Lib.hid (l07Are_any w v Fs h hs)
  have HI := Lib.hid (fun wq => l00In_any wq s 0 200)
  obtain ⟨a, c, rfl, -⟩ := h.opened
  generalize areF Fs = p at HK ⊢
  generalize inB s 0 200 = q at HI ⊢
  clear h hs
  cases p with
  | false =>
    go_enter Try.func32, Try.ntmps32
    go_wp2_with fail
    refine HK.out.mono ?_
    rintro e w1 ⟨rfl, rfl⟩
    go_wp2
    go_ret
    exact ⟨rfl, rfl⟩
  | true =>
    go_enter Try.func32, Try.ntmps32
    go_wp2_with fail
    refine HK.out.mono ?_
    rintro e w1 ⟨rfl, rfl⟩
    go_wp2_with fail
    refine (HI.out _).mono ?_
    rintro e w2 ⟨rfl, rfl⟩
    go_wp2
    go_ret
    exact ⟨by simp, rfl⟩
set_option maxRecDepth 100000 in
set_option maxHeartbeats 400000 in
theorem isSpan_any (w : World) (t n : Int) :
    Calls Try.prog 38 #[.int .i64 t, .int .i64 n] w fun e w' => e = .returned (.bool (inB t 0 100000 && inB n 1 128)) ∧ w' = w := by
  have HK := Lib.hid (within_any w t 0 100000)
  have HI := Lib.hid (fun wq => isCount_any wq n)
  generalize inB t 0 100000 = p at HK ⊢
  generalize inB n 1 128 = q at HI ⊢
  cases p with
  | false =>
    go_enter Try.func38, Try.ntmps38
    go_wp2_with fail
    refine HK.out.mono ?_
    rintro e w1 ⟨rfl, rfl⟩
    go_wp2
    go_ret
    exact ⟨rfl, rfl⟩
  | true =>
    go_enter Try.func38, Try.ntmps38
    go_wp2_with fail
    refine HK.out.mono ?_
    rintro e w1 ⟨rfl, rfl⟩
    go_wp2_with fail
    refine (HI.out _).mono ?_
    rintro e w2 ⟨rfl, rfl⟩
    go_wp2
    go_ret
    exact ⟨by simp, rfl⟩
end Go.Proofs.Ytpijiidbjcbdhaa
