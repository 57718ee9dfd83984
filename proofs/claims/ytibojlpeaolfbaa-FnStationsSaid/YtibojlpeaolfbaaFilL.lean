/- Walks: impl.FillFrames, spec.FillFrames. -/
import Derived.Test.YtibojlpeaolfbaaFil
namespace Go.Proofs.Ytibojlpeaolfbaa
open Go Go.RowKit

def filOk (Fs : List FM) (s t0 n : Int) : Bool := (areF Fs && inB s 0 200) && (inB t0 0 100000 && inB n 1 128)
def filN' (Fs : List FM) (s t0 n : Int) : List Nat := if filOk Fs s t0 n then filN Fs s t0 n.toNat else []
def filB' (Fs : List FM) (s t0 n : Int) : List Bool := if filOk Fs s t0 n then filB Fs s t0 n.toNat else []
theorem filN'_length (Fs : List FM) (s t0 n : Int) : (filN' Fs s t0 n).length ≤ 128 := by
  unfold filN'
  split
  · rename_i h
    rw [filN_length]
    unfold filOk inB at h
    simp only [Bool.and_eq_true, decide_eq_true_eq] at h
    omega
  · simp
theorem filB'_length (Fs : List FM) (s t0 n : Int) : (filB' Fs s t0 n).length = (filN' Fs s t0 n).length := by
  unfold filB' filN'
  split
  · rw [filN_length, filB_length]
  · rfl
def FilV (Fs : List FM) (s t0 n : Int) (B : Nat) (e : Ending) (w' : World) : Prop :=
  ∃ v1 v2, e = .returned (.tuple #[v1, v2, .bool (filOk Fs s t0 n)]) ∧ OwnF w' B v1 (filN' Fs s t0 n) ∧ OwnB w' B v2 (filB' Fs s t0 n)
theorem OwnB.nil (w : World) (B : Nat) : OwnB w B (.slice none 0 0) [] := World.ownsRow_nil w B _ 1
theorem inB_out {n lo hi : Int} (h : inB n lo hi = true) : lo ≤ n ∧ n ≤ hi := by
  unfold inB at h
  simpa using h

set_option maxRecDepth 100000 in
set_option maxHeartbeats 1600000 in
theorem implFill_any (w : World) (v : Value) (Fs : List FM) (s t0 n : Int) (h : RdFr w v Fs) (hs : Fsmall Fs) :
    Calls Try.prog 44 #[v, .int .i64 s, .int .i64 t0, .int .i64 n] w fun e w' => FilV Fs s t0 n w.heap.size e w' ∧ Below w.heap.size w w' := by
  have HK := Lib.hid (isStation_any w v Fs s h hs)
  have HP := Lib.hid (fun wq => isSpan_any wq t0 n)
  have HR := Lib.hid h
  obtain ⟨a, c, rfl, -⟩ := h.opened
  clear h
  have HN : Hid (filOk Fs s t0 n = false → ∀ w', FilV Fs s t0 n w.heap.size (.returned (.tuple #[.slice none 0 0, .slice none 0 0, .bool false])) w') := Lib.hid fun hf w' => by
    refine ⟨_, _, by rw [hf], ?_, ?_⟩
    · unfold filN'; rw [hf]; exact OwnF.nil _ _
    · unfold filB'; rw [hf]; exact OwnB.nil _ _
  cases hp : areF Fs && inB s 0 200 with
  | false =>
    have HN2 := Lib.hid (HN.out (by unfold filOk; rw [hp]; rfl))
    rw [hp] at HK
    clear hp HR hs HN HP
    go_enter Try.func44, Try.ntmps44
    go_wp2_with fail
    refine HK.out.mono ?_
    rintro e w1 ⟨rfl, b1⟩
    go_wp2
    go_ret3
    exact ⟨HN2.out _, b1⟩
  | true =>
    cases hq : inB t0 0 100000 && inB n 1 128 with
    | false =>
      have HN2 := Lib.hid (HN.out (by unfold filOk; rw [hp, hq]; rfl))
      rw [hp] at HK
      rw [hq] at HP
      clear hp hq HR hs HN
      go_enter Try.func44, Try.ntmps44
      go_wp2_with fail
      refine HK.out.mono ?_
      rintro e w1 ⟨rfl, b1⟩
      go_wp2_with fail
      refine (HP.out _).mono ?_
      rintro e w2 ⟨rfl, rfl⟩
      go_wp2
      go_ret3
      exact ⟨HN2.out _, b1⟩
    | true =>
      have hok : filOk Fs s t0 n = true := by unfold filOk; rw [hp, hq]; rfl
      have hq2 := hq
      have hp2 := hp
      simp only [Bool.and_eq_true] at hq2 hp2
      have t1 := inB_out hq2.1
      have t2 := inB_out hq2.2
      obtain ⟨m, rfl⟩ : ∃ m : Nat, n = m := ⟨n.toNat, by omega⟩
      have HF := Lib.hid (fun w1 hb => fill_any w1 _ Fs s t0 m (HR.out.mono hb) (areF_len hp2.1) (areF_sa hp2.1 hs) t1.1 t1.2 (by omega))
      have HG : Hid (∀ (v1 v2 : Value) (w1 w' : World), w.heap.size ≤ w1.heap.size → OwnF w' w1.heap.size v1 (filN Fs s t0 m) → OwnB w' w1.heap.size v2 (filB Fs s t0 m) → FilV Fs s t0 m w.heap.size (.returned (.tuple #[v1, v2, .bool true])) w') := Lib.hid fun v1 v2 w1 w' hle h1 h2 => by
        refine ⟨_, _, by rw [hok], ?_, ?_⟩
        · unfold filN'; rw [hok]; exact h1.mono hle
        · unfold filB'; rw [hok]; exact h2.base hle
      rw [hp] at HK
      rw [hq] at HP
      clear hp hq HR hs HN hok hq2 hp2 t1 t2
      go_enter Try.func44, Try.ntmps44
      go_wp2_with fail
      refine HK.out.mono ?_
      rintro e w1 ⟨rfl, b1⟩
      go_wp2_with fail
      refine (HP.out _).mono ?_
      rintro e w2 ⟨rfl, rfl⟩
      go_wp2_with fail
      refine (HF.out _ b1).mono ?_
      rintro e w3 ⟨v1, v2, rfl, o1, o2, b3⟩
      have O := Lib.hid (HG.out v1 v2 _ _ b1.size o1 o2)
      clear o1 o2 HF HK HP HG
      go_wp2
      go_ret3
      exact ⟨O.out, b1.trans (b3.mono b1.size)⟩

end Go.Proofs.Ytibojlpeaolfbaa
