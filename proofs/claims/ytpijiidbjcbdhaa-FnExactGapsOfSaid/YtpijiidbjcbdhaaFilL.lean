/- Walks: impl.FillFrames, spec.FillFrames. -/
import Derived.Test.YtpijiidbjcbdhaaFil
namespace Go.Proofs.Ytpijiidbjcbdhaa
open Go Go.RowKit

def filOk (Fs : List FM) (s t0 n : Int) : Bool := (areF Fs && inB s 0 200) && (inB t0 0 100000 && inB n 1 128)
def filN' (Fs : List FM) (s t0 n : Int) : List Nat := if filOk Fs s t0 n then filN Fs s t0 n.toNat else []
def filB' (Fs : List FM) (s t0 n : Int) : List Bool := if filOk Fs s t0 n then filB Fs s t0 n.toNat else []
theorem filN'_length (Fs : List FM) (s t0 n : Int) : (filN' Fs s t0 n).length ≤ 128 := by
  unfold filN'
  split
  · rename_i h
    rw [filN_length]
    unfold filOk inB at h
    simp only [Bool.and_eq_true, decide_eq_true_eq] at h
    omega
  · simp
theorem filB'_length (Fs : List FM) (s t0 n : Int) : (filB' Fs s t0 n).length = (filN' Fs s t0 n).length := by
  unfold filB' filN'
  split
  · rw [filN_length, filB_length]
  · rfl
def FilV (Fs : List FM) (s t0 n : Int) (B : Nat) (e : Ending) (w' : World) : Prop :=
  ∃ v1 v2, e = .returned (.tuple #[v1, v2, .bool (filOk Fs s t0 n)]) ∧ OwnF w' B v1 (filN' Fs s t0 n) ∧ OwnB w' B v2 (filB' Fs s t0 n)
theorem OwnB.nil (w : World) (B : Nat) : OwnB w B (.slice none 0 0) [] := World.ownsRow_nil w B _ 1
theorem inB_out {n lo hi : Int} (h : inB n lo hi = true) : lo ≤ n ∧ n ≤ hi := by
  unfold inB at h
  simpa using h

set_option maxRecDepth 100000 in
set_option maxHeartbeats 1600000 in
theorem implFill_any (w : World) (v : Value) (Fs : List FM) (s t0 n : Int) (h : RdFr w v Fs) (hs : Fsmall Fs) :
    Calls Try.prog 10 #[v, .int .i64 s, .int .i64 t0, .int .i64 n] w fun e w' => FilV Fs s t0 n w.heap.size e w' ∧ Below w.heap.size w w' := by
  have HK := Lib.hid (isStation_any w v Fs s h hs)
  have HP := Lib.hid (fun wq => isSpan_any wq t0 n)
  have HR := Lib.hid h
  obtain ⟨a, c, rfl, -⟩ := h.opened
  clear h
  have HN : Hid (filOk Fs s t0 n = false → ∀ w', FilV Fs s t0 n w.heap.size (.returned (.tuple #[.slice none 0 0, .slice none 0 0, .bool false])) w') := Lib.hid fun hf w' => by
    refine ⟨_, _, by rw [hf], ?_, ?_⟩
    · unfold filN'; rw [hf]; exact OwnF.nil _ _
    · unfold filB'; rw [hf]; exact OwnB.nil _ _
  cases hp : areF Fs && inB s 0 200 with
  | false =>
    have HN2 := Lib.hid (HN.out (by unfold filOk; rw [hp]; rfl))
    rw [hp] at HK
    clear hp HR hs HN HP
    go_enter Try.func10, Try.ntmps10
    go_wp2_with fail
    refine HK.out.mono ?_
    rintro e w1 ⟨rfl, b1⟩
    go_wp2
    go_ret3
    exact ⟨HN2.out _, b1⟩
  | true =>
    cases hq : inB t0 0 100000 && inB n 1 128 with
    | false =>
      have HN2 := Lib.hid (HN.out (by unfold filOk; rw [hp, hq]; rfl))
      rw [hp] at HK
      rw [hq] at HP
      clear hp hq HR hs HN
      go_enter Try.func10, Try.ntmps10
      go_wp2_with fail
      refine HK.out.mono ?_
      rintro e w1 ⟨rfl, b1⟩
      go_wp2_with fail
      refine (HP.out _).mono ?_
      rintro e w2 ⟨rfl, rfl⟩
      go_wp2
      go_ret3
      exact ⟨HN2.out _, b1⟩
    | true =>
      have hok : filOk Fs s t0 n = true := by unfold filOk; rw [hp, hq]; rfl
      have hq2 := hq
      have hp2 := hp
      simp only [Bool.and_eq_true] at hq2 hp2
      have t1 := inB_out hq2.1
      have t2 := inB_out hq2.2
      obtain ⟨m, rfl⟩ : ∃ m : Nat, n = m := ⟨n.toNat, by omega⟩
      have HF := Lib.hid (fun w1 hb => fill_any w1 _ Fs s t0 m (HR.out.mono hb) (areF_len hp2.1) (areF_sa hp2.1 hs) t1.1 t1.2 (by omega))
      have HG : Hid (∀ (v1 v2 : Value) (w1 w' : World), w.heap.size ≤ w1.heap.size → OwnF w' w1.heap.size v1 (filN Fs s t0 m) → OwnB w' w1.heap.size v2 (filB Fs s t0 m) → FilV Fs s t0 m w.heap.size (.returned (.tuple #[v1, v2, .bool true])) w') := Lib.hid fun v1 v2 w1 w' hle h1 h2 => by
        refine ⟨_, _, by rw [hok], ?_, ?_⟩
        · unfold filN'; rw [hok]; exact h1.mono hle
        · unfold filB'; rw [hok]; exact h2.base hle
      rw [hp] at HK
      rw [hq] at HP
      clear hp hq HR hs HN hok hq2 hp2 t1 t2
      go_enter Try.func10, Try.ntmps10
      go_wp2_with fail
      refine HK.out.mono ?_
      rintro e w1 ⟨rfl, b1⟩
      go_wp2_with fail
      refine (HP.out _).mono ?_
      rintro e w2 ⟨rfl, rfl⟩
      go_wp2_with fail
      refine (HF.out _ b1).mono ?_
      rintro e w3 ⟨v1, v2, rfl, o1, o2, b3⟩
      have O := Lib.hid (HG.out v1 v2 _ _ b1.size o1 o2)
      clear o1 o2 HF HK HP HG
      go_wp2
      go_ret3
      exact ⟨O.out, b1.trans (b3.mono b1.size)⟩

set_option maxRecDepth 100000 in
set_option maxHeartbeats 3200000 in
theorem specFill_any (w : World) (v : Value) (Fs : List FM) (s t0 n : Int) (h : RdFr w v Fs) (hs : Fsmall Fs) :
    Calls Try.prog 8 #[v, .int .i64 s, .int .i64 t0, .int .i64 n] w fun e w' => FilV Fs s t0 n w.heap.size e w' ∧ Below w.heap.size w w' := by
  have HK := Lib.hid (l07Station_any w v Fs s h hs)
  have HP := Lib.hid (fun wq => l00In_any wq t0 0 100000)
  have HQ := Lib.hid (fun wq => l00In_any wq n 1 128)
  have HR := Lib.hid h
  obtain ⟨a, c, rfl, -⟩ := h.opened
  clear h
  have HN : Hid (filOk Fs s t0 n = false → ∀ w', FilV Fs s t0 n w.heap.size (.returned (.tuple #[.slice none 0 0, .slice none 0 0, .bool false])) w') := Lib.hid fun hf w' => by
    refine ⟨_, _, by rw [hf], ?_, ?_⟩
    · unfold filN'; rw [hf]; exact OwnF.nil _ _
    · unfold filB'; rw [hf]; exact OwnB.nil _ _
  cases hp : areF Fs && inB s 0 200 with
  | false =>
    have HN2 := Lib.hid (HN.out (by unfold filOk; rw [hp]; rfl))
    rw [hp] at HK
    clear hp HR hs HN HP HQ
    go_enter Try.func8, Try.ntmps8
    go_wp2_with fail
    refine HK.out.mono ?_
    rintro e w1 ⟨rfl, rfl⟩
    go_wp2
    go_ret3
    exact ⟨HN2.out _, Below.refl _ _⟩
  | true =>
    cases hq : inB t0 0 100000 with
    | false =>
      have HN2 := Lib.hid (HN.out (by unfold filOk; rw [hp, hq]; rfl))
      rw [hp] at HK
      rw [hq] at HP
      clear hp hq HR hs HN HQ
      go_enter Try.func8, Try.ntmps8
      go_wp2_with fail
      refine HK.out.mono ?_
      rintro e w1 ⟨rfl, rfl⟩
      go_wp2_with fail
      refine (HP.out _).mono ?_
      rintro e w2 ⟨rfl, rfl⟩
      go_wp2
      go_ret3
      exact ⟨HN2.out _, Below.refl _ _⟩
    | true =>
      cases hr : inB n 1 128 with
      | false =>
        have HN2 := Lib.hid (HN.out (by unfold filOk; rw [hp, hq, hr]; rfl))
        rw [hp] at HK
        rw [hq] at HP
        rw [hr] at HQ
        clear hp hq hr HR hs HN
        go_enter Try.func8, Try.ntmps8
        go_wp2_with fail
        refine HK.out.mono ?_
        rintro e w1 ⟨rfl, rfl⟩
        go_wp2_with fail
        refine (HP.out _).mono ?_
        rintro e w2 ⟨rfl, rfl⟩
        go_wp2_with fail
        refine (HQ.out _).mono ?_
        rintro e w3 ⟨rfl, rfl⟩
        go_wp2
        go_ret3
        exact ⟨HN2.out _, Below.refl _ _⟩
      | true =>
        have hok : filOk Fs s t0 n = true := by unfold filOk; rw [hp, hq, hr]; rfl
        have hp2 := hp
        simp only [Bool.and_eq_true] at hp2
        have t1 := inB_out hq
        have t2 := inB_out hr
        obtain ⟨m, rfl⟩ : ∃ m : Nat, n = m := ⟨n.toNat, by omega⟩
        have HSA := Lib.hid (ofF_sa s (areF_sa hp2.1 hs))
        have hlen := areF_len hp2.1
        have hlo := ofF_length Fs s
        have HO := Lib.hid (l07Of_any w _ s Fs HR.out (by omega) hs.2)
        have HG : Hid (∀ v1 v2 w', OwnF w' w.heap.size v1 (filN Fs s t0 m) → OwnB w' w.heap.size v2 (filB Fs s t0 m) → FilV Fs s t0 m w.heap.size (.returned (.tuple #[v1, v2, .bool true])) w') := Lib.hid fun v1 v2 w' h1 h2 => by
          refine ⟨_, _, by rw [hok], ?_, ?_⟩
          · unfold filN'; rw [hok]; exact h1
          · unfold filB'; rw [hok]; exact h2
        rw [hp] at HK
        rw [hq] at HP
        rw [hr] at HQ
        obtain ⟨hm1, hm2⟩ := t2
        obtain ⟨h0, h1⟩ := t1
        clear hp hq hr HR hs HN hok hp2
        go_enter Try.func8, Try.ntmps8
        go_wp2_with fail
        refine HK.out.mono ?_
        rintro e w1 ⟨rfl, rfl⟩
        go_wp2_with fail
        refine (HP.out _).mono ?_
        rintro e w2 ⟨rfl, rfl⟩
        go_wp2_with fail
        refine (HQ.out _).mono ?_
        rintro e w3 ⟨rfl, rfl⟩
        go_wp2_with fail
        refine HO.out.mono ?_
        clear HK HP HQ HO
        rintro e w4 ⟨v4, Es, rfl, o4, r4, hes, b4, e4⟩
        have hz4 := b4.size
        have HRD := Lib.hid (hes ▸ o4.rd r4)
        obtain ⟨a4, c4, rfl⟩ := o4.slice
        have hlE : Es.length = (ofF Fs s).length := by rw [← hes, List.length_map]
        rw [hlE] at HRD
        clear o4 r4 hes e4
        have h5 : (w4.alloc (.cells #[] 58)).heap.size = w4.heap.size + 1 := World.size_alloc _ _
        have OF : Hid (OwnF ((w4.alloc (.cells #[] 58)).alloc (.cells #[] 4)) w4.heap.size (.slice (some ⟨w4.heap.size, 0, none⟩) 0 0) []) := Lib.hid (by
          have : OwnF (w4.alloc (.cells #[] 58)) w4.heap.size (.slice (some ⟨w4.heap.size, 0, none⟩) 0 0) [] := ⟨[], rfl, fun j hj => (by cases hj), World.ownsRow_lit w4 #[] 0 (Nat.le_refl _) (by decide) rfl⟩
          exact this.kept ((Below.refl _ _).alloc (Nat.le_refl _) _))
        have OB : Hid (OwnB ((w4.alloc (.cells #[] 58)).alloc (.cells #[] 4)) w4.heap.size (.slice (some ⟨w4.heap.size + 1, 0, none⟩) 0 0) []) := Lib.hid (by
          have := World.ownsRow_lit (e := 4) (size := 1) (base := w4.heap.size) (w4.alloc (.cells #[] 58)) #[] 0 (by omega) (by decide) rfl
          rw [h5] at this
          exact this)
        have BW : Hid (Below w4.heap.size w4 ((w4.alloc (.cells #[] 58)).alloc (.cells #[] 4))) := Lib.hid (Below.alloc (Below.alloc (Below.refl _ _) (Nat.le_refl _) _) (by omega) _)
        have B4 := Lib.hid b4
        clear b4
        rw [hlE]
        go_wp2_with fail
        go_loopw [12, 13, 14] (fun o1 o2 i wr => ∃ k : Nat, k ≤ m ∧ i = .int .i64 k ∧ OwnF wr w4.heap.size o1 (filN Fs s t0 k) ∧ OwnB wr w4.heap.size o2 (filB Fs s t0 k) ∧ Below w4.heap.size w4 wr) (fun _ _ i _ => m - (intOf i).toNat)
        case atStart => exact ⟨0, Nat.zero_le _, rfl, OF.out, OB.out, BW.out⟩
        case round =>
          clear OF OB BW h5
          obtain ⟨wi, rfl⟩ : ∃ wi : World, wi = wr := ⟨_, rfl⟩
          obtain ⟨k, hk, rfl, p1, p2, bw⟩ := hrel
          have P1 := Lib.hid p1
          have P2 := Lib.hid p2
          have BW := Lib.hid bw
          have hzi := bw.size
          have rd := HRD.out.mono bw
          clear p1 p2 bw
          by_cases hlt : k < m
          · have HA := Lib.hid (l07At_any wi _ (ofF Fs s) (t0 + k) rd HSA.out (by omega) (by omega) (by omega))
            have HN1 : Hid (filN Fs s t0 (k + 1) = filN Fs s t0 k ++ [(atF (ofF Fs s) (t0 + k)).1]) := Lib.hid (tab_succ _ _)
            have HN2 : Hid (filB Fs s t0 (k + 1) = filB Fs s t0 k ++ [(atF (ofF Fs s) (t0 + k)).2]) := Lib.hid (by unfold filB; rw [List.range_succ, List.map_append]; rfl)
            have hl1 := filN_length Fs s t0 k
            have hl2 := filB_length Fs s t0 k
            clear rd
            generalize atF (ofF Fs s) (t0 + k) = q at *
            obtain ⟨qx, qb⟩ := q
            simp only at *
            go_wp2_with fail
            refine HA.out.mono ?_
            rintro e w5 ⟨r, rfl, hr, hw5⟩
            obtain rfl : w5 = wi := hw5
            have xa : Below w5.heap.size w5 (w5.alloc (.cells #[.float .f32 r] 58)) := (Below.refl _ _).alloc (Nat.le_refl _) _
            have xz : (w5.alloc (.cells #[.float .f32 r] 58)).heap.size = w5.heap.size + 1 := World.size_alloc _ _
            go_wp2_with (first | (at_builtin; refine wpList_push rfl _ _ rfl w4.heap.size u12 (filN Fs s t0 k) rfl (P1.out.kept xa) _ _ r qx rfl (cell_new _ _ _) hr (by omega) (by omega) ?_; intro v6 w6 o6 g6 b6 _; go_must (have O6 := Lib.hid o6; have z6 : w5.heap.size + 1 ≤ w6.heap.size := (by have := g6.size; omega); have Q2 := Lib.hid ((P2.out.kept xa).chg (Chg.of_grown (S := fun q => u12.ownBlock = some q) g6 fun q hq => hq) fun q hq e => apart_FB (P1.out.kept xa) (P2.out.kept xa) q e hq); have B6 := Lib.hid (Below.trans (BW.out.trans (xa.mono hzi)) b6); clear o6 g6 b6)) |
              (at_builtin; go_must (refine wpList_push1 rfl _ _ 25 4 rfl (.bool false) 1 Try.underlying25 Try.infoB rfl (by decide) w4.heap.size _ _ _ rfl (OwnB.kept Q2.out ((Below.refl _ _).alloc (Nat.le_refl _) _)) _ _ _ rfl (cell_new _ _ _) rfl (by omega) (by rw [World.size_alloc]; omega) ?_); intro v7 w7 o7 g7 b7))
            have Q1 := O6.out.kept ((Below.refl _ _).alloc (Nat.le_refl _) (.cells #[.bool qb] 4))
            have bz := B6.out.size
            refine ⟨⟨k + 1, by omega, by go_num, ?_, ?_, ?_⟩, by simp [intOf]; omega⟩
            · rw [HN1.out]
              exact Q1.chg (Chg.of_grown (S := fun q => u13.ownBlock = some q) g7 fun q hq => hq) fun q hq e => apart_FB Q1 (Q2.out.kept ((Below.refl _ _).alloc (Nat.le_refl _) _)) q hq e
            · rw [HN2.out]
              unfold OwnB
              rw [List.map_append, List.length_append]
              exact o7
            · exact (B6.out.trans (((Below.refl _ _).alloc (Nat.le_refl _) _).mono bz)).trans b7
          · obtain rfl : k = m := by omega
            go_wp2_with fail
            go_ret3
            exact ⟨HG.out _ _ _ (P1.out.mono hz4) (P2.out.base hz4), B4.out.trans (BW.out.mono hz4)⟩
end Go.Proofs.Ytpijiidbjcbdhaa
