/- Walks: the journal of lines: the program's. -/
import Derived.Test.YtalajgjdceoleaaDoorJ2
namespace Go.Proofs.YtalajgjdceoleaaDoor
open Go Go.RowKit

def txtIf (b : Bool) (t : ByteArray) : Value := .tuple #[.string (if b = true then t else ⟨#[]⟩), .bool b]
def lineT (n : Nat) (s : ByteArray) : ByteArray := decT n ++ (⟨#[32]⟩ : ByteArray) ++ s ++ (⟨#[10]⟩ : ByteArray)
theorem lineT_size (n : Nat) (s : ByteArray) : (lineT n s).size = (Lib.decDigits n).length + s.size + 2 := by
  unfold lineT
  simp only [ByteArray.size_append, decT_size]
  have h1 : (⟨#[32]⟩ : ByteArray).size = 1 := rfl
  have h2 : (⟨#[10]⟩ : ByteArray).size = 1 := rfl
  omega
def ckAt (L : List ByteArray) : Nat → Nat
  | 0 => 0
  | j + 1 => chk (ckAt L j) (lnAt L j)
theorem ckAt_lt (L : List ByteArray) (j : Nat) : ckAt L j < 65003 := by
  induction j with
  | zero => exact (by decide : (0:Nat) < 65003)
  | succ j ih => exact chkN_lt _ _ _ ih
/-- The journal of the first j lines. -/
def jour (L : List ByteArray) : Nat → ByteArray
  | 0 => ⟨#[]⟩
  | j + 1 => jour L j ++ lineT (ckAt L (j + 1)) (lnAt L j)
theorem jour_size_succ (L : List ByteArray) (j : Nat) : (jour L j).size + (lnAt L j).size + 3 ≤ (jour L (j + 1)).size := by
  show _ ≤ (jour L j ++ lineT (ckAt L (j + 1)) (lnAt L j)).size
  rw [ByteArray.size_append, lineT_size]
  have := decDigits_pos (ckAt L (j + 1))
  omega
theorem jour_mono (L : List ByteArray) {j n : Nat} (h : j ≤ n) : (jour L j).size ≤ (jour L n).size := by
  induction n with
  | zero => obtain rfl : j = 0 := by omega
            exact Nat.le_refl _
  | succ n ih =>
    rcases Nat.lt_or_ge j (n + 1) with h1 | h1
    · have := jour_size_succ L n
      have := ih (by omega)
      omega
    · obtain rfl : j = n + 1 := by omega
      exact Nat.le_refl _
def nlB (s : ByteArray) : Bool := decide (0 ≤ Lib.indexByte s.data.toList 10)
def jourB (L : List ByteArray) : Bool := (List.range L.length).all (fun i => !nlB (lnAt L i)) && decide ((jour L L.length).size ≤ 12000)
theorem jourB_nl {L : List ByteArray} {j : Nat} (hj : j < L.length) (h : nlB (lnAt L j) = true) : jourB L = false := by
  unfold jourB
  have : (List.range L.length).all (fun i => !nlB (lnAt L i)) = false := by
    rw [List.all_eq_false]
    exact ⟨j, List.mem_range.2 hj, by rw [h]; decide⟩
  rw [this]; rfl
theorem jourB_long {L : List ByteArray} {j : Nat} (hj : j ≤ L.length) (h : 12000 < (jour L j).size) : jourB L = false := by
  unfold jourB
  have h1 := jour_mono L hj
  rw [decide_eq_false (by omega), Bool.and_false]
theorem jourB_ok {L : List ByteArray} (h : ∀ i, i < L.length → nlB (lnAt L i) = false) (h2 : (jour L L.length).size ≤ 12000) : jourB L = true := by
  unfold jourB
  rw [decide_eq_true h2, Bool.and_true, List.all_eq_true]
  intro i hi
  rw [h i (List.mem_range.1 hi)]; rfl

set_option maxRecDepth 100000 in
set_option maxHeartbeats 800000 in
theorem journalLine_any (w : World) (n : Nat) (s : ByteArray) (hn : n < 65003) (hs : s.size ≤ 1048576) (hT : Tab10 w) :
    Calls Tryd.prog 16 #[.int .i64 n, .string s] w fun e w' => e = .returned (.tuple #[.string (lineT (chk n s) s), .int .i64 (chk n s)]) ∧ Below w.heap.size w w' := by
  have hc := chkN_lt n s s.size hn
  change chk n s < 65003 at hc
  obtain ⟨c, hc'⟩ : ∃ c, chk n s = c := ⟨_, rfl⟩
  have KD : ∀ w1, Tab10 w1 → Calls Tryd.prog 24 #[.int .i64 c] w1 fun e w' => e = .returned (.string (decT c)) ∧ Below w1.heap.size w1 w' := fun w1 h => decimal_any w1 c (by omega) h
  have hD : (decT c).size ≤ 21 := by rw [decT_size]; exact decDigits_max c (by omega)
  have HE := Lib.hid (show decT c ++ (⟨#[32]⟩ : ByteArray) ++ s ++ (⟨#[10]⟩ : ByteArray) = lineT c s from rfl)
  have HK := Lib.hid (checkOf_any w n s hn hs)
  rw [hc'] at HK ⊢
  generalize decT c = D at *
  clear hc hc'
  go_enter Tryd.func16, Tryd.ntmps16
  go_wp2_with fail
  refine HK.out.mono ?_
  rintro e w1 ⟨rfl, rfl⟩
  go_wp2_with fail
  refine (KD w1 hT).mono ?_
  rintro e w2 ⟨rfl, b2⟩
  clear KD
  go_wp2
  go_ret2
  refine ⟨?_, b2⟩
  rw [← HE.out]
  rfl

set_option maxRecDepth 100000 in
set_option maxHeartbeats 1600000 in
theorem implJournalOf_any (w : World) (v : Value) (L : List ByteArray) (h : RdStr w v L) (hl : L.length ≤ 1048576) (hm : ∀ j, j < L.length → (lnAt L j).size ≤ 1048576) (hT : Tab10 w) :
    Calls Tryd.prog 8 #[v] w fun e w' => e = .returned (txtIf (jourB L) (jour L L.length)) ∧ Below w.heap.size w w' := by
  obtain ⟨a, c, rfl, hc, -, hcell⟩ := h.opened
  go_enter Tryd.func8, Tryd.ntmps8
  go_wp2_with fail
  go_loopw [4, 5, 11] (fun o ck i wr => ∃ j : Nat, j ≤ L.length ∧ i = .int .i64 j ∧ o = .string (jour L j) ∧ ck = .int .i64 (ckAt L j) ∧ (∀ i, i < j → nlB (lnAt L i) = false) ∧ (jour L j).size ≤ 12000 ∧ Below w.heap.size w wr) (fun _ _ i _ => L.length - (intOf i).toNat)
  case atStart => exact ⟨0, Nat.zero_le _, rfl, rfl, rfl, (fun i hi => by cases hi), Nat.zero_le _, Below.refl _ _⟩
  case round =>
    obtain ⟨wi, rfl⟩ : ∃ wi : World, wi = wr := ⟨_, rfl⟩
    obtain ⟨j, hj, rfl, rfl, rfl, hnl, hsz, hb⟩ := hrel
    by_cases hlt : j < L.length
    · obtain ⟨b, o, rfl, hlb, d0⟩ := hcell j hlt
      have d1 : wi.cell? ⟨b, o + j, none⟩ = some (.string (lnAt L j)) := by rw [(bcell hb).1 _ _ hlb]; exact d0
      have hs := hm j hlt
      have HNl : Hid (nlB (lnAt L j) = decide (0 ≤ Lib.indexByte (lnAt L j).data.toList 10)) := Lib.hid rfl
      have HF := Lib.hid (Tryd.strings_Contains_one (lnAt L j) 10 wi)
      rw [← HNl.out] at HF
      have hs := hm j hlt
      have hck := ckAt_lt L j
      have hcl := chkN_lt (ckAt L j) (lnAt L j) (lnAt L j).size hck
      change chk (ckAt L j) (lnAt L j) < 65003 at hcl
      have HJ := Lib.hid (show jour L (j + 1) = jour L j ++ lineT (chk (ckAt L j) (lnAt L j)) (lnAt L j) from rfl)
      have HC := Lib.hid (show ckAt L (j + 1) = chk (ckAt L j) (lnAt L j) from rfl)
      have HN := Lib.hid hnl
      have HS := Lib.hid (jour_size_succ L j)
      have HL := Lib.hid (fun h : nlB (lnAt L j) = true => jourB_nl hlt h)
      have HG := Lib.hid (fun h : 12000 < (jour L (j + 1)).size => jourB_long (j := j + 1) (by omega) h)
      have hls := lineT_size (chk (ckAt L j) (lnAt L j)) (lnAt L j)
      have hdg := decDigits_max (chk (ckAt L j) (lnAt L j)) hcl
      have hT2 : (lineT (chk (ckAt L j) (lnAt L j)) (lnAt L j)).size ≤ 1048600 := by omega
      have HK := Lib.hid (journalLine_any wi (ckAt L j) (lnAt L j) hck hs (hT.mono hb))
      obtain ⟨T, hTe⟩ : ∃ T, lineT (chk (ckAt L j) (lnAt L j)) (lnAt L j) = T := ⟨_, rfl⟩
      obtain ⟨O, hOe⟩ : ∃ O, jour L j = O := ⟨_, rfl⟩
      rw [hTe] at hT2 HJ HK
      rw [hOe] at hsz HJ HS ⊢
      obtain ⟨s, hse⟩ : ∃ s, lnAt L j = s := ⟨_, rfl⟩
      obtain ⟨nl, hne⟩ : ∃ b, nlB (lnAt L j) = b := ⟨_, rfl⟩
      have HNE := Lib.hid hne
      rw [hne] at HF HL
      rw [hse] at d1 hs HF HK HS HC
      obtain ⟨c1, hc1⟩ : ∃ c1, chk (ckAt L j) s = c1 := ⟨_, rfl⟩
      obtain ⟨c0, hc0⟩ : ∃ c0, ckAt L j = c0 := ⟨_, rfl⟩
      rw [hc1] at HK HC
      rw [hc0] at HK ⊢
      have HSE := Lib.hid hse
      clear hcell d0 hnl hls hdg HNl hTe hOe hse hc1 hc0 hne hck hcl
      go_wp2_with fail
      refine HF.out.mono ?_
      rintro e w1 ⟨rfl, rfl⟩
      cases nl with
      | true =>
        have Hf := Lib.hid (HL.out rfl)
        go_wp2
        go_ret2
        refine ⟨?_, hb⟩
        rw [Hf.out]; rfl
      | false =>
        by_cases hlong : 12000 < s.size
        · have hf : jourB L = false := HG.out (by have := HS.out; omega)
          have Hf := Lib.hid hf
          clear hf
          go_wp2
          go_ret2
          refine ⟨?_, hb⟩
          rw [Hf.out]; rfl
        · go_wp2_with fail
          refine HK.out.mono ?_
          rintro e w2 ⟨rfl, b2⟩
          have hb2 := hb.trans (b2.mono hb.size)
          clear d1
          by_cases hbig : 12000 < (O ++ T).size
          · have hf : jourB L = false := HG.out (by rw [HJ.out]; exact hbig)
            rw [ByteArray.size_append] at hbig
            have Hf := Lib.hid hf
            clear hf
            go_wp2
            go_ret2
            refine ⟨?_, hb2⟩
            rw [Hf.out]; rfl
          · have hbig2 := hbig
            rw [ByteArray.size_append] at hbig
            go_wp2
            refine ⟨⟨j + 1, by omega, by go_num, by rw [HJ.out], by rw [HC.out], ?_, by rw [HJ.out]; omega, hb2⟩, by simp [intOf]; omega⟩
            intro i hi
            rcases Nat.lt_or_ge i j with h1 | h1
            · exact HN.out i h1
            · obtain rfl : i = j := by omega
              exact HNE.out
    · obtain rfl : j = L.length := by omega
      have hf : jourB L = true := jourB_ok hnl hsz
      have Hf := Lib.hid hf
      clear hf hcell
      go_wp2
      go_ret2
      refine ⟨?_, hb⟩
      rw [Hf.out]; rfl
end Go.Proofs.YtalajgjdceoleaaDoor
