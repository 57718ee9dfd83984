/- Walks: the frames of a station: the program's: entries that are deleted. -/
import Derived.Test.YtibojlpeaolfbaaSoI
import Derived.Test.YtibojlpeaolfbaaOfS
import Derived.Lib.SliceRun
namespace Go.Proofs.Ytibojlpeaolfbaa
open Go Go.RowKit

def keepE (s : Int) (Es : List FE) : List FE := Es.filter fun e => decide (e.f.st = s)
theorem encEs_set (Ms : List FE) (i : Nat) (y : FE) (hi : i < Ms.length) : (((encEs Ms).set (i * 3) (.int .i64 y.f.st)).set (i * 3 + 1) (.int .i64 y.f.sa)).set (i * 3 + 2) y.tr = encEs (Ms.set i y) := by
  induction Ms generalizing i with
  | nil => cases hi
  | cons e Ms ih =>
    cases i with
    | zero => rfl
    | succ i =>
      show ((((encE e ++ encEs Ms).set ((i + 1) * 3) _).set ((i + 1) * 3 + 1) _).set ((i + 1) * 3 + 2) _) = encE e ++ encEs (Ms.set i y)
      rw [← ih i (by simpa using hi)]
      have h : ∀ (k : Nat) (X : List Value) (u : Value), (encE e ++ X).set (k + 3) u = encE e ++ X.set k u := fun k X u => by
        rw [List.set_append_right _ _ (by rw [encE_length]; omega), encE_length, Nat.add_sub_cancel]
      rw [show (i + 1) * 3 = i * 3 + 3 by omega, h, show i * 3 + 3 + 1 = i * 3 + 1 + 3 by omega, h, show i * 3 + 3 + 2 = i * 3 + 2 + 3 by omega, h]
theorem OwnR.put {w : World} {B g n cap : Nat} {Ms : List FE} (h : OwnR w B (.slice (some ⟨g, 0, none⟩) n cap) Ms) (hn : Ms.length = n) (i : Nat) (y : FE) (hi : i < Ms.length) :
    OwnR (((w.setCell ⟨g, i * 3, none⟩ (.int .i64 y.f.st)).setCell ⟨g, i * 3 + 1, none⟩ (.int .i64 y.f.sa)).setCell ⟨g, i * 3 + 2, none⟩ y.tr) B (.slice (some ⟨g, 0, none⟩) n cap) (Ms.set i y) := by
  subst hn
  have h0 : w.ownsRow B 31 3 (.slice (some ⟨g, 0, none⟩) Ms.length cap) Ms.length (encEs Ms) := h
  have h1 := (h0.stored (i * 3) (.int .i64 y.f.st)).1
  have h2 := (h1.stored (i * 3 + 1) (.int .i64 y.f.sa)).1
  have h3 := (h2.stored (i * 3 + 2) y.tr).1
  unfold OwnR
  rw [List.length_set, ← encEs_set Ms i y hi]
  exact h3
theorem OwnR.front {w : World} {B g n cap : Nat} {Ms : List FE} (h : OwnR w B (.slice (some ⟨g, 0, none⟩) n cap) Ms) (hn : Ms.length = n) (m : Nat) (hm : m ≤ n) :
    OwnR w B (.slice (some ⟨g, 0, none⟩) m cap) (Ms.take m) := by
  subst hn
  obtain ⟨h1, h2⟩ := h
  rcases h2 with ⟨h0, -⟩ | ⟨g', cap', cur, hv, hb, hg, hn, hc, hs, ht⟩
  · cases h0
  · obtain ⟨rfl, rfl⟩ : g = g' ∧ cap = cap' := by cases hv; exact ⟨rfl, rfl⟩
    have hlen : (Ms.take m).length = m := by rw [List.length_take]; omega
    refine ⟨by rw [encEs_length], .inr ⟨g, cap, cur, by rw [hlen], hb, hg, by rw [hlen]; omega, hc, hs, ?_⟩⟩
    have e : encEs Ms = encEs (Ms.take m) ++ encEs (Ms.drop m) := by rw [← encEs_append, List.take_append_drop]
    rw [hlen]
    have e3 : (encEs Ms).take (m * 3) = encEs (Ms.take m) := by
      rw [e, List.take_append_of_le_length (by rw [encEs_length, hlen]; exact Nat.le_refl _)]
      exact List.take_of_length_le (by rw [encEs_length, hlen]; exact Nat.le_refl _)
    rw [← e3, ← ht, List.take_take, Nat.min_eq_left (Nat.mul_le_mul_right _ hm)]

set_option maxRecDepth 100000 in
set_option maxHeartbeats 800000 in
theorem notStation_any (w : World) (st sa : Int) (u : Value) (hu : u.oneCell' = true) (b0 : Nat) (s : Int) (hb0 : w.cell? ⟨b0, 0, none⟩ = some (.int .i64 s)) :
    Calls Try.prog 115 #[.agg #[.int .i64 st, .int .i64 sa, u], .pointer (some ⟨b0, 0, none⟩)] w fun e w' => e = .returned (.bool (st != s)) ∧ Ext w w' := by
  have hbl := block_lt hb0
  obtain ⟨W, hW⟩ : ∃ W, w.alloc (.cells #[.int .i64 st, .int .i64 sa, u] 31) = W := ⟨_, rfl⟩
  have hG : Ext w W := by rw [← hW]; exact (Below.refl _ _).alloc (Nat.le_refl _) _
  obtain ⟨k0, -, -, -, -, -⟩ := blk3 (w := W) (g := w.heap.size) (t := 31) (a := .int .i64 st) (b := .int .i64 sa) (c := u) (by rw [← hW]; exact alloc_new _ _)
  have k1 : W.cell? ⟨b0, 0, none⟩ = some (.int .i64 s) := ((bcell hG).1 _ _ hbl).trans hb0
  have HG := Lib.hid hG
  clear hG
  go_enter Try.func115, Try.ntmps115
  go_wp2
  go_ret
  exact ⟨rfl, HG.out⟩
set_option maxRecDepth 100000 in
set_option maxHeartbeats 1600000 in
theorem indexSt_any (w : World) (B : Nat) (v : Value) (Es : List FE) (b0 : Nat) (s : Int) (h : OwnR w B v Es) (hl : Es.length ≤ 1000) (hb0 : w.cell? ⟨b0, 0, none⟩ = some (.int .i64 s)) :
    Calls Try.prog 97 #[v, .func (.func 115) #[] #[.pointer (some ⟨b0, 0, none⟩)]] w fun e w' =>
      ((e = .returned (.int .i64 (-1)) ∧ ∀ j, j < Es.length → (feAt Es j).f.st = s) ∨ ∃ k : Nat, e = .returned (.int .i64 k) ∧ k < Es.length ∧ (∀ j, j < k → (feAt Es j).f.st = s) ∧ (feAt Es k).f.st ≠ s) ∧ Ext w w' := by
  have hbl := block_lt hb0
  have hform := h.form
  obtain ⟨a, c, rfl⟩ := h.slice
  clear h
  go_enter Try.func97, Try.ntmps97
  go_wp2
  go_loopw [8] (fun i wr => ∃ k : Nat, k ≤ Es.length ∧ i = .int .i64 k ∧ (∀ j, j < k → (feAt Es j).f.st = s) ∧ Ext w wr) (fun i _ => Es.length - (intOf i).toNat)
  case atStart => exact ⟨0, Nat.zero_le _, rfl, fun j hj => by omega, Ext.refl _⟩
  case round =>
    obtain ⟨wi, rfl⟩ : ∃ wi : World, wi = wr := ⟨_, rfl⟩
    obtain ⟨k, hk, rfl, hsk, hb⟩ := hrel
    have Hsk := Lib.hid hsk
    by_cases hlt : k < Es.length
    · rcases hform with ⟨-, h0⟩ | ⟨g, cap, hv, -, hgs, hcap, hc0, -⟩
      · rw [h0] at hlt; cases hlt
      · obtain ⟨rfl, rfl⟩ : a = some ⟨g, 0, none⟩ ∧ c = cap := by cases hv; exact ⟨rfl, rfl⟩
        obtain ⟨m0, m1, m2⟩ := hc0 k hlt
        have e0 := ((bcell hb).1 _ _ hgs).trans m0
        have e1 := ((bcell hb).1 _ _ hgs).trans m1
        have e2 := ((bcell hb).1 _ _ hgs).trans m2
        have HK := Lib.hid (notStation_any wi (feAt Es k).f.st (feAt Es k).f.sa (feAt Es k).tr rfl b0 s (((bcell hb).1 _ _ hbl).trans hb0))
        clear hc0 m0 m1 m2 hsk hv
        obtain ⟨y, hy⟩ : ∃ y, feAt Es k = y := ⟨_, rfl⟩
        have HY := Lib.hid hy
        rw [hy] at HK e0 e1 e2
        clear hy
        obtain ⟨⟨yst, ysa, yL⟩, ya, yc⟩ := y
        simp only [FE.tr] at *
        go_wp2_with fail
        refine HK.out.mono ?_
        rintro e w1 ⟨rfl, b1⟩
        have hb1 : Ext w w1 := hb.trans b1
        clear HK
        by_cases hs : yst = s
        · have hs2 : (yst != s) = false := by simp [hs]
          go_wp2
          refine ⟨⟨k + 1, by omega, by go_num, fun j hj => ?_, hb1⟩, by simp [intOf]; omega⟩
          rcases Nat.lt_or_ge j k with h | h
          · exact Hsk.out j h
          · obtain rfl : j = k := by omega
            rw [HY.out]; exact hs
        · have hs2 : (yst != s) = true := by simp [hs]
          go_wp2
          go_ret
          exact ⟨.inr ⟨k, rfl, hlt, Hsk.out, by rw [HY.out]; exact hs⟩, hb1⟩
    · clear hsk
      obtain rfl : k = Es.length := by omega
      go_wp2
      go_ret
      exact ⟨.inl ⟨rfl, Hsk.out⟩, hb⟩
theorem zero_one (m : Nat) : ∀ v ∈ (Builtin.zeroCells #[.int .i64 0, .int .i64 0, .slice none 0 0] m).toList, v.oneCell' = true := by
  intro v hv
  obtain ⟨i, hi, he⟩ := List.getElem_of_mem hv
  have hlt : i % 3 < 3 := Nat.mod_lt _ (by decide)
  simp [Builtin.zeroCells] at he
  rw [← he]
  generalize i % 3 = k at *
  match k, hlt with
  | 0, _ => rfl
  | 1, _ => rfl
  | 2, _ => rfl
theorem clear_row {w : World} {B g n cap : Nat} {Ms : List FE} (h : OwnR w B (.slice (some ⟨g, 0, none⟩) n cap) Ms) (hn : Ms.length = n) (i : Nat) (hi : i < n) :
    ∃ w', (∀ ty, (Builtin.clear_ #[24] ty #[.slice (some ⟨g, i * 3, none⟩) (n - i) (cap - i)]).run Try.prog w = .ok (.tuple #[]) w') ∧ OwnR w' B (.slice (some ⟨g, 0, none⟩) i cap) (Ms.take i) ∧ Chg w w' (fun k => k = g) := by
  have hfr := h.front hn i (by omega)
  have hlen : (Ms.take i).length = i := by rw [List.length_take]; omega
  have hcap : n ≤ cap := by
    rcases h.2 with ⟨h0, -⟩ | ⟨g', cap', cur, hv, -, -, hn', -⟩
    · cases h0
    · cases hv; exact hn'
  obtain ⟨h1, h2⟩ := hfr
  rcases h2 with ⟨h0, -⟩ | ⟨g', cap', cur, hv, hb, hg, hle, hc, hs, ht⟩
  · cases h0
  · obtain ⟨rfl, rfl⟩ : g = g' ∧ cap = cap' := by
      injection hv with e1 e2 e3
      exact ⟨by cases e1; rfl, e3⟩
    have hz : (Builtin.zeroCells #[.int .i64 0, .int .i64 0, .slice none 0 0] (n - i)).toList.length = (n - i) * 3 := by
      rw [Array.length_toList, size_zeroCells]; rfl
    have hst := run_storeCells_at Try.prog g (i * 3) 31 (Builtin.zeroCells #[.int .i64 0, .int .i64 0, .slice none 0 0] (n - i)).toList 0 cur w hg (by rw [hz, hs]; omega) (zero_one _)
    have hzv : ∀ w, (zeroValue 31).run Try.prog w = .ok (.agg #[.int .i64 0, .int .i64 0, .slice none 0 0]) w := Try.zeroValue31
    have hz2 : ((Builtin.zeroCells (Value.agg #[.int .i64 0, .int .i64 0, .slice none 0 0]).cells (n - i)).toList) = (Builtin.zeroCells #[.int .i64 0, .int .i64 0, .slice none 0 0] (n - i)).toList := rfl
    obtain ⟨m, hm⟩ : ∃ m, n - i = m + 1 := ⟨n - i - 1, by omega⟩
    rw [hm] at hst hz hz2 ⊢
    generalize (Builtin.zeroCells #[.int .i64 0, .int .i64 0, .slice none 0 0] (m + 1)).toList = zs at hz hst hz2
    refine ⟨_, fun ty => by simp [Builtin.clear_, run_underlying Try.underlying24, hzv, hz2, hst]; rfl, ⟨by rw [encEs_length], .inr ⟨g, cap, _, by rw [hlen], hb, setRow_heap w g cur _ _ _ hg, by rw [hlen]; omega, hc, ?_, ?_⟩⟩, ⟨by simp, by simp, by simp, by simp, fun k hk hne => setRow_other w g k _ hne⟩⟩
    · have : cur.toList.length = cap * 3 := by rw [Array.length_toList]; exact hs
      simp only [List.size_toArray, List.length_append, List.length_take, List.length_drop, hz, this]
      omega
    · rw [← ht, hlen]
      have : cur.toList.length = cap * 3 := by rw [Array.length_toList]; exact hs
      simp only [List.append_assoc]
      rw [List.take_append_of_le_length (by rw [List.length_take, this]; omega), List.take_take, Nat.min_eq_left (by omega)]
/-- The row while entries are being deleted. -/
structure Kept (s : Int) (Es Ms : List FE) (i j : Nat) : Prop where
  len : Ms.length = Es.length
  lt : i < j
  le : j ≤ Es.length
  low : Ms.take i = keepE s (Es.take j)
  high : ∀ t, j ≤ t → t < Es.length → feAt Ms t = feAt Es t
  mem : ∀ e ∈ Ms, e ∈ Es
theorem Kept.start {s : Int} {Es : List FE} {k : Nat} (hk : k < Es.length) (h1 : ∀ j, j < k → (feAt Es j).f.st = s) (h2 : (feAt Es k).f.st ≠ s) : Kept s Es Es k (k + 1) := by
  refine ⟨rfl, by omega, by omega, ?_, fun _ _ _ => rfl, fun e he => he⟩
  unfold keepE
  rw [filt_take Es k s hk, if_neg h2, List.append_nil]
  refine (List.filter_eq_self.2 fun e he => ?_).symm
  obtain ⟨j, hj, rfl⟩ := List.getElem_of_mem he
  rw [List.length_take] at hj
  have := h1 j (by omega)
  rw [feAt_eq (by omega)] at this
  simpa using this
theorem Kept.keep {s : Int} {Es Ms : List FE} {i j : Nat} (h : Kept s Es Ms i j) (hj : j < Es.length) (hs : (feAt Es j).f.st = s) : Kept s Es (Ms.set i (feAt Es j)) (i + 1) (j + 1) := by
  have hl := h.len
  have hlt := h.lt
  refine ⟨by rw [List.length_set]; exact h.len, by omega, by omega, ?_, fun t ht1 ht2 => ?_, fun e he => ?_⟩
  · unfold keepE
    rw [filt_take Es j s hj, if_pos hs]
    have := h.low
    unfold keepE at this
    rw [← this, List.take_add_one, List.take_set_of_le (Nat.le_refl _), List.getElem?_set_self (by omega)]
    rfl
  · rw [← h.high t (by omega) ht2]
    unfold feAt
    simp only [List.getD_eq_getElem?_getD]
    rw [List.getElem?_set_ne (by omega)]
  · rcases List.mem_or_eq_of_mem_set he with h1 | h1
    · exact h.mem e h1
    · subst h1; exact feAt_mem hj
theorem Kept.skip {s : Int} {Es Ms : List FE} {i j : Nat} (h : Kept s Es Ms i j) (hj : j < Es.length) (hs : (feAt Es j).f.st ≠ s) : Kept s Es Ms i (j + 1) := by
  have hlt := h.lt
  refine ⟨h.len, by omega, by omega, ?_, fun t ht1 ht2 => h.high t (by omega) ht2, h.mem⟩
  unfold keepE
  rw [filt_take Es j s hj, if_neg hs, List.append_nil]
  exact h.low

set_option maxRecDepth 100000 in
set_option maxHeartbeats 3200000 in
theorem deleteSt_any (w : World) (B : Nat) (v : Value) (Es : List FE) (b0 : Nat) (s : Int) (h : OwnR w B v Es) (hl : Es.length ≤ 1000) (hb0 : w.cell? ⟨b0, 0, none⟩ = some (.int .i64 s)) (hne : v.ownBlock ≠ some b0) :
    Calls Try.prog 114 #[v, .func (.func 115) #[] #[.pointer (some ⟨b0, 0, none⟩)]] w fun e w' =>
      ∃ v', e = .returned v' ∧ OwnR w' B v' (keepE s Es) ∧ Chg w w' (fun k => v.ownBlock = some k) := by
  have hbl := block_lt hb0
  have HI := Lib.hid (indexSt_any w B v Es b0 s h hl hb0)
  have hform := h.form
  have HO := Lib.hid h
  obtain ⟨a, c, rfl⟩ := h.slice
  clear h
  go_enter Try.func114, Try.ntmps114
  go_wp2_with fail
  refine HI.out.mono ?_
  clear HI
  rintro e w1 ⟨hr, b1⟩
  rcases hr with ⟨rfl, hall⟩ | ⟨k0, rfl, hk0, hk1, hk2⟩
  · have HA : Hid (keepE s Es = Es) := Lib.hid (List.filter_eq_self.2 fun e he => by
      obtain ⟨j, hj, rfl⟩ := List.getElem_of_mem he
      have := hall j hj
      rw [feAt_eq hj] at this
      simpa using this)
    clear hall
    go_wp2
    go_ret
    exact ⟨_, rfl, by rw [HA.out]; exact HO.out.kept b1, Chg.of_below b1 _⟩
  · rcases hform with ⟨-, h0⟩ | ⟨g, cap, hv, -, hgs, hcap, -, -⟩
    · rw [h0] at hk0; cases hk0
    · obtain ⟨rfl, rfl⟩ : a = some ⟨g, 0, none⟩ ∧ c = cap := by cases hv; exact ⟨rfl, rfl⟩
      have hgb : g ≠ b0 := fun e => hne (by rw [e]; rfl)
      have HK := Lib.hid (Kept.start hk0 hk1 hk2)
      have hk3 : ((k0 : Int) == -1) = false := by simp
      clear hk1 hk2 hv hne
      go_wp2_with fail
      go_loopw [5, 6] (fun si sj wr => ∃ (i j : Nat) (Ms : List FE), si = .int .i64 i ∧ sj = .int .i64 j ∧ Kept s Es Ms i j ∧ OwnR wr B (.slice (some ⟨g, 0, none⟩) Es.length c) Ms ∧ Chg w wr (fun k => k = g)) (fun _ sj _ => Es.length - (intOf sj).toNat)
      case atStart => exact ⟨k0, k0 + 1, Es, rfl, by go_num, HK.out, HO.out.kept b1, Chg.of_below b1 _⟩
      case round =>
        obtain ⟨wi, rfl⟩ : ∃ wi : World, wi = wr := ⟨_, rfl⟩
        obtain ⟨i, j, Ms, rfl, rfl, hK, ho, hch⟩ := hrel
        have HK := Lib.hid hK
        have hij := hK.lt
        have hjn := hK.le
        have hlm := hK.len
        have Ho := Lib.hid ho
        obtain ⟨hv, -⟩ | ⟨g', cap', hv, -, hgs', hcap', hc0, hfr⟩ := ho.form
        · cases hv
        obtain ⟨rfl, rfl⟩ : g = g' ∧ c = cap' := by
          injection hv with e1 e2 e3
          exact ⟨by cases e1; rfl, e3⟩
        by_cases hlt : j < Es.length
        · have hhj := hK.high j (Nat.le_refl _) hlt
          obtain ⟨m0, m1, m2⟩ := hc0 j (by omega)
          rw [hhj] at m0 m1 m2
          obtain ⟨n0, n1, n2⟩ := hc0 i (by omega)
          have hb0i : wi.cell? ⟨b0, 0, none⟩ = some (.int .i64 s) := by
            unfold World.cell? at hb0 ⊢
            rw [hch.block b0 hbl (fun e => hgb e.symm)]
            exact hb0
          have HP := Lib.hid (fun (wq : World) (x : Ext wi wq) => (OwnR.kept ho x).put hlm i (feAt Es j) (by omega))
          have HKK := Lib.hid (hK.keep hlt)
          have HKS := Lib.hid (hK.skip hlt)
          have z0 := hfr (i * 3)
          have z1 := hfr (i * 3 + 1)
          have z2 := hfr (i * 3 + 2)
          clear hc0 hfr hv ho hK hhj
          generalize feAt Es j = y at *
          generalize feAt Ms i = old at *
          obtain ⟨⟨yst, ysa, yL⟩, ya, yc⟩ := y
          simp only [FE.tr] at *
          have hgo : ∀ wq, Ext wi wq → (wq.cell? ⟨g, i * 3, none⟩ = some (.int .i64 old.f.st) ∧ wq.cell? ⟨g, i * 3 + 1, none⟩ = some (.int .i64 old.f.sa) ∧ wq.cell? ⟨g, i * 3 + 2, none⟩ = some (.slice old.a old.f.L.length old.c)) ∧ wq.frozen? ⟨g, i * 3, none⟩ = false ∧ wq.frozen? ⟨g, i * 3 + 1, none⟩ = false ∧ wq.frozen? ⟨g, i * 3 + 2, none⟩ = false := fun wq x =>
            ⟨⟨((bcell x).1 _ _ hgs').trans n0, ((bcell x).1 _ _ hgs').trans n1, ((bcell x).1 _ _ hgs').trans n2⟩, ((bcell x).2 _ _ hgs').trans z0, ((bcell x).2 _ _ hgs').trans z1, ((bcell x).2 _ _ hgs').trans z2⟩
          have HGO := Lib.hid hgo
          clear hgo n0 n1 n2 z0 z1 z2
          obtain ⟨W, hW⟩ : ∃ W, wi.alloc (.cells #[.int .i64 yst, .int .i64 ysa, .slice ya yL.length yc] 31) = W := ⟨_, rfl⟩
          have hG : Ext wi W := by rw [← hW]; exact (Below.refl _ _).alloc (Nat.le_refl _) _
          have hWs : W.heap.size = wi.heap.size + 1 := by rw [← hW]; exact World.size_alloc _ _
          have hbx : W.heap[wi.heap.size]? = some (.cells #[.int .i64 yst, .int .i64 ysa, .slice ya yL.length yc] 31 (0, 0)) := by rw [← hW]; exact alloc_new _ _
          obtain ⟨k0', k1', k2', -, -, -⟩ := blk3 hbx
          have HN := Lib.hid (notStation_any W yst ysa (.slice ya yL.length yc) rfl b0 s (((bcell hG).1 _ _ (block_lt hb0i)).trans hb0i))
          have HG := Lib.hid hG
          have HB := Lib.hid hbx
          clear hG hbx hb0i
          go_wp2_with fail
          refine HN.out.mono ?_
          clear HN k0' k1' k2'
          rintro e w2 ⟨rfl, x2⟩
          have xi : Ext wi w2 := HG.out.trans x2
          obtain ⟨⟨n0, n1, n2⟩, z0, z1, z2⟩ := HGO.out w2 xi
          obtain ⟨k0', k1', k2', -, -, -⟩ := blk3 ((x2.block wi.heap.size (by omega)).trans HB.out)
          have P := Lib.hid (HP.out w2 xi)
          have hch2 : Chg w w2 (fun k => k = g) := hch.trans (Chg.of_below xi _)
          clear HP HGO m0 m1 m2 hW
          by_cases hs : yst = s
          · subst hs
            have hs2 : (yst != yst) = false := by simp
            go_wp2
            exact ⟨⟨i + 1, j + 1, _, by go_num, by go_num, HKK.out trivial, P.out, ((hch2.setCell (S := fun k => k = g) rfl _ _).setCell (S := fun k => k = g) rfl _ _).setCell (S := fun k => k = g) rfl _ _⟩, by simp [intOf]; omega⟩
          · have hs2 : (yst != s) = true := by simp [hs]
            go_wp2
            exact ⟨⟨i, j + 1, Ms, rfl, by go_num, HKS.out hs, Ho.out.kept xi, hch2⟩, by simp [intOf]; omega⟩
        · obtain rfl : j = Es.length := by omega
          obtain ⟨w', hcl, o', c'⟩ := clear_row ho hlm i (by omega)
          have hlow := Lib.hid hK.low
          have O' := Lib.hid o'
          have C' := Lib.hid (hch.trans c')
          have hic : (i : Int) < (c : Int) := by omega
          have hiE : (i : Int) < (Es.length : Int) := by omega
          clear hc0 hfr hv ho hK o' c' hb0
          go_wp2
          go_ret
          refine ⟨_, rfl, ?_, C'.out.wide fun k hk => by subst hk; rfl⟩
          have := hlow.out
          rw [List.take_length] at this
          rw [← this]
          exact O'.out
end Go.Proofs.Ytibojlpeaolfbaa
