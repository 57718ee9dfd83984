/- Walks: the frames in order: the program's. -/
import Derived.Test.YtibojlpeaolfbaaSrL
namespace Go.Proofs.Ytibojlpeaolfbaa
open Go Go.RowKit

/-- What entries lead to lies apart from the row. -/
def SepE (w : World) (o : Value) (Es : List FE) : Prop := ∀ e ∈ Es, ∀ ad, e.a = some ad → ad.block < w.heap.size ∧ o.ownBlock ≠ some ad.block
theorem RdF.sep {w w' : World} {a : Option Addr} {n c : Nat} {L : List Nat} {S : Nat → Prop} (h : RdF w (.slice a n c) L) (hs : ∀ ad, a = some ad → ¬ S ad.block) (hc : Chg w w' S) : RdF w' (.slice a n c) L := by
  obtain ⟨a', c', hv, hcap, hz, hr⟩ := h
  obtain ⟨rfl, rfl, rfl⟩ : a = a' ∧ n = L.length ∧ c = c' := by cases hv; exact ⟨rfl, rfl, rfl⟩
  refine ⟨a, c, rfl, hcap, hz, fun j hj => ?_⟩
  obtain ⟨b, o, u, ha, hu, hp⟩ := hr j hj
  refine ⟨b, o, u, ha, ?_, hp⟩
  have hne := hs _ ha
  unfold World.cell? at hu ⊢
  rw [hc.block b (block_lt hu) hne]
  exact hu
theorem RdEs.sep {w w' : World} {o : Value} {Es : List FE} (h : RdEs w Es) (hs : SepE w o Es) (hc : Chg w w' fun k => o.ownBlock = some k) : RdEs w' Es :=
  fun e he => (h e he).sep (fun ad ha => (hs e he ad ha).2) hc
theorem SepE.mono {w w' : World} {o : Value} {Es : List FE} (h : SepE w o Es) (hs : w.heap.size ≤ w'.heap.size) : SepE w' o Es :=
  fun e he ad ha => ⟨Nat.lt_of_lt_of_le (h e he ad ha).1 hs, (h e he ad ha).2⟩
theorem SepE.of {w : World} {o : Value} {Es Es' : List FE} (h : SepE w o Es) (hm : ∀ e ∈ Es', e ∈ Es) : SepE w o Es' := fun e he => h e (hm e he)
theorem ownF_exists (w : World) (v : Value) (L : List Nat) (h : RdF w v L) (hl : L.length ≤ maxLen) : ∃ u w'', OwnF w'' w.heap.size u L ∧ Ext w w'' := by
  obtain ⟨a, c, rfl, hc, hz, hcell⟩ := h.opened
  obtain ⟨new, hn, hnew⟩ := pick_list (P := fun j r => FV .f32 r (L.getD j 0)) L.length (fun j hj => by
    obtain ⟨b, o, r, e, h1, h2⟩ := hcell j hj
    exact ⟨r, h2⟩)
  refine ⟨.slice (some ⟨w.heap.size, 0, none⟩) L.length L.length, w.alloc (.cells (new.map (Value.float .f32)).toArray 53), ⟨new, hn, fun j hj => hnew j hj, ?_⟩, (Below.refl _ _).alloc (Nat.le_refl _) _⟩
  exact ⟨by simp [hn], .inr ⟨w.heap.size, L.length, _, rfl, Nat.le_refl _, alloc_new _ _, Nat.le_refl _, hl, by simp [hn], by rw [Nat.mul_one]; exact List.take_of_length_le (by simp [hn])⟩⟩

def cloneT (L : List Nat) (f : FuncId) (args : Array Value) (w : World) (u : Value) (w'' : World) : Prop := OwnF w'' w.heap.size u L
set_option maxRecDepth 100000 in
set_option maxHeartbeats 3200000 in
theorem sorted_any (w : World) (v : Value) (Fs : List FM) (h : RdFr w v Fs) (hl : Fs.length ≤ 12) (hm : ∀ j, j < Fs.length → (frAt Fs j).L.length ≤ 1048576) :
    Calls Try.prog 75 #[v] w fun e w' => ∃ v' Es, e = .returned v' ∧ OwnR w' w.heap.size v' Es ∧ RdEs w' Es ∧ SepE w' v' Es ∧ Es.map FE.f = sortF Fs ∧ Below w.heap.size w w' ∧ BaseE w.heap.size Es := by
  obtain ⟨a, c, rfl, hc, -, hcell⟩ := h.opened
  clear h
  go_enter Try.func75, Try.ntmps75
  go_wp2_with fail
  go_loopw [3, 8] (fun o i wr => ∃ (j : Nat) (Es : List FE), j ≤ Fs.length ∧ i = .int .i64 j ∧ OwnR wr w.heap.size o Es ∧ RdEs wr Es ∧ SepE wr o Es ∧ Es.map FE.f = Fs.take j ∧ Below w.heap.size w wr ∧ BaseE w.heap.size Es) (fun _ i _ => Fs.length - (intOf i).toNat)
  case atStart => exact ⟨0, [], Nat.zero_le _, rfl, ⟨rfl, .inl ⟨rfl, rfl⟩⟩, (fun e he => by cases he), (fun e he => by cases he), rfl, Below.refl _ _, BaseE.nil _⟩
  case round =>
    obtain ⟨wi, rfl⟩ : ∃ wi : World, wi = wr := ⟨_, rfl⟩
    obtain ⟨j, Es, hj, rfl, ho, hr, hsp, hes, hb, hbe⟩ := hrel
    have HBE := Lib.hid hbe
    clear hbe
    have hlE : Es.length = j := by
      have := congrArg List.length hes
      rw [List.length_map, List.length_take] at this
      omega
    by_cases hlt : j < Fs.length
    · obtain ⟨b, o, a', c', rfl, hlb, d0, d1, d2, R0⟩ := hcell j hlt
      have q0 := ((bcell hb).1 _ _ hlb).trans d0
      have q1 := ((bcell hb).1 _ _ hlb).trans d1
      have q2 := ((bcell hb).1 _ _ hlb).trans d2
      have R1 := Lib.hid (R0.mono hb)
      have hmj := hm j hlt
      have HT : Hid (Fs.take (j + 1) = Fs.take j ++ [frAt Fs j]) := Lib.hid (by rw [List.take_add_one, List.getElem?_eq_getElem hlt]; simp [frAt, List.getD_eq_getElem?_getD, List.getElem?_eq_getElem hlt])
      clear d0 d1 d2 hcell R0 hm
      generalize frAt Fs j = f at *
      obtain ⟨st, sa, L⟩ := f
      simp only at *
      have Ho := Lib.hid ho
      have Hr := Lib.hid hr
      have Hes := Lib.hid hes
      have Hsp := Lib.hid hsp
      have hws := hb.size
      clear ho hr hes hsp
      obtain ⟨W, hW⟩ : ∃ W, wi.alloc (.cells #[.int .i64 st, .int .i64 sa, .slice a' L.length c'] 31) = W := ⟨_, rfl⟩
      have hG : Ext wi W := by rw [← hW]; exact (Below.refl _ _).alloc (Nat.le_refl _) _
      have hbx : W.heap[wi.heap.size]? = some (.cells #[.int .i64 st, .int .i64 sa, .slice a' L.length c'] 31 (0, 0)) := by rw [← hW]; exact alloc_new _ _
      have hWs : W.heap.size = wi.heap.size + 1 := by rw [← hW]; exact World.size_alloc _ _
      go_wp2_with fail
      have HG := Lib.hid hG
      have HX := Lib.hid hbx
      clear hW hG hbx
      refine region_grow_tail 10 (by kernel_rfl) (by kernel_rfl) (cloneT L) ?_
      simp only [List.take_succ_cons, List.take_zero, List.drop_succ_cons, List.drop_zero]
      have fx : ∀ wq, Ext W.drew wq → Ext wi wq ∧ wi.heap.size + 1 ≤ wq.heap.size ∧ wq.cell? ⟨wi.heap.size, 0, none⟩ = some (.int .i64 st) ∧ wq.cell? ⟨wi.heap.size, 1, none⟩ = some (.int .i64 sa) ∧ wq.cell? ⟨wi.heap.size, 2, none⟩ = some (.slice a' L.length c') := fun wq hq => by
        have x1 : Ext W wq := (Ext.drew W).trans hq
        have x2 := x1.size
        obtain ⟨k0, k1, k2, -, -, -⟩ := blk3 ((x1.block wi.heap.size (by omega)).trans HX.out)
        exact ⟨HG.out.trans x1, by omega, k0, k1, k2⟩
      have FX := Lib.hid fx
      clear fx
      iterate 7 (refine wpRelK_still rfl rfl (fun wq hq K hK => ?_); obtain ⟨-, -, k0, k1, k2⟩ := FX.out wq hq.1; go_wp2; clear k0 k1 k2)
      refine wpRelK_callF #[.slice a' L.length c'] rfl Try.func84 (by kernel_rfl) (by kernel_rfl) (by simp [go_sem])
        (fun wq hq => (clone_any wq _ L (R1.out.mono (FX.out wq hq.1).1) hmj).mono fun e w'' ⟨v', he, ho, hb⟩ => ⟨v', he, ho, hb⟩)
        (fun wq hq => ownF_exists wq _ L (R1.out.mono (FX.out wq hq.1).1) (by unfold maxLen; omega)) ?_
      intro wq7 hq7 u w7 hT7 x7
      obtain ⟨-, hz7, -, -, -⟩ := FX.out wq7 hq7.1
      have hT7' : OwnF w7 wq7.heap.size u L := hT7
      have HT7 := Lib.hid hT7'
      obtain ⟨a2, c2, rfl, -, -, -⟩ := hT7'.rd.opened
      have hb7 : ∀ ad, a2 = some ad → wq7.heap.size ≤ ad.block ∧ ad.block < w7.heap.size := fun ad ha => by
        rcases hT7'.form with ⟨hv, -⟩ | ⟨g', cap', hv, h1, h2, -⟩
        · injection hv with e1 e2 e3
          rw [e1] at ha; cases ha
        · injection hv with e1 e2 e3
          rw [e1] at ha; cases ha; exact ⟨h1, h2⟩
      clear hT7 hT7' hq7
      simp only [Act.put, List.setIfInBounds_toArray, List.set_cons_succ, List.set_cons_zero]
      refine wpRelK_still rfl rfl (fun wq hq K hK => ?_)
      go_wp2
      refine wpRelK_op rfl rfl (fun w9 hq9 K hK => ?_)
      obtain ⟨-, hz9, -, -, -⟩ := FX.out w9 hq9.1
      go_wp2
      refine hK _ _ ((Below.refl _ _).alloc (Nat.le_refl _) _) ?_
      clear hK K
      refine wpRelK_nil ?_
      intro w' hW hall
      have E7 : Ext w7 w' := hall 7 (by decide)
      have E9 : Ext (w9.alloc (.cells #[.int .i64 st, .int .i64 sa, .slice a2 L.length c2] 31)) w' := hall 9 (by decide)
      obtain ⟨xi, hz', -, -, -⟩ := FX.out w' hW
      clear hall hW
      have hX1 := entry_block ⟨⟨st, sa, L⟩, a2, c2⟩ ((E9.block w9.heap.size (by rw [World.size_alloc]; omega)).trans (alloc_new _ _))
      refine wpList_pushR rfl _ _ rfl w.heap.size u3 Es rfl (Ho.out.kept xi) ⟨w9.heap.size, 0, none⟩ 1 1 [⟨⟨st, sa, L⟩, a2, c2⟩] rfl rfl hX1 (by omega) (by omega) ?_
      intro v3 w3 o3 g3 b3 l3
      have zz := E7.size
      have z3 := b3.size
      have hul : ∀ k, u3.ownBlock = some k → k < wi.heap.size := fun k hk => (World.ownsRow.lt Ho.out k hk).2
      have gc : Chg w' w3 (fun b => u3.ownBlock = some b) := Chg.of_grown g3 fun b hb => hb
      have hF1 : RdEs w3 (Es ++ [⟨⟨st, sa, L⟩, a2, c2⟩]) := fun e he => by
        rcases List.mem_append.1 he with h | h
        · exact ((Hr.out.mono xi).sep (Hsp.out.mono xi.size) gc) e h
        · obtain rfl := List.mem_singleton.1 h
          exact (HT7.out.rd.mono E7).sep (fun ad ha hk => by have := (hb7 ad ha).1; have := hul _ hk; omega) gc
      have hF2 : SepE w3 v3 (Es ++ [⟨⟨st, sa, L⟩, a2, c2⟩]) := fun e he ad ha => by
        have hlt2 : ad.block < w'.heap.size ∧ u3.ownBlock ≠ some ad.block := by
          rcases List.mem_append.1 he with h | h
          · have := Hsp.out e h ad ha
            exact ⟨by omega, this.2⟩
          · obtain rfl := List.mem_singleton.1 h
            have := hb7 ad ha
            exact ⟨by omega, fun hk => by have := hul _ hk; omega⟩
        refine ⟨by omega, fun hk => ?_⟩
        rcases l3 with h | h
        · rw [h] at hk; exact hlt2.2 hk
        · rw [h] at hk; have := Option.some.inj hk; omega
      have hF4 : BaseE w.heap.size (Es ++ [⟨⟨st, sa, L⟩, a2, c2⟩]) := fun e he ad ha => by
        rcases List.mem_append.1 he with h | h
        · exact HBE.out e h ad ha
        · obtain rfl := List.mem_singleton.1 h
          have := (hb7 ad ha).1
          omega
      have F4 := Lib.hid hF4
      clear hF4
      have hF3 : Below w.heap.size w w3 := (hb.trans (xi.mono hb.size)).trans b3
      have F1 := Lib.hid hF1
      have F2 := Lib.hid hF2
      clear hF1 hF2 hX1 E7 E9 xi hb7 hul gc l3 g3
      go_wp2
      exact ⟨⟨j + 1, _, by omega, by go_num, o3, F1.out, F2.out, by rw [List.map_append, Hes.out, HT.out]; rfl, hF3, F4.out⟩, by simp [intOf]; omega⟩
    · obtain rfl : j = Fs.length := by omega
      have Ho := Lib.hid ho
      have Hr := Lib.hid hr
      have Hes := Lib.hid hes
      have Hsp := Lib.hid hsp
      have HK := Lib.hid (sortStable_any wi w.heap.size _ Es ho (by omega))
      obtain ⟨a1, c1, hv1⟩ := ho.slice
      clear hcell ho hr hes hsp hlE
      subst hv1
      go_wp2_with fail
      refine HK.out.mono ?_
      clear HK
      rintro e w1 ⟨rfl, o1, g1⟩
      have O1 := Lib.hid o1
      clear o1
      go_wp2
      go_ret
      refine ⟨_, _, rfl, O1.out, ?_, ?_, ?_, Below.chg hb g1 (fun k hk => (World.ownsRow.lt Ho.out k hk).1) hb.size, HBE.out.of fun e he => by have := (insAll_mem ltE [] Es e).1 he; simpa using this⟩
      · exact fun e he => (Hr.out.sep Hsp.out g1) e (by have := (insAll_mem ltE [] Es e).1 he; simpa using this)
      · exact (Hsp.out.mono g1.size).of fun e he => by have := (insAll_mem ltE [] Es e).1 he; simpa using this
      · rw [insAll_map ltE FE.f ltF (fun x y => rfl), Hes.out, List.take_length]; rfl
end Go.Proofs.Ytibojlpeaolfbaa
