/- Walks: the frames of a station: the reference's. -/
import Derived.Test.YtpijiidbjcbdhaaSrS
namespace Go.Proofs.Ytpijiidbjcbdhaa
open Go Go.RowKit

theorem RdF.but {w w' : World} {v : Value} {L : List Nat} {g : Nat} {t : TypeId} {r : Nat × Nat} (h : RdF w v L) (hc : Chg w w' fun k => k = g) (hg : w.heap[g]? = some (.cells #[] t r)) : RdF w' v L := by
  obtain ⟨a, c, hv, hcap, hz, hr⟩ := h
  refine ⟨a, c, hv, hcap, hz, fun j hj => ?_⟩
  obtain ⟨b, o, u, ha, hu, hp⟩ := hr j hj
  refine ⟨b, o, u, ha, ?_, hp⟩
  have hne : b ≠ g := fun e => by
    subst e
    have := cell_of_row w b (o + j) #[] t r hg
    rw [hu] at this
    simp at this
  unfold World.cell? at hu ⊢
  rw [hc.block b (block_lt hu) hne]
  exact hu
theorem RdEs.but {w w' : World} {Es : List FE} {g : Nat} {t : TypeId} {r : Nat × Nat} (h : RdEs w Es) (hc : Chg w w' fun k => k = g) (hg : w.heap[g]? = some (.cells #[] t r)) : RdEs w' Es := fun e he => (h e he).but hc hg
theorem filt_take (Es : List FE) (j : Nat) (s : Int) (h : j < Es.length) : (Es.take (j + 1)).filter (fun e => decide (e.f.st = s)) = (Es.take j).filter (fun e => decide (e.f.st = s)) ++ (if (feAt Es j).f.st = s then [feAt Es j] else []) := by
  rw [List.take_add_one, List.getElem?_eq_getElem h, List.filter_append, feAt_eq h]
  congr 1
  simp only [Option.toList, List.filter_cons, List.filter_nil]
  by_cases h2 : Es[j].f.st = s
  · simp [h2]
  · simp [h2]
theorem filt_map (Es : List FE) (s : Int) : (Es.filter (fun e => decide (e.f.st = s))).map FE.f = (Es.map FE.f).filter (fun f => decide (f.st = s)) := by
  rw [List.filter_map]; rfl
theorem sortF_length (Fs : List FM) : (sortF Fs).length = Fs.length := by
  unfold sortF; rw [insAll_length]; simp

set_option maxRecDepth 100000 in
set_option maxHeartbeats 3200000 in
theorem l07Of_any (w : World) (v : Value) (s : Int) (Fs : List FM) (h : RdFr w v Fs) (hl : Fs.length ≤ 1000) (hm : ∀ j, j < Fs.length → (frAt Fs j).L.length ≤ 1048576) :
    Calls Try.prog 34 #[v, .int .i64 s] w fun e w' => ∃ v' Es, e = .returned v' ∧ OwnR w' w.heap.size v' Es ∧ RdEs w' Es ∧ Es.map FE.f = ofF Fs s ∧ Below w.heap.size w w' ∧ BaseE w.heap.size Es := by
  obtain ⟨a, c, hv, hc, -, -⟩ := h.opened
  subst hv
  have bl0 : Below w.heap.size w (w.alloc (.cells #[] 61)) := (Below.refl _ _).alloc (Nat.le_refl _) _
  have HK := Lib.hid (l07Sorted_any (w.alloc (.cells #[] 61)) _ Fs (h.mono bl0) hl hm)
  clear h
  go_enter Try.func34, Try.ntmps34
  go_wp2_with fail
  refine HK.out.mono ?_
  clear HK
  rintro e w2 ⟨v1, Es, rfl, o1, r1, hes, b1, hbe⟩
  have HBE := Lib.hid hbe
  clear hbe
  have hz1 := b1.size
  rw [World.size_alloc] at hz1
  have hg0 : w2.heap[w.heap.size]? = some (.cells #[] 61 (0, 0)) := (b1.block w.heap.size (by rw [World.size_alloc]; omega)).trans (alloc_new _ _)
  have hln : Es.length = Fs.length := by rw [← sortF_length Fs, ← hes, List.length_map]
  have b2 : Below w.heap.size w w2 := bl0.trans (b1.mono (by rw [World.size_alloc]; omega))
  have hform := o1.form
  have O1 := Lib.hid o1
  have R1 := Lib.hid r1
  have H0 := Lib.hid hg0
  have HE := Lib.hid hes
  clear o1 r1 hg0 hes b1 bl0
  obtain ⟨a1, c1, hv1⟩ : ∃ a1 c1, v1 = .slice a1 Es.length c1 := by
    rcases hform with ⟨rfl, rfl⟩ | ⟨g, cap, rfl, -⟩
    · exact ⟨none, 0, rfl⟩
    · exact ⟨_, _, rfl⟩
  subst hv1
  clear hform
  go_wp2_with fail
  go_loopw [5, 13] (fun o i wr => ∃ j : Nat, j ≤ Es.length ∧ i = .int .i64 j ∧ OwnR wr w.heap.size o ((Es.take j).filter fun e => decide (e.f.st = s)) ∧ Chg w2 wr (fun k => k = w.heap.size) ∧ (o.ownBlock = some w.heap.size ∨ ∃ k, o.ownBlock = some k ∧ w2.heap.size ≤ k)) (fun _ i _ => Es.length - (intOf i).toNat)
  case atStart => exact ⟨0, Nat.zero_le _, rfl, ⟨rfl, .inr ⟨w.heap.size, 0, #[], rfl, Nat.le_refl _, H0.out, Nat.le_refl _, by decide, rfl, rfl⟩⟩, Chg.refl _ _, .inl rfl⟩
  case round =>
    obtain ⟨wi, rfl⟩ : ∃ wi : World, wi = wr := ⟨_, rfl⟩
    obtain ⟨j, hj, rfl, ho, hch, hbl⟩ := hrel
    by_cases hlt : j < Es.length
    · rcases O1.out.form with ⟨-, h0⟩ | ⟨g, cap, hv, hgB, hgs, hcap, hc0, hfr⟩
      · rw [h0] at hlt; cases hlt
      · obtain ⟨rfl, rfl⟩ : a1 = some ⟨g, 0, none⟩ ∧ c1 = cap := by cases hv; exact ⟨rfl, rfl⟩
        rw [World.size_alloc] at hgB
        obtain ⟨m0, m1, m2⟩ := hc0 j hlt
        have cc : ∀ o u, w2.cell? ⟨g, o, none⟩ = some u → wi.cell? ⟨g, o, none⟩ = some u := fun o u hu => by
          unfold World.cell? at hu ⊢
          rw [hch.block g hgs (by omega)]
          exact hu
        have q0 := cc _ _ m0
        have q1 := cc _ _ m1
        have q2 := cc _ _ m2
        have HF := Lib.hid (filt_take Es j s hlt)
        have Ho := Lib.hid ho
        clear hc0 hfr m0 m1 m2 cc ho hv
        generalize feAt Es j = y at *
        obtain ⟨⟨yst, ysa, yL⟩, ya, yc⟩ := y
        simp only [FE.tr] at *
        have hfl := List.length_filter_le (fun e : FE => decide (e.f.st = s)) (Es.take j)
        rw [List.length_take] at hfl
        have hzc := hch.size
        by_cases h2 : yst = s
        · subst h2
          have bla : Below wi.heap.size wi (wi.alloc (.cells #[.int .i64 yst, .int .i64 ysa, .slice ya yL.length yc] 61)) := (Below.refl _ _).alloc (Nat.le_refl _) _
          have hY := Lib.hid (entry_block (w := wi.alloc (.cells #[.int .i64 yst, .int .i64 ysa, .slice ya yL.length yc] 61)) (g := wi.heap.size) ⟨⟨yst, ysa, yL⟩, ya, yc⟩ (alloc_new _ _))
          have hln2 : (List.filter (fun e : FE => decide (e.f.st = yst)) (List.take j Es)).length + 1 ≤ 100000 := by omega
          go_wp2_with (at_builtin; refine wpList_pushR rfl _ _ rfl w.heap.size _ _ rfl (OwnR.kept Ho.out bla) _ _ _ [⟨⟨yst, ysa, yL⟩, ya, yc⟩] rfl rfl hY.out hln2 (by rw [World.size_alloc]; omega) ?_; intro v3 w3 o3 g3 b3 l3)
          refine ⟨⟨j + 1, by omega, by go_num, ?_, ?_, ?_⟩, by simp [intOf]; omega⟩
          · rw [HF.out, if_pos rfl]; exact o3
          · refine (hch.trans (Chg.of_below bla _)).only (Chg.of_grown (S := fun b => u5.ownBlock = some b) g3 fun b hb => hb) fun k hk hkl => ?_
            rcases hbl with h | ⟨k', h, hk'⟩
            · rw [h] at hk; cases hk; rfl
            · rw [h] at hk; cases hk; omega
          · rcases l3 with h | h
            · rw [h]; exact hbl
            · exact .inr ⟨_, h, by rw [World.size_alloc]; omega⟩
        · have h3 : (yst == s) = false := by simp [h2]
          go_wp2_with fail
          exact ⟨⟨j + 1, by omega, by go_num, by rw [HF.out, if_neg h2, List.append_nil]; exact Ho.out, hch, hbl⟩, by simp [intOf]; omega⟩
    · obtain rfl : j = Es.length := by omega
      go_wp2
      go_ret
      refine ⟨_, _, rfl, ho, ?_, ?_, Below.chg b2 hch (fun k hk => by omega) b2.size, ?_⟩
      · intro e he
        exact (R1.out.but hch H0.out) e (by have := (List.mem_filter.1 he).1; rwa [List.take_length] at this)
      · rw [List.take_length, filt_map, HE.out]; rfl
      · exact (HBE.out.low (by rw [World.size_alloc]; omega)).of fun e he => by have := (List.mem_filter.1 he).1; rwa [List.take_length] at this
end Go.Proofs.Ytpijiidbjcbdhaa
