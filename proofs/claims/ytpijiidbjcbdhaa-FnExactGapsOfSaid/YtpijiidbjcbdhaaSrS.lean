/- Walks: the frames in order: the reference's. -/
import Derived.Test.YtpijiidbjcbdhaaCln
import Derived.Deep.QuietTactic
import Derived.BigQuiet
import Derived.Deep.CutRange
import Derived.Deep.CutBlock
import Derived.Deep.DeepCutAuto
namespace Go.Proofs.Ytpijiidbjcbdhaa
open Go Go.RowKit

theorem srt_take (Fs : List FM) (j : Nat) (h : j < Fs.length) : insAll ltF [] (Fs.take (j + 1)) = insR ltF (frAt Fs j) (insAll ltF [] (Fs.take j)) := by
  rw [List.take_add_one, List.getElem?_eq_getElem h]
  show insAll ltF [] (Fs.take j ++ [Fs[j]]) = _
  rw [insAll_snoc]
  congr 1
  simp [frAt, List.getD_eq_getElem?_getD, List.getElem?_eq_getElem h]

set_option maxRecDepth 100000 in
set_option maxHeartbeats 3200000 in
theorem l07Sorted_any (w : World) (v : Value) (Fs : List FM) (h : RdFr w v Fs) (hl : Fs.length ≤ 1000) (hm : ∀ j, j < Fs.length → (frAt Fs j).L.length ≤ 1048576) :
    Calls Try.prog 50 #[v] w fun e w' => ∃ v' Es, e = .returned v' ∧ OwnR w' w.heap.size v' Es ∧ RdEs w' Es ∧ Es.map FE.f = sortF Fs ∧ Below w.heap.size w w' ∧ BaseE w.heap.size Es := by
  obtain ⟨a, c, rfl, hc, -, hcell⟩ := h.opened
  clear h
  go_enter Try.func50, Try.ntmps50
  go_wp2_with fail
  go_loopw [3, 11] (fun o i wr => ∃ (j : Nat) (Es : List FE), j ≤ Fs.length ∧ i = .int .i64 j ∧ OwnR wr w.heap.size o Es ∧ RdEs wr Es ∧ Es.map FE.f = insAll ltF [] (Fs.take j) ∧ Below w.heap.size w wr ∧ o ≠ .slice none 0 0 ∧ BaseE w.heap.size Es) (fun _ i _ => Fs.length - (intOf i).toNat)
  case atStart => exact ⟨0, [], Nat.zero_le _, rfl, ⟨rfl, .inr ⟨w.heap.size, 0, #[], rfl, Nat.le_refl _, alloc_new _ _, Nat.le_refl _, by decide, rfl, rfl⟩⟩, (fun e he => by cases he), rfl, (Below.refl _ _).alloc (Nat.le_refl _) _, (fun h => by cases h), BaseE.nil _⟩
  case round =>
    obtain ⟨wi, rfl⟩ : ∃ wi : World, wi = wr := ⟨_, rfl⟩
    obtain ⟨j, Es, hj, rfl, ho, hr, hes, hb, hnn, hbe⟩ := hrel
    have HBE := Lib.hid hbe
    clear hbe
    by_cases hlt : j < Fs.length
    · obtain ⟨b, o, a', c', rfl, hlb, d0, d1, d2, R0⟩ := hcell j hlt
      have q0 := ((bcell hb).1 _ _ hlb).trans d0
      have q1 := ((bcell hb).1 _ _ hlb).trans d1
      have q2 := ((bcell hb).1 _ _ hlb).trans d2
      have R1 := Lib.hid (R0.mono hb)
      have hmj := hm j hlt
      have HS := Lib.hid (srt_take Fs j hlt)
      clear d0 d1 d2 hcell R0 hm
      generalize frAt Fs j = f at *
      obtain ⟨st, sa, L⟩ := f
      simp only at *
      have Ho := Lib.hid ho
      have Hr := Lib.hid hr
      have Hes := Lib.hid hes
      clear ho hr hes
      obtain ⟨g, cap, hv, hgB, hgs, hcap, hc0, -⟩ := (Ho.out.form).resolve_left fun h => hnn h.1
      subst hv
      clear hnn
      have hws := hb.size
      have hk1 : ∀ x y z : Value, ∀ A : Obj, ((wi.alloc (.cells #[x, y, z] 61)).alloc A).heap[wi.heap.size + 1]? = some A := fun x y z A => by
        have := alloc_new (wi.alloc (.cells #[x, y, z] 61)) A
        rwa [World.size_alloc] at this
      have hown : OwnF ((wi.alloc (.cells #[.int .i64 st, .int .i64 sa, .slice a' L.length c'] 61)).alloc (.cells #[] 58)) (wi.heap.size + 1) (.slice (some ⟨wi.heap.size + 1, 0, none⟩) 0 0) [] :=
        ⟨[], rfl, (fun j hj => by cases hj), ⟨rfl, .inr ⟨wi.heap.size + 1, 0, #[], rfl, Nat.le_refl _, hk1 _ _ _ _, Nat.le_refl _, by decide, rfl, rfl⟩⟩⟩
      have bl0 : Below wi.heap.size wi ((wi.alloc (.cells #[.int .i64 st, .int .i64 sa, .slice a' L.length c'] 61)).alloc (.cells #[] 58)) := (by (repeat (first | exact Below.refl _ _ | (refine Below.drewN ?_ _) | (refine Below.alloc ?_ (by first | exact Nat.le_refl _ | (simp; done) | (simp; omega)) _))))
      have hbox : ((wi.alloc (.cells #[.int .i64 st, .int .i64 sa, .slice a' L.length c'] 61)).alloc (.cells #[] 58)).heap[wi.heap.size]? = some (.cells #[.int .i64 st, .int .i64 sa, .slice a' L.length c'] 61 (0, 0)) := by
        rw [Below.heap_alloc _ _ _ (by simp)]; exact alloc_new _ _
      have HB := Lib.hid hbox
      have hs1 : ((wi.alloc (.cells #[.int .i64 st, .int .i64 sa, .slice a' L.length c'] 61)).alloc (.cells #[] 58)).heap.size = wi.heap.size + 2 := by simp
      clear hk1 hbox hc0
      go_upto_block 2 with (at_builtin; refine wpList_pushAll rfl _ _ rfl (wi.heap.size + 1) _ [] rfl hown _ L rfl (R1.out.mono bl0) (by simp) hmj (by rw [hs1]; omega) ?_; intro v1 w1 h1 hg1 hb1 _; (have hq1 := (hb1.block wi.heap.size (by omega)).trans HB.out); obtain ⟨k0, k1, k2, k3, k4, k5⟩ := blk3 hq1; (rw [List.nil_append] at h1); (have Hrd := Lib.hid h1.rd); obtain ⟨a2, c2, rfl, -, -, -⟩ := h1.rd.opened)
      have P1 := (Put.one hq1 2 (.slice a2 L.length c2)).cs (cs' := #[.int .i64 st, .int .i64 sa, .slice a2 L.length c2]) (by simp)
      have hba : ∀ ad, a2 = some ad → wi.heap.size + 1 ≤ ad.block := fun ad ha => (ownF_at h1 ad ha).1
      have HBA := Lib.hid hba
      clear hba
      have hbo : ∀ q, (Value.slice a2 L.length c2).ownBlock = some q → wi.heap.size + 1 ≤ q := fun q hq => (h1.lt hq).1
      have HRt : RdF (w1.setCell ⟨wi.heap.size, 2, none⟩ (.slice a2 L.length c2)) (.slice a2 L.length c2) L := (h1.chg P1.chg fun k hk e => by have := hbo k hk; omega).rd
      generalize w1.setCell ⟨wi.heap.size, 2, none⟩ (.slice a2 L.length c2) = w2 at *
      have hz1 := hb1.size
      have bw2 : Below wi.heap.size wi w2 := Below.chg (bl0.trans (hb1.mono (by omega))) P1.chg (fun k hk => by omega) (by omega)
      have hq2 := P1.heap
      have hz2 := P1.size
      have HO2 := Lib.hid (Ho.out.kept bw2)
      have HR2 := Lib.hid (Hr.out.mono bw2)
      have B2 := Lib.hid bw2
      have Hq2 := Lib.hid hq2
      clear hown bl0 k0 k1 k2 k3 k4 k5 hb1 hg1 h1 P1 hq1 Hrd hbo hs1 HB R1 Ho Hr hmj bw2 hq2
      obtain ⟨X, hX⟩ : ∃ X : FE, X = ⟨⟨st, sa, L⟩, a2, c2⟩ := ⟨_, rfl⟩
      have HX := Lib.hid hX
      clear hX
      go_cut [6] (fun s6 wx => ∃ t n : Nat, t ≤ Es.length ∧ s6 = .int .i64 t ∧ wx = w2.drewN n ∧ Hid (insR ltE X Es = Es.take t ++ X :: Es.drop t))
      case first =>
        go_wp2_with fail
        go_loopw [6] (fun q wr => ∃ t n : Nat, t ≤ Es.length ∧ q = .int .i64 t ∧ wr = w2.drewN n ∧ Hid (insR ltE X Es = insR ltE X (Es.take t) ++ Es.drop t)) (fun q _ => (intOf q).toNat)
        case atStart => exact ⟨Es.length, 0, Nat.le_refl _, rfl, rfl, Lib.hid (by rw [List.take_length, List.drop_length, List.append_nil])⟩
        case round =>
          obtain ⟨wl, rfl⟩ : ∃ wl : World, wl = wr := ⟨_, rfl⟩
          obtain ⟨t, n, ht, rfl, hwl, HI⟩ := hrel
          have HW := Lib.hid hwl
          obtain ⟨k0, k1, k2, -, -, -⟩ := blk3 (w := wl) (t := 61) (by rw [hwl]; exact Hq2.out)
          rcases Nat.eq_zero_or_pos t with rfl | hpos
          · clear hwl
            have hd : decide (((0 : Nat) : Int) > 0) = false := by decide
            go_wp2_with fail
            go_quiet (fail)
            go_wp2_with fail
            go_meet
            exact ⟨0, n + nq, Nat.zero_le _, rfl, by rw [HW.out, World.drewN_drewN], Lib.hid (by have := HI.out; rw [List.take_zero, List.drop_zero, insR_nil] at this; rw [this]; rfl)⟩
          · obtain ⟨tp, rfl⟩ : ∃ tp, t = tp + 1 := ⟨t - 1, by omega⟩
            obtain ⟨hv, -⟩ | ⟨g', cap', hv, -, hgs', hcap', hc0, hfr⟩ := HO2.out.form
            · cases hv
            · obtain ⟨rfl, rfl⟩ : g = g' ∧ cap = cap' := by cases hv; exact ⟨rfl, rfl⟩
              obtain ⟨m0, m1, -⟩ := hc0 tp (by omega)
              have q0 : wl.cell? ⟨g, tp * 3, none⟩ = some (.int .i64 (feAt Es tp).f.st) := by rw [hwl]; exact m0
              have q1 : wl.cell? ⟨g, tp * 3 + 1, none⟩ = some (.int .i64 (feAt Es tp).f.sa) := by rw [hwl]; exact m1
              have hlt2 : ltE X (feAt Es tp) = (decide (st < (feAt Es tp).f.st) || (decide (st = (feAt Es tp).f.st) && decide (sa < (feAt Es tp).f.sa))) := by rw [HX.out]; rfl
              have htk : Es.take (tp + 1) = Es.take tp ++ [feAt Es tp] := by rw [List.take_add_one, List.getElem?_eq_getElem (by omega), feAt_eq (by omega)]; rfl
              have hdr : Es.drop tp = feAt Es tp :: Es.drop (tp + 1) := by rw [List.drop_eq_getElem_cons (by omega), feAt_eq (by omega)]
              have hgo : ltE X (feAt Es tp) = true → Hid (insR ltE X Es = insR ltE X (Es.take tp) ++ Es.drop tp) := fun h => Lib.hid (by rw [HI.out, htk, insR_snoc, if_pos h, hdr, List.append_assoc]; rfl)
              have hstop : ltE X (feAt Es tp) = false → Hid (insR ltE X Es = Es.take (tp + 1) ++ X :: Es.drop (tp + 1)) := fun h => Lib.hid (by rw [HI.out, htk, insR_snoc, if_neg (by rw [h]; decide), ← htk, List.append_assoc]; rfl)
              have HG := Lib.hid hgo
              have HT := Lib.hid hstop
              have HL := Lib.hid hlt2
              clear hgo hstop hlt2 htk hdr m0 m1 hc0 hfr hv hwl HI
              generalize feAt Es tp = y at *
              obtain ⟨⟨yst, ysa, yL⟩, ya, yc⟩ := y
              simp only at *
              have hpt : (0 : Int) < (tp : Int) + 1 := by omega
              have hlz : (tp : Int) < (Es.length : Int) := by omega
              have hln : Es.length ≤ 1000 := by have := congrArg List.length Hes.out; rw [List.length_map, insAll_length, List.length_take] at this; simp at this; omega
              have hwp : IntKind.i64.wrap (tp : Int) = (tp : Int) := by rw [IntKind.wrap_i64]; omega
              by_cases h1 : st < yst
              · have hd1 : decide (yst > st) = true := decide_eq_true h1
                go_wp2_with fail
                go_quiet (fail)
                go_wp2_with fail
                exact ⟨⟨tp, n + nq, by omega, rfl, by rw [HW.out, World.drewN_drewN], HG.out (by rw [HL.out]; simp [h1])⟩, by simp [intOf]⟩
              · have hd1 : decide (yst > st) = false := decide_eq_false h1
                by_cases h2 : yst = st
                · subst h2
                  have hd2 : (yst == yst) = true := by simp
                  by_cases h3 : sa < ysa
                  · have hd3 : decide (ysa > sa) = true := decide_eq_true h3
                    go_wp2_with fail
                    go_quiet (fail)
                    go_wp2_with fail
                    exact ⟨⟨tp, n + nq, by omega, rfl, by rw [HW.out, World.drewN_drewN], HG.out (by rw [HL.out]; simp [h3])⟩, by simp [intOf]⟩
                  · have hd3 : decide (ysa > sa) = false := decide_eq_false h3
                    go_wp2_with fail
                    go_quiet (fail)
                    go_wp2_with fail
                    go_meet
                    exact ⟨tp + 1, n + nq, ht, rfl, by rw [HW.out, World.drewN_drewN], HT.out (by rw [HL.out]; simp [h3])⟩
                · have hd2 : (yst == st) = false := by simp [h2]
                  have hd4 : ¬ st = yst := fun h => h2 h.symm
                  go_wp2_with fail
                  go_quiet (fail)
                  go_wp2_with fail
                  go_meet
                  exact ⟨tp + 1, n + nq, ht, rfl, by rw [HW.out, World.drewN_drewN], HT.out (by rw [HL.out]; simp [h1, hd4])⟩
      case rest =>
      obtain ⟨t, n, ht, rfl, hw3, HI⟩ := hcut
      have HO3 : Hid (OwnR wc w.heap.size (.slice (some ⟨g, 0, none⟩) Es.length cap) Es) := Lib.hid (by rw [hw3]; exact HO2.out.kept (Below.drewN (Below.refl _ _) _))
      have HR3 : Hid (RdEs wc Es) := Lib.hid (by rw [hw3]; exact HR2.out.mono (Below.drewN (Below.refl _ _) _))
      have Hq3 : Hid (wc.heap[wi.heap.size]? = some (.cells #[.int .i64 st, .int .i64 sa, .slice a2 L.length c2] 61 (0, 0))) := Lib.hid (by rw [hw3]; exact Hq2.out)
      have HT3 : Hid (RdF wc (.slice a2 L.length c2) L) := Lib.hid (by rw [hw3]; exact HRt.mono (Below.drewN (Below.refl _ _) _))
      have B3 : Hid (Below wi.heap.size wi wc) := Lib.hid (by rw [hw3]; exact Below.drewN B2.out _)
      have hz3 : wi.heap.size + 1 ≤ wc.heap.size := (Array.getElem?_eq_some_iff.1 Hq3.out).1
      have htc : (t : Int) ≤ (cap : Int) := by omega
      have htl : (t : Int) ≤ (Es.length : Int) := by omega
      have hln : Es.length ≤ 1000 := by have := congrArg List.length Hes.out; rw [List.length_map, insAll_length, List.length_take] at this; simp at this; omega
      clear hw3 HO2 HR2 Hq2 HRt B2
      go_wp2_with fail
      refine region_grow_tail 7 (by kernel_rfl) (by kernel_rfl) (fun _ _ _ _ _ => False) ?_
      simp only [List.take_succ_cons, List.take_zero, List.drop_succ_cons, List.drop_zero]
      have hwd : wc.drew.heap.size = wc.heap.size := rfl
      refine wpRelK_op rfl rfl (fun wa ha K hK => ?_)
      have ga : wc.heap.size ≤ wa.heap.size := ha.1.size
      go_wp2
      refine hK _ _ ((Below.refl _ _).alloc (Nat.le_refl _) _) ?_
      clear hK K
      refine wpRelK_still rfl rfl (fun wq hq K hK => ?_)
      go_wp2
      refine wpRelK_still rfl rfl (fun wq hq K hK => ?_)
      go_wp2
      refine wpRelK_still rfl rfl (fun wq hq K hK => ?_)
      go_wp2
      refine wpRelK_op rfl rfl (fun wb hb4 K hK => ?_)
      have x0 : Ext (wa.alloc (.cells #[] 61)) wb := hb4.dep 0 (by kernel_rfl)
      have xW : Ext wc wb := (Ext.drew wc).trans hb4.1
      have hga : wb.heap[wa.heap.size]? = some (.cells #[] 61 (0, 0)) := (x0.block wa.heap.size (by rw [World.size_alloc]; omega)).trans (alloc_new _ _)
      obtain ⟨hv, -⟩ | ⟨g', cap', hv, -, hgs', hcap', hc0, hfr⟩ := (HO3.out.kept xW).form
      · cases hv
      obtain ⟨rfl, rfl⟩ : g = g' ∧ cap = cap' := by cases hv; exact ⟨rfl, rfl⟩
      refine op_append_fresh _ _ _ rfl wc.heap.size 61 _ 3 40 Try.underlying28 Try.infoFr rfl (by decide) wa.heap.size hga (by omega) rfl ⟨g, 0, none⟩ t cap (encEs (Es.take t)) rfl (by rw [encEs_length, List.length_take, Nat.min_eq_left ht]) ?_ (encEs_onecell _) (by unfold maxLen; omega) (by omega) ?_
      · have := encEs_cells hc0 0 (Es.take t) (fun j hj => by
          rw [List.length_take] at hj
          refine ⟨by omega, ?_⟩
          rw [Nat.zero_add]
          unfold feAt
          rw [List.getD_eq_getElem?_getD, List.getD_eq_getElem?_getD, List.getElem?_take_of_lt (by omega)])
        rw [Nat.zero_mul] at this
        exact this
      intro v66 w66 o66 x66
      refine hK _ _ x66 ?_
      clear hK K hv hc0 hfr
      refine wpRelK_still rfl rfl (fun wq hq K hK => ?_)
      have xq : Ext wc wq := (Ext.drew wc).trans hq.1
      obtain ⟨k0, k1, k2, -, -, -⟩ := blk3 (w := wq) ((xq.block _ (by omega)).trans Hq3.out)
      go_wp2
      clear k0 k1 k2
      refine wpRelK_op rfl rfl (fun wd hd K hK => ?_)
      go_wp2
      refine hK _ _ ((Below.refl _ _).alloc (Nat.le_refl _) _) ?_
      clear hK K
      refine wpRelK_nil ?_
      intro w' hW hall
      have E66 : Ext w66 w' := hall 4 (by decide)
      have E68 : Ext (wd.alloc (.cells #[.int .i64 st, .int .i64 sa, .slice a2 L.length c2] 61)) w' := hall 6 (by decide)
      have O66 : OwnR w66 wc.heap.size v66 (Es.take t) := by
        unfold OwnR
        rw [List.length_take, Nat.min_eq_left ht]
        exact o66
      have xW2 : Ext wc w' := (Ext.drew wc).trans hW
      have zd : wc.heap.size ≤ wd.heap.size := hd.1.size
      have z' : wc.heap.size ≤ w'.heap.size := hW.size
      obtain ⟨k0, k1, k2, -, -, -⟩ := blk3 (w := w') ((E68.block wd.heap.size (by rw [World.size_alloc]; omega)).trans (alloc_new _ _))
      have hX1 : ∀ j u, (encEs [X])[j]? = some u → w'.cell? ((⟨wd.heap.size, 0, none⟩ : Addr).add j) = some u := by
        have := encEs_cells (w := w') (g := wd.heap.size) (Es := [X]) (fun j hj => by
          obtain rfl : j = 0 := by simpa using hj
          rw [HX.out]
          exact ⟨k0, k1, k2⟩) 0 [X] (fun j hj => ⟨by simpa using hj, by rw [Nat.zero_add]⟩)
        rw [Nat.zero_mul] at this
        exact this
      refine wpList_pushR rfl _ _ rfl wc.heap.size v66 (Es.take t) rfl (O66.kept E66) ⟨wd.heap.size, 0, none⟩ 1 1 [X] rfl rfl hX1 (by rw [List.length_take]; omega) z' ?_
      intro v69 w69 o69 g69 b69 _
      have b9 : Below wc.heap.size wc w69 := Below.trans xW2 b69
      obtain ⟨hv, -⟩ | ⟨g', cap', hv, -, hgs', hcap', hc0, hfr⟩ := (HO3.out.kept b9).form
      · cases hv
      obtain ⟨rfl, rfl⟩ : g = g' ∧ cap = cap' := by cases hv; exact ⟨rfl, rfl⟩
      have hDr : ∀ j u, (encEs (Es.drop t))[j]? = some u → w69.cell? ((⟨g, t * 3, none⟩ : Addr).add j) = some u := encEs_cells hc0 t (Es.drop t) (fun j hj => by
        rw [List.length_drop] at hj
        refine ⟨by omega, ?_⟩
        unfold feAt
        rw [List.getD_eq_getElem?_getD, List.getD_eq_getElem?_getD, List.getElem?_drop])
      have z9 := b69.size
      have HD := Lib.hid hDr
      clear hDr hc0 hfr hv k0 k1 k2 hX1 E66 E68 xW2 hW hall x66 x0 xW
      have hlen9 : (Es.take t ++ [X]).length + (Es.length - t) ≤ 100000 := by simp; omega
      have FIN : Hid (∀ v74 w74, OwnR w74 wc.heap.size v74 (insR ltE X Es) → Below wc.heap.size w69 w74 → ∃ Es', OwnR w74 w.heap.size v74 Es' ∧ RdEs w74 Es' ∧ Es'.map FE.f = insAll ltF [] (Fs.take (j + 1)) ∧ Below w.heap.size w w74 ∧ v74 ≠ .slice none 0 0 ∧ BaseE w.heap.size Es') := Lib.hid (by
        intro v74 w74 o74 b74
        have bb : Below wc.heap.size wc w74 := b9.trans b74
        refine ⟨insR ltE X Es, ownsRow_lower o74 (by omega), fun e he => ?_, ?_, hb.trans ((B3.out.mono hb.size).trans (bb.mono (by omega))), fun hv => ?_, fun e he ad ha => ?_⟩
        · rcases (insR_mem ltE X e Es).1 he with rfl | he
          · rw [HX.out]
            exact HT3.out.mono bb
          · exact (HR3.out e he).mono bb
        · rw [insR_map ltE FE.f ltF (fun x y => rfl), Hes.out, HS.out, HX.out]
        · rcases o74.form with ⟨-, h0⟩ | ⟨g0, cap0, hv0, -⟩
          · have := insR_length ltE X Es
            rw [h0] at this
            cases this
          · rw [hv] at hv0; cases hv0
        · rcases (insR_mem ltE X e Es).1 he with rfl | he
          · rw [HX.out] at ha
            have := HBA.out ad ha
            omega
          · exact HBE.out e he ad ha)
      by_cases hct : t < cap
      · have hcz : (t : Int) < (cap : Int) := by omega
        go_wp2_with (at_builtin; refine wpList_pushR rfl _ _ rfl wc.heap.size _ (Es.take t ++ [X]) rfl o69 _ _ _ (Es.drop t) rfl (by rw [List.length_drop]) HD.out hlen9 (by omega) ?_; intro v74 w74 o74 g74 b74 _)
        obtain ⟨Es', f1, f2, f3, f4, f5, f6⟩ := FIN.out v74 w74 (by rw [HI.out]; simpa using o74) b74
        exact ⟨⟨j + 1, Es', by omega, by go_num, f1, f2, f3, f4, f5, f6⟩, by simp [intOf]; omega⟩
      · obtain rfl : t = cap := by omega
        have hd0 : Es.drop t = [] := List.drop_eq_nil_of_le (by omega)
        replace HI := Lib.hid (hd0 ▸ HI.out)
        have hz0 : Es.length - t = 0 := by omega
        go_wp2_with (at_builtin; refine wpList_pushR rfl _ _ rfl wc.heap.size _ (Es.take t ++ [X]) rfl o69 _ _ _ [] rfl (by first | rfl | (simp; omega)) (fun j u hu => by simp [encEs] at hu) (by simp; omega) (by omega) ?_; intro v74 w74 o74 g74 b74 _)
        obtain ⟨Es', f1, f2, f3, f4, f5, f6⟩ := FIN.out v74 w74 (by rw [HI.out]; simpa using o74) b74
        exact ⟨⟨j + 1, Es', by omega, by go_num, f1, f2, f3, f4, f5, f6⟩, by simp [intOf]; omega⟩
    · obtain rfl : j = Fs.length := by omega
      clear hcell
      go_wp2
      go_ret
      exact ⟨_, Es, rfl, ho, hr, by rw [hes, List.take_length]; rfl, hb, HBE.out⟩
end Go.Proofs.Ytpijiidbjcbdhaa
