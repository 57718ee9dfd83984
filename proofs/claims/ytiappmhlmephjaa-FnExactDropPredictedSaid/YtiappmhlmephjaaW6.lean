/- Walks: equations of Toeplitz form, as the reference solves them. -/
import Derived.Test.YtiappmhlmephjaaW3
import Derived.Test.YtiappmhlmephjaaW5
namespace Go.Proofs.Ytiappmhlmephjaa
open Go Go.RowKit

theorem OwnF.one' {w : World} {B h : Nat} (hh : h = w.heap.size) (hB : B ≤ w.heap.size) {r x : Nat} (hr : FV .f32 r x) : OwnF (w.alloc (.cells #[.float .f32 r] 23)) B (.slice (some ⟨h, 0, none⟩) 1 1) [x] := by
  subst hh; exact OwnF.one hB hr
set_option maxRecDepth 100000 in
set_option maxHeartbeats 4000000 in
theorem l05Solve_any (w : World) (va vr : Value) (A R : List Nat) (hA : RdF w va A) (hR : RdF w vr R) (hl : 0 < A.length) (hlen : R.length = A.length) (hmax : A.length ≤ 500) :
    Calls Try.prog 63 #[va, vr] w fun e w' => ∃ v v2 r ok, e = .returned (.tuple #[v, v2, .float .f32 r, .bool ok]) ∧ ResF w' w.heap.size v ok (solveM A R) ∧ Below w.heap.size w w' := by
  have hadd := run_fadd (P := Try.prog)
  have hsub := run_fsub (P := Try.prog)
  have hmul := run_fmul (P := Try.prog)
  have hquo := run_fquo (P := Try.prog)
  have hst := run_store_float (P := Try.prog)
  have hR' := hR
  have hA' := hA
  obtain ⟨br, orr, cr, hvr, hcr, hbr, hcellr⟩ := hR.at_block (by omega)
  rw [hlen] at hvr hcr hcellr
  subst hvr
  clear hlen
  obtain ⟨ba, oa, ca, rfl, hca, hba, hcella⟩ := hA.at_block (by omega)
  clear hA hR
  obtain ⟨ra0, ca0, fa0⟩ := hcella 0 hl
  rw [Nat.add_zero] at ca0
  obtain ⟨r0, cr0, fr0⟩ := hcellr 0 (by omega)
  rw [Nat.add_zero] at cr0
  have hgt := fa0.gt0
  cases hE : gt0 (A.getD 0 0) with
  | false =>
    rw [hE] at hgt
    go_enter Try.func63, Try.ntmps63
    go_wp2
    refine bodyPost_ret (v := .tuple #[.slice none 0 0, .slice none 0 0, .float .f32 0, .bool false]) (by simp [results, Try.results63, go_sem]) rfl ⟨_, _, _, _, rfl, by unfold solveM; rw [hE]; exact ⟨rfl, rfl⟩, Below.refl _ _⟩
  | true =>
    rw [hE] at hgt
    go_enter Try.func63, Try.ntmps63
    go_wp2
    have b3 : Below w.heap.size w ((((w.alloc (Obj.cells #[Value.float FloatKind.f32 1065353216] 23)).drewN (fcnt BinOp.quo FloatKind.f32 r0 ra0)).alloc (Obj.cells #[Value.float FloatKind.f32 (fres BinOp.quo FloatKind.f32 r0 ra0 (w.alloc (Obj.cells #[Value.float FloatKind.f32 1065353216] 23)))] 23)).alloc (Obj.cells #[] 23)) :=
      ((Below.drewN ((Below.refl _ _).alloc (Nat.le_refl _) _) _).alloc (by simp) _).alloc (by simp; omega) _
    go_loopw [8, 9, 10, 11, 12] (fun ve vp vf vl i wr => ∃ (n re E : Nat) (P F L : List Nat), 1 ≤ n ∧ n ≤ A.length ∧ i = .int .i64 n ∧ ve = .float .f32 re ∧ FV .f32 re E ∧ P.length = n ∧ F.length = n ∧ L.length ≤ n ∧ gt0 E = true ∧
      OwnF wr w.heap.size vp P ∧ OwnF wr w.heap.size vf F ∧ OwnF wr w.heap.size vl L ∧ vf.ownBlock ≠ vp.ownBlock ∧ vl.ownBlock ≠ vp.ownBlock ∧ vl.ownBlock ≠ vf.ownBlock ∧ Below w.heap.size w wr ∧ solveGo A R (A.length - n) P E F = solveM A R) (fun _ _ _ _ i _ => A.length - (intOf i).toNat)
    case atStart =>
      refine ⟨1, ra0, _, _, _, [], Nat.le_refl _, hl, rfl, rfl, fa0, rfl, rfl, Nat.zero_le _, hE, ((OwnF.one (Nat.le_refl _) fv1).drewN _ |>.alloc _).alloc _, OwnF.alloc (OwnF.one' (B := w.heap.size) (w := (w.alloc (Obj.cells #[Value.float FloatKind.f32 1065353216] 23)).drewN (fcnt BinOp.quo FloatKind.f32 r0 ra0)) (by simp) (by simp) (FV.op fr0 fa0 _)) _, ?_, ?_, ?_, ?_, b3, by unfold solveM; rw [hE]; rfl⟩
      · exact ⟨[], rfl, fun j hj => (by cases hj), by simpa using World.ownsRow_lit (base := w.heap.size) (e := 23) (size := 1) (((w.alloc (Obj.cells #[Value.float FloatKind.f32 1065353216] 23)).drewN (fcnt BinOp.quo FloatKind.f32 r0 ra0)).alloc (Obj.cells #[Value.float FloatKind.f32 (fres BinOp.quo FloatKind.f32 r0 ra0 (w.alloc (Obj.cells #[Value.float FloatKind.f32 1065353216] 23)))] 23)) #[] 0 (by simp; omega) (by decide) rfl⟩
      · simp [Value.ownBlock]
      · simp [Value.ownBlock]; omega
      · simp [Value.ownBlock]
    case round =>
      clear b3 hgt ca0 cr0
      obtain ⟨wo, rfl⟩ : ∃ wo : World, wo = wr := ⟨_, rfl⟩
      obtain ⟨n, re, E, P, F, L, hn1, hn2, rfl, rfl, fe, hP, hF, hLn, hgE, hop, hof, hol, hfp, hlp, hlf, hbw, hgo⟩ := hrel
      have hop' := hop
      have hof' := hof
      by_cases hlt : n < A.length
      · obtain ⟨gp, capp, rfl, hgp1, hgp2, hcapp, hcellp, -⟩ := hop.at_block (n := n) hP (by omega)
        obtain ⟨gf, capf, rfl, hgf1, hgf2, hcapf, hcellf, -⟩ := hof.at_block (n := n) hF (by omega)
        have hsw := hbw.size
        obtain ⟨m, hm⟩ : ∃ m, A.length - n = m + 1 := ⟨A.length - n - 1, by omega⟩
        rw [hm] at hgo
        have hgo' := Lib.hid hgo
        have hm' := Lib.hid hm
        have hP' := Lib.hid hP
        have hF' := Lib.hid hF
        have hcella' : ∀ j, j < A.length → ∃ r, wo.cell? ⟨ba, oa + j, none⟩ = some (.float .f32 r) ∧ FV .f32 r (A.getD j 0) := fun j hj => by
          obtain ⟨r, h1, h2⟩ := hcella j hj
          exact ⟨r, ((bcell hbw).1 _ _ hba).trans h1, h2⟩
        clear hgo hm hP hF
        go_wp2
        go_loopw [13, 14, 15] (fun vs vg i wr => ∃ (k q rs rg : Nat), k ≤ n ∧ i = .int .i64 k ∧ vs = .float .f32 rs ∧ vg = .float .f32 rg ∧ FV .f32 rs (sumTo .f32 (fun i => fop .mul .f32 (P.getD i 0) (A.getD (P.length - i) 0)) k) ∧
          FV .f32 rg (sumTo .f32 (fun i => fop .mul .f32 (F.getD i 0) (A.getD (F.length - i) 0)) k) ∧ wr = wo.drewN q) (fun _ _ i _ => n - (intOf i).toNat)
        case atStart => exact ⟨0, 0, 0, 0, Nat.zero_le _, rfl, rfl, rfl, fv0 _, fv0 _, rfl⟩
        case round =>
          obtain ⟨k, q, rs, rg, hk, rfl, rfl, rfl, frs, frg, hwq⟩ := hrel
          by_cases hlk : k < n
          · obtain ⟨wi, rfl⟩ : ∃ wi : World, wi = wr := ⟨_, rfl⟩
            obtain ⟨rp, cp, fp⟩ := hcellp k (by rw [hP'.out]; exact hlk)
            obtain ⟨rf, cf, ff⟩ := hcellf k (by rw [hF'.out]; exact hlk)
            obtain ⟨rn, cn, fn⟩ := hcella' (n - k) (by omega)
            have cp' : wi.cell? ⟨gp, k, none⟩ = some (.float .f32 rp) := by rw [hwq]; exact cp
            have cf' : wi.cell? ⟨gf, k, none⟩ = some (.float .f32 rf) := by rw [hwq]; exact cf
            have cn' : wi.cell? ⟨ba, oa + (n - k), none⟩ = some (.float .f32 rn) := by rw [hwq]; exact cn
            have hwq' := Lib.hid hwq
            have frs' := Lib.hid frs
            have frg' := Lib.hid frg
            clear hwq frs frg cp cf cn hcellp hcellf hcella'
            go_wp2
            refine region_rel_all (by kernel_rfl) (by kernel_rfl) (Drawn wi) (fun _ _ _ => False) ⟨1, rfl⟩ ?_
            repeat (refine wpRel_draw rfl rfl (fun nq K hK => ?_); go_wp2)
            refine wpRel_nil ?_
            rintro wd ⟨nd, hwd⟩
            have cp2 : wd.cell? ⟨gp, k, none⟩ = some (.float .f32 rp) := by rw [hwd]; exact cp'
            have cf2 : wd.cell? ⟨gf, k, none⟩ = some (.float .f32 rf) := by rw [hwd]; exact cf'
            have cn2 : wd.cell? ⟨ba, oa + (n - k), none⟩ = some (.float .f32 rn) := by rw [hwd]; exact cn'
            have hwd' := Lib.hid hwd
            clear cp' cf' cn' hwd
            go_wp2
            refine region_rel_all (by kernel_rfl) (by kernel_rfl) (Drawn wd) (fun _ _ _ => False) ⟨1, rfl⟩ ?_
            repeat (refine wpRel_draw rfl rfl (fun nq K hK => ?_); go_wp2)
            refine wpRel_nil ?_
            rintro we ⟨ne, hwe⟩
            have hwe' := Lib.hid hwe
            clear hwe
            go_wp2
            refine ⟨⟨k + 1, q + nd + ne, _, _, by omega, by go_num, rfl, rfl, FV.op frs'.out (FV.op fp (by rw [hP'.out]; exact fn) _) _, FV.op frg'.out (FV.op ff (by rw [hF'.out]; exact fn) _) _, ?_⟩, by simp [intOf]; omega⟩
            rw [hwe'.out, hwd'.out, hwq'.out, World.drewN_drewN, World.drewN_drewN, Nat.add_assoc]
          · obtain rfl : k = n := by omega
            have hrs : FV .f32 rs (againstM A P) := by have := frs; rw [← hP'.out] at this; exact this
            have hrg : FV .f32 rg (againstM A F) := by have := frg; rw [← hF'.out] at this; exact this
            clear frs frg hcellp hcellf hcella'
            have hb1 : Below w.heap.size w wr := by rw [hwq]; exact Below.drewN hbw q
            have hop1 : OwnF wr w.heap.size (.slice (some ⟨gp, 0, none⟩) k capp) P := by rw [hwq]; exact hop'
            have hof1 : OwnF wr w.heap.size (.slice (some ⟨gf, 0, none⟩) k capf) F := by rw [hwq]; exact hof'
            have hol1 : OwnF wr w.heap.size u11 L := by rw [hwq]; exact hol
            have hsz : wr.heap.size = wo.heap.size := by rw [hwq]; rfl
            have hsz' := Lib.hid hsz
            clear hwq hsz
            have hs1 := hb1.size
            go_wp2_with (at_builtin; go_must (refine wpList_push rfl (.tmp 73) (.tmp 75) rfl w.heap.size u11 L rfl (OwnF.alloc (OwnF.drewN hol1 _) _) _ _ _ (fop .quo .f32 (againstM A P) E) rfl (cell_new _ _ _) (FV.op hrs fe _) (by omega) (by rw [World.size_alloc]; exact Nat.le_succ_of_le hs1) ?_); intro v2 w2 h2 hg2 hb2 hk2)
            have hg12 : wr.grownBy w2 u11.ownBlock := grownBy_trans (grownBy_drewN _ _ _) (grownBy_trans (World.grownBy_alloc _ _ _) hg2)
            have hop2 := hop1.keptBy hg12 (Ne.symm hlp)
            have hof2 := hof1.keptBy hg12 (Ne.symm hlf)
            have hb12 : Below w.heap.size w w2 := hb1.grown hg12 hs1 (fun q hq => (hol1.lt hq).1)
            have hs2 := hb12.size
            have hsm := hg12.size
            have hgf2' : gf < wr.heap.size := (hof1.lt rfl).2
            have hl2 : ∀ q, v2.ownBlock = some q → q < w2.heap.size ∧ q ≠ gf := fun q hq => ⟨(h2.lt hq).2, by
              rcases hk2 with h | h
              · intro e; rw [h, e] at hq; exact hlf hq
              · rw [hq] at h; simp at h; omega⟩
            have hF2 := hof2.rd
            clear hg2 hb2 hk2 hop1 hof1 hol1 hop' hof' hol
            refine (l05Next_any w2 _ P _ (stepC A P E) hop2.rd (FV.op hrs fe _) (by rw [hP'.out]; omega)).mono ?_
            rintro e3 w3 ⟨v3, rfl, h3, hb3⟩
            have hs3 := hb3.size
            have hb13 : Below w.heap.size w w3 := hb12.trans (hb3.mono hs2)
            have hof3 := hof2.kept hb3
            have hol3 := h2.kept hb3
            obtain ⟨g3, cap3, rfl, hg3a, hg3b, hcap3, hcell3, -⟩ := h3.at_block (n := k + 1) (by rw [extM_length, hP'.out]) (by omega)
            cases hE3 : gt0 (stepE A P E) with
            | false =>
              have hgt : ∀ x1 x2 x3, (FloatKind.f32.format.order (fres .sub .f32 re (fres .mul .f32 (fres .quo .f32 rs re x1) rs x2) x3) 0 == some Ordering.gt) = false := fun _ _ _ => (FV.op fe (FV.op (FV.op hrs fe _) hrs _) _).gt0.trans hE3
              go_wp2
              refine bodyPost_ret (v := .tuple #[.slice none 0 0, .slice none 0 0, .float .f32 0, .bool false]) (by simp [results, Try.results63, go_sem]) rfl ⟨_, _, _, _, rfl, ?_, Below.drewN hb13 _⟩
              rw [← hgo'.out]
              simp only [solveGo, hE3]
              exact ⟨rfl, rfl⟩
            | true =>
              have hgt : ∀ x1 x2 x3, (FloatKind.f32.format.order (fres .sub .f32 re (fres .mul .f32 (fres .quo .f32 rs re x1) rs x2) x3) 0 == some Ordering.gt) = true := fun _ _ _ => (FV.op fe (FV.op (FV.op hrs fe _) hrs _) _).gt0.trans hE3
              obtain ⟨rn, crn, frn⟩ := hcellr k (by omega)
              have crn3 : w3.cell? ⟨br, orr + k, none⟩ = some (.float .f32 rn) := ((bcell hb13).1 _ _ hbr).trans crn
              have hsw3 : w.heap.size ≤ w3.heap.size := hb13.size
              clear crn
              go_wp2_with (at_builtin; go_must (refine wpList_push rfl (.tmp 96) (.tmp 97) rfl w.heap.size (.slice (some ⟨gf, 0, none⟩) k capf) F rfl (OwnF.alloc (OwnF.drewN hof3 _) _) _ _ _ 0 rfl (cell_new _ _ _) (fv0 _) (by rw [hF'.out]; omega) (by rw [World.size_alloc]; exact Nat.le_succ_of_le hsw3) ?_); intro v5 w5 h5 hg5 hb5 hk5; obtain ⟨gg, capg, rfl, hgg1, hgg2, hcapg, -, -⟩ := h5.at_block (n := k + 1) (by simp [hF'.out]) (by omega))
              have hg35 : w3.grownBy w5 (some gf) := grownBy_trans (grownBy_drewN w3 _ _) (grownBy_trans (World.grownBy_alloc _ _ _) hg5)
              have hgg : gg = gf ∨ gg = w3.heap.size + 1 := by
                rcases hk5 with h | h
                · left; simpa [Value.ownBlock] using h
                · right; simpa [Value.ownBlock] using h
              have hg3f : g3 ≠ gf := by omega
              have hg3g : g3 ≠ gg := by rcases hgg with h | h <;> omega
              have hb5' : Below w.heap.size w w5 := hb13.grown hg35 hsw3 (fun q hq => by cases hq; exact hgf1)
              have hs5 := hb5'.size
              have ho3 := h3.keptBy hg35 (by simpa [Value.ownBlock] using hg3f)
              have hol5 := hol3.keptBy hg35 (fun h => (hl2 gf h).2 rfl)
              have hlg : v2.ownBlock ≠ some gg := fun h => by
                have h1 := hl2 gg h
                rcases hgg with h2 | h2
                · exact h1.2 h2
                · omega
              have hl3 : v2.ownBlock ≠ some g3 := fun h => by have h1 := hl2 g3 h; omega
              clear hg5 hb5 hk5 crn3
              go_loopw [101] (fun i wi => ∃ j : Nat, j ≤ k + 1 ∧ i = .int .i64 j ∧ OwnF wi w.heap.size (.slice (some ⟨gg, 0, none⟩) (k + 1) capg) (mixTo (fitM A R (extM P (stepC A P E)) (stepE A P E) F) (F ++ [0]) j) ∧ w5.grownBy wi (some gg)) (fun i _ => k + 1 - (intOf i).toNat)
              case atStart => exact ⟨0, Nat.zero_le _, rfl, by rw [mixTo_zero]; exact h5, World.grownBy.refl _ _⟩
              case round =>
                obtain ⟨wi, rfl⟩ : ∃ wi : World, wi = wr := ⟨_, rfl⟩
                obtain ⟨j, hj, rfl, hoi, hgi⟩ := hrel
                by_cases hlj : j < k + 1
                · obtain ⟨rp, cp, fp⟩ := hcell3 (k - j) (by rw [extM_length, hP'.out]; omega)
                  have cp5 : w5.cell? ⟨g3, k - j, none⟩ = some (.float .f32 rp) := hg35.cell cp (by simpa using hg3f)
                  have cpi : wi.cell? ⟨g3, k - j, none⟩ = some (.float .f32 rp) := hgi.cell cp5 (by simpa using hg3g)
                  obtain ⟨g', c', eq, _, _, _, hcelli, hfri⟩ := hoi.at_block (n := k + 1) (by simp [mixTo_length, hF'.out]) (by omega)
                  obtain ⟨rfl, rfl⟩ : gg = g' ∧ capg = c' := by cases eq; exact ⟨rfl, rfl⟩
                  obtain ⟨rf, cf, ff⟩ := hcelli j (by simp [mixTo_length, hF'.out]; omega)
                  have hfrk := hfri j
                  rw [mixTo_getD _ _ _ _ (by simp [hF'.out]; omega), if_neg (Nat.lt_irrefl j)] at ff
                  clear cp cp5 hcelli hfri hcell3 eq hgt
                  go_wp2
                  refine region_rel_tail 16 (by kernel_rfl) (by kernel_rfl) (Drawn wi) (fun _ _ _ => False) ⟨1, rfl⟩ ?_
                  simp only [List.take_succ_cons, List.take_zero, List.drop_succ_cons, List.drop_zero]
                  repeat (refine wpRel_draw rfl rfl (fun nq K hK => ?_); go_wp2)
                  refine wpRel_nil ?_
                  rintro wd ⟨nd, hwd⟩
                  have cfd : wd.cell? ⟨gg, j, none⟩ = some (.float .f32 rf) := by rw [hwd]; exact cf
                  have hfrd : wd.frozen? ⟨gg, j, none⟩ = false := by rw [hwd]; exact hfrk
                  have hod := Lib.hid (show OwnF wd w.heap.size (.slice (some ⟨gg, 0, none⟩) (k + 1) capg) (mixTo (fitM A R (extM P (stepC A P E)) (stepE A P E) F) (F ++ [0]) j) from by rw [hwd]; exact hoi)
                  have hgd : w5.grownBy wd (some gg) := by rw [hwd]; exact grownBy_trans hgi (grownBy_drewN _ _ _)
                  clear hwd cf hfrk cpi hoi
                  go_wp2
                  refine ⟨⟨j + 1, by omega, by go_num, ?_, grownBy_trans hgd (grownBy_setCell _ _ _ _)⟩, by simp [intOf]; omega⟩
                  have e1 : (mixTo (fitM A R (extM P (stepC A P E)) (stepE A P E) F) (F ++ [0]) j).length = k + 1 := by simp [mixTo_length, hF'.out]
                  have e2 : (fitM A R (extM P (stepC A P E)) (stepE A P E) F).getD j 0 = fop .add .f32 ((F ++ [0]).getD j 0) (fop .mul .f32 (fitT A R (stepE A P E) F) ((extM P (stepC A P E)).getD (k - j) 0)) := by
                    unfold fitM; rw [tab_getD _ _ _ (by rw [hF'.out]; exact hlj), hF'.out]
                  rw [← mixTo_set, e2]
                  have h9 := hod.out
                  rw [← e1] at h9 ⊢
                  refine h9.stored (FV.op ff (FV.op (FV.op (FV.op ?_ hrg _) (FV.op fe (FV.op (FV.op hrs fe _) hrs _) _) _) fp _) _)
                  rw [hF'.out]; exact frn
                · go_wp2
                  obtain rfl : j = k + 1 := by omega
                  rw [mixTo_all _ _ _ (by simp [hF'.out]) (by simp [fitM, tab_length, hF'.out])] at hoi
                  refine ⟨⟨k + 1, _, _, _, _, _, by omega, by omega, by go_num, rfl, FV.op fe (FV.op (FV.op hrs fe _) hrs _) _, by rw [extM_length, hP'.out], by simp [fitM, tab_length, hF'.out], by simp; omega, hE3, (ho3.keptBy hgi (by simpa [Value.ownBlock] using hg3g)).mono hs2, hoi, hol5.keptBy hgi hlg, ?_, hl3, hlg, hb5'.grown hgi hs5 (fun q hq => by cases hq; exact hgg1), ?_⟩, by simp [intOf]; omega⟩
                  · simp [Value.ownBlock]; omega
                  · rw [← hgo'.out]
                    have e3 : A.length - (k + 1) = m := by have := hm'.out; omega
                    rw [e3]
                    simp only [solveGo, hE3, if_true]
                    rfl
      · have e4 : A.length - n = 0 := by omega
        rw [e4] at hgo
        have hgo' := Lib.hid hgo
        clear hgo e4 hP hF
        go_wp2
        refine bodyPost_ret (v := .tuple #[_, _, .float .f32 re, .bool true]) (by simp [results, Try.results63, go_sem]; exact ⟨rfl, rfl⟩) rfl ⟨_, _, _, _, rfl, ?_, hbw⟩
        rw [← hgo'.out]
        exact ⟨rfl, hof⟩
end Go.Proofs.Ytiappmhlmephjaa
