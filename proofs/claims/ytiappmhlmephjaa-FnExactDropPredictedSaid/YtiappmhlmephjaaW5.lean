/- Walks: equations of Toeplitz form, solved. -/
import Derived.Test.YtiappmhlmephjaaW4
namespace Go.Proofs.Ytiappmhlmephjaa
open Go Go.RowKit

/-- The filter behind a step, which fits one equation more. -/
def fitT (A R : List Nat) (e : Nat) (f : List Nat) : Nat := fop .quo .f32 (fop .sub .f32 (R.getD f.length 0) (againstM A f)) e
def fitM (A R p : List Nat) (e : Nat) (f : List Nat) : List Nat := tab (fun i => fop .add .f32 ((f ++ [0]).getD i 0) (fop .mul .f32 (fitT A R e f) (p.getD (f.length - i) 0))) (f.length + 1)
def solveGo (A R : List Nat) : Nat → List Nat → Nat → List Nat → Option (List Nat)
  | 0, _, _, f => some f
  | m + 1, p, e, f => if gt0 (stepE A p e) then solveGo A R m (extM p (stepC A p e)) (stepE A p e) (fitM A R (extM p (stepC A p e)) (stepE A p e) f) else none
def solveM (A R : List Nat) : Option (List Nat) :=
  if gt0 (A.getD 0 0) then solveGo A R (A.length - 1) [1065353216] (A.getD 0 0) [fop .quo .f32 (R.getD 0 0) (A.getD 0 0)] else none
/-- What a function hands back that may fail. -/
def ResF (w : World) (B : Nat) (v : Value) (ok : Bool) : Option (List Nat) → Prop
  | some F => ok = true ∧ OwnF w B v F
  | none => ok = false ∧ v = .slice none 0 0

theorem ResF.own {w : World} {B : Nat} {v : Value} {ok : Bool} {o : Option (List Nat)} (h : ResF w B v ok o) : OwnF w B v (o.getD []) ∧ ok = o.isSome := by
  cases o with
  | none => obtain ⟨rfl, rfl⟩ := h; exact ⟨OwnF.nil _ _, rfl⟩
  | some F => exact ⟨h.2, h.1⟩
theorem solveGo_length (A R : List Nat) : ∀ (m : Nat) (p : List Nat) (e : Nat) (f F : List Nat), solveGo A R m p e f = some F → F.length = f.length + m
  | 0, _, _, f, F, h => by simp only [solveGo, Option.some.injEq] at h; rw [h]; rfl
  | m + 1, p, e, f, F, h => by
    simp only [solveGo] at h
    split at h
    · have := solveGo_length A R m _ _ _ F h
      rw [this]; simp [fitM, tab_length]; omega
    · cases h
theorem solveM_length (A R : List Nat) (F : List Nat) (h : solveM A R = some F) : F.length ≤ A.length + 1 := by
  unfold solveM at h
  split at h
  · have := solveGo_length A R _ _ _ _ F h
    rw [this]; simp; omega
  · cases h
set_option maxRecDepth 100000 in
set_option maxHeartbeats 2000000 in
theorem solve_any (w : World) (va vr : Value) (A R : List Nat) (hA : RdF w va A) (hR : RdF w vr R) (hl : 0 < A.length) (hlen : R.length = A.length) (hmax : A.length ≤ 500) :
    Calls Try.prog 35 #[va, vr] w fun e w' => ∃ v ok, e = .returned (.tuple #[v, .bool ok]) ∧ ResF w' w.heap.size v ok (solveM A R) ∧ Below w.heap.size w w' := by
  have hadd := run_fadd (P := Try.prog)
  have hsub := run_fsub (P := Try.prog)
  have hmul := run_fmul (P := Try.prog)
  have hquo := run_fquo (P := Try.prog)
  have hst := run_store_float (P := Try.prog)
  have hR' := hR
  have hA' := hA
  obtain ⟨br, orr, cr, rfl, hcr, hbr, hcellr⟩ := hR.at_block (by omega)
  obtain ⟨ba, oa, ca, rfl, hca, hba, hcella⟩ := hA.at_block (by omega)
  clear hA hR
  go_enter Try.func35, Try.ntmps35
  go_wp2_with fail
  refine (begin_any w _ A hA' hl (by omega)).mono ?_
  rintro e w1 ⟨px, rfl, hpx, hrec, hb1⟩
  obtain ⟨vp, e, c0, c1, c2, hfr, ho, fe, hvp, hpx1, hblk⟩ := hrec.cells
  have hgt := fe.gt0
  cases hE : gt0 (A.getD 0 0) with
  | false =>
    rw [hE] at hgt
    go_wp2
    go_ret2
    exact ⟨_, _, rfl, by unfold solveM; rw [hE]; exact ⟨rfl, rfl⟩, hb1⟩
  | true =>
    rw [hE] at hgt
    obtain ⟨r0, cr0, fr0⟩ := hcellr 0 (by omega)
    rw [Nat.add_zero] at cr0
    have cr1 : w1.cell? ⟨br, orr, none⟩ = some (.float .f32 r0) := ((bcell hb1).1 _ _ hbr).trans cr0
    go_wp2
    refine region_rel_tail 8 (by kernel_rfl) (by kernel_rfl) (Drawn w1) (fun _ _ _ => False) ⟨1, rfl⟩ ?_
    simp only [List.take_succ_cons, List.take_zero, List.drop_succ_cons, List.drop_zero]
    repeat (refine wpRel_draw rfl rfl (fun nq K hK => ?_); go_wp2)
    refine wpRel_nil ?_
    rintro w2 ⟨n2, rfl⟩
    go_wp2
    clear c0 c1 c2 hfr hvp hblk hgt ho cr0 cr1
    go_loopw [7, 8] (fun vf i wr => ∃ (n B E : Nat) (P F : List Nat), 1 ≤ n ∧ n ≤ A.length ∧ i = .int .i64 n ∧ P.length = n ∧ F.length = n ∧ gt0 E = true ∧ Rec wr B px (.slice (some ⟨ba, oa, none⟩) A.length ca) P E ∧
      OwnF wr w.heap.size vf F ∧ Below w.heap.size w wr ∧ px < wr.heap.size ∧ solveGo A R (A.length - n) P E F = solveM A R) (fun _ i _ => A.length - (intOf i).toNat)
    case atStart =>
      refine ⟨1, w.heap.size, _, _, _, Nat.le_refl _, hl, rfl, rfl, rfl, hE, ?_, OwnF.one hb1.size (FV.op fr0 fe _), (hb1.trans (Below.drewN (Below.refl _ _) _)).alloc hb1.size _, ?_, by unfold solveM; rw [hE]; rfl⟩
      · exact hrec.kept ((Below.drewN (Below.refl _ _) _).alloc (Nat.le_refl _) _)
      · simp; omega
    case round =>
      obtain ⟨wo, rfl⟩ : ∃ wo : World, wo = wr := ⟨_, rfl⟩
      obtain ⟨n, B, E, P, F, hn1, hn2, rfl, hP, hF, hgE, hrec', hof, hbw, hpxw, hgo⟩ := hrel
      have hne := hof.ne_rec hrec'
      have hrd := hrec'.cells
      by_cases hlt : n < A.length
      · clear hrec
        have hsw := hbw.size
        go_wp2_with fail
        refine (next_any wo B px _ A P E hrec' (hA'.mono hbw) (by omega) (by omega) hgE).mono ?_
        rintro e1 w3 ⟨rc, rfl, frc, hrec3, hg3⟩
        have hof3 : OwnF w3 w.heap.size u7 F := hof.keptBy hg3 hne
        have hb3 : Below w.heap.size w w3 := hbw.grown hg3 hsw (fun k hk => by cases hk; exact hpx)
        obtain ⟨vp3, e3, c0, c1, c2, hfr, ho3, fe3, hvp3, hpx3, hblk3⟩ := hrec3.cells
        have hgt := fe3.gt0
        obtain ⟨m, hm⟩ : ∃ m, A.length - n = m + 1 := ⟨A.length - n - 1, by omega⟩
        rw [hm] at hgo
        have hgo' := Lib.hid hgo
        have hm' := Lib.hid hm
        have hP' := Lib.hid hP
        have hF' := Lib.hid hF
        clear hgo hm hP hF hrd
        cases hE3 : gt0 (stepE A P E) with
        | false =>
          rw [hE3] at hgt
          go_wp2
          go_ret2
          refine ⟨_, _, rfl, ?_, hb3⟩
          rw [← hgo'.out]
          simp only [solveGo, hE3]
          exact ⟨rfl, rfl⟩
        | true =>
          rw [hE3] at hgt
          have hof3' := hof3
          obtain ⟨gf, capf, rfl, hgf1, hgf2, hcapf, hcellf, hfrf⟩ := hof3.at_block (n := n) hF'.out (by omega)
          obtain ⟨rn, crn, frn⟩ := hcellr n (by omega)
          have crn3 : w3.cell? ⟨br, orr + n, none⟩ = some (.float .f32 rn) := ((bcell hb3).1 _ _ hbr).trans crn
          have hA3 := hA'.mono hb3
          have hF3 := hof3'.rd
          go_wp2
          refine region_rel_all (by kernel_rfl) (by kernel_rfl) (Drawn w3) (fun _ _ v => ∃ r, v = .float .f32 r ∧ FV .f32 r (againstM A F)) ⟨1, rfl⟩ ?_
          repeat (refine wpRel_draw rfl rfl (fun nq K hK => ?_); go_wp2)
          refine wpRel_callF #[.pointer (some ⟨px, 0, none⟩), .slice (some ⟨gf, 0, none⟩) n capf] Try.func71 (by kernel_rfl) (by kernel_rfl) (by simp [go_sem]) ⟨w3, 0, rfl⟩ ⟨_, _, rfl, sumTo_cls _ _ _⟩ ?_ ?_
          · rintro wd ⟨nd, rfl⟩
            refine (against_any (w3.drewN nd) px _ _ A F c0 (RdF.drewN hA3 _) (RdF.drewN hF3 _) (by rw [hF'.out]; omega) (by omega)).mono ?_
            rintro e5 w5 ⟨r5, n5, rfl, f5, rfl⟩
            exact ⟨_, rfl, ⟨r5, rfl, f5⟩, ⟨nd + n5, World.drewN_drewN _ _ _⟩⟩
          · rintro v ⟨rg, rfl, frg⟩
            simp only [Act.put, List.setIfInBounds_toArray, List.set_cons_succ, List.set_cons_zero]
            repeat (refine wpRel_draw rfl rfl (fun nq K hK => ?_); go_wp2)
            refine wpRel_nil ?_
            rintro w4 ⟨n4, rfl⟩
            have hs3 := hb3.size
            have hgfw : gf < wo.heap.size := by
              obtain ⟨g', c', eq, _, h, _⟩ := hof.at_block (n := n) hF'.out (by omega)
              cases eq
              exact h
            clear crn3 crn hfrf hcellf
            go_wp2_with (at_builtin; go_must (refine wpList_push rfl (.tmp 64) (.tmp 65) rfl w.heap.size (.slice (some ⟨gf, 0, none⟩) n capf) F rfl (OwnF.alloc (OwnF.drewN hof3' _) _) _ _ _ 0 rfl (cell_new _ _ _) (fv0 _) (by rw [hF'.out]; omega) (by rw [World.size_alloc]; exact Nat.le_succ_of_le hs3) ?_); intro v5 w5 h5 hg5 hb5 hk5; obtain ⟨gg, capg, rfl, hgg1, hgg2, hcapg, -, -⟩ := h5.at_block (n := n + 1) (by simp [hF'.out]) (by omega))
            have hg35 : w3.grownBy w5 (some gf) := grownBy_trans (grownBy_drewN w3 n4 _) (grownBy_trans (World.grownBy_alloc _ _ _) hg5)
            obtain ⟨gp, capp, rfl, hgp1, hgp2, hcapp, hcellp, -⟩ := ho3.at_block (n := n + 1) (by rw [extM_length, hP'.out]) (by omega)
            have hgg : gg = gf ∨ gg = w3.heap.size + 1 := by simpa [Value.ownBlock] using hk5
            have hpf : px ≠ gf := fun h => hne (by rw [h]; rfl)
            have hpgg : px ≠ gg := by rcases hgg with h | h <;> omega
            have hgpgg : gp ≠ gg := by rcases hgg with h | h <;> omega
            have hgpf : gp ≠ gf := by omega
            have hrec5 := hrec3.keptBy hg35 (by simpa using hpf) (fun vp h => by rw [c1] at h; cases h; simpa [Value.ownBlock] using hgpf)
            have d1 : w5.cell? ⟨px, 1, none⟩ = some (.slice (some ⟨gp, 0, none⟩) (n + 1) capp) := hg35.cell c1 (by simpa using hpf)
            have hb5' : Below w.heap.size w w5 := hb3.trans (((Below.drewN (Below.refl _ w3) n4).alloc hs3 _).trans hb5)
            have hs5 := hb5'.size
            clear hg5 hb5 hk5 hgg c0 c1 c2 hfr hvp3 hblk3 ho3
            go_loopw [69] (fun i wi => ∃ k : Nat, k ≤ n + 1 ∧ i = .int .i64 k ∧ OwnF wi w.heap.size (.slice (some ⟨gg, 0, none⟩) (n + 1) capg) (mixTo (fitM A R (extM P (stepC A P E)) (stepE A P E) F) (F ++ [0]) k) ∧ w5.grownBy wi (some gg)) (fun i _ => n + 1 - (intOf i).toNat)
            case atStart => exact ⟨0, Nat.zero_le _, rfl, by rw [mixTo_zero]; exact h5, World.grownBy.refl _ _⟩
            case round =>
              obtain ⟨wi, rfl⟩ : ∃ wi : World, wi = wr := ⟨_, rfl⟩
              obtain ⟨k, hk, rfl, hoi, hgi⟩ := hrel
              have d1i : wi.cell? ⟨px, 1, none⟩ = some (.slice (some ⟨gp, 0, none⟩) (n + 1) capp) := hgi.cell d1 (by simpa using hpgg)
              by_cases hlk : k < n + 1
              · obtain ⟨rp, cp, fp⟩ := hcellp (n - k) (by rw [extM_length, hP'.out]; omega)
                have cp5 : w5.cell? ⟨gp, n - k, none⟩ = some (.float .f32 rp) := hg35.cell cp (by simpa using hgpf)
                have cpi : wi.cell? ⟨gp, n - k, none⟩ = some (.float .f32 rp) := hgi.cell cp5 (by simpa using hgpgg)
                obtain ⟨g', c', eq, _, _, _, hcelli, hfri⟩ := hoi.at_block (n := n + 1) (by simp [mixTo_length, hF'.out]) (by omega)
                obtain ⟨rfl, rfl⟩ : gg = g' ∧ capg = c' := by cases eq; exact ⟨rfl, rfl⟩
                obtain ⟨rf, cf, ff⟩ := hcelli k (by simp [mixTo_length, hF'.out]; omega)
                have hfrk := hfri k
                rw [mixTo_getD _ _ _ _ (by simp [hF'.out]; omega), if_neg (Nat.lt_irrefl k)] at ff
                clear cp cp5 hcelli hfri d1 hcellp eq
                go_wp2
                refine region_rel_tail 17 (by kernel_rfl) (by kernel_rfl) (Drawn wi) (fun _ _ _ => False) ⟨1, rfl⟩ ?_
                simp only [List.take_succ_cons, List.take_zero, List.drop_succ_cons, List.drop_zero]
                repeat (refine wpRel_draw rfl rfl (fun nq K hK => ?_); go_wp2)
                refine wpRel_nil ?_
                rintro wd ⟨nd, hwd⟩
                have cfd : wd.cell? ⟨gg, k, none⟩ = some (.float .f32 rf) := by rw [hwd]; exact cf
                have hfrd : wd.frozen? ⟨gg, k, none⟩ = false := by rw [hwd]; exact hfrk
                have hod := Lib.hid (show OwnF wd w.heap.size (.slice (some ⟨gg, 0, none⟩) (n + 1) capg) (mixTo (fitM A R (extM P (stepC A P E)) (stepE A P E) F) (F ++ [0]) k) from by rw [hwd]; exact hoi)
                have hgd : w5.grownBy wd (some gg) := by rw [hwd]; exact grownBy_trans hgi (grownBy_drewN _ _ _)
                clear hwd cf hfrk cpi hoi
                go_wp2
                refine ⟨⟨k + 1, by omega, by go_num, ?_, grownBy_trans hgd (grownBy_setCell _ _ _ _)⟩, by simp [intOf]; omega⟩
                have e1 : (mixTo (fitM A R (extM P (stepC A P E)) (stepE A P E) F) (F ++ [0]) k).length = n + 1 := by simp [mixTo_length, hF'.out]
                have e2 : (fitM A R (extM P (stepC A P E)) (stepE A P E) F).getD k 0 = fop .add .f32 ((F ++ [0]).getD k 0) (fop .mul .f32 (fitT A R (stepE A P E) F) ((extM P (stepC A P E)).getD (n - k) 0)) := by
                  unfold fitM; rw [tab_getD _ _ _ (by rw [hF'.out]; exact hlk), hF'.out]
                rw [← mixTo_set, e2]
                have h9 := hod.out
                rw [← e1] at h9 ⊢
                refine h9.stored (FV.op ff (FV.op (FV.op (FV.op ?_ frg _) fe3 _) fp _) _)
                rw [hF'.out]; exact frn
              · go_wp2
                obtain rfl : k = n + 1 := by omega
                rw [mixTo_all _ _ _ (by simp [hF'.out]) (by simp [fitM, tab_length, hF'.out])] at hoi
                refine ⟨⟨n + 1, wo.heap.size, _, _, _, by omega, by omega, by go_num, by rw [extM_length, hP'.out], by simp [fitM, tab_length, hF'.out], hE3, hrec5.keptBy hgi (by simpa using hpgg) (fun vp h => by rw [d1] at h; cases h; simpa [Value.ownBlock] using hgpgg), hoi, hb5'.grown hgi hs5 (fun q hq => by cases hq; exact hgg1), ?_, ?_⟩, by simp [intOf]; omega⟩
                · have := hgi.size
                  have := hg35.size
                  omega
                · rw [← hgo'.out]
                  have e3 : A.length - (n + 1) = m := by have := hm'.out; omega
                  rw [e3]
                  simp only [solveGo, hE3, if_true]
      · have e4 : A.length - n = 0 := by omega
        rw [e4] at hgo
        have hgo' := Lib.hid hgo
        clear hgo e4 hP hF
        go_wp2
        go_ret2
        refine ⟨_, _, rfl, ?_, hbw⟩
        rw [← hgo'.out]
        exact ⟨rfl, hof⟩
end Go.Proofs.Ytiappmhlmephjaa
