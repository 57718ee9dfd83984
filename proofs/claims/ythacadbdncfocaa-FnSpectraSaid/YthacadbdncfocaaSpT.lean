/- Plain: the phasors of i / 32 turns, checked by the kernel. Printed by wip/gen/phas.py. -/
import Derived.Test.YthacadbdncfocaaSpd
namespace Go.Proofs.Ythacadbdncfocaa
open Go Go.RowKit

def fwT : List Nat := [0, 4584664420663164928, 4589168020290535424, 4591419820104220672, 4593671619917905920, 4594797519824748544, 4595923419731591168, 4597049319638433792, 4598175219545276416, 4598738169498697728, 4599301119452119040, 4599864069405540352, 4600427019358961664, 4600989969312382976, 4601552919265804288, 4602115869219225600, 4602678819172646912, 4602960294149357568, 4603241769126068224, 4603523244102778880, 4603804719079489536, 4604086194056200192, 4604367669032910848, 4604649144009621504, 4604930618986332160, 4605212093963042816, 4605493568939753472, 4605775043916464128, 4606056518893174784, 4606337993869885440, 4606619468846596096, 4606900943823306752, 9223372036854775808]
def cN : List Int := [67108864, 65819384, 62000504, 55798980, 47453132, 37283688, 25681450, 13092290, 0, -13092290, -25681450, -37283688, -47453132, -55798980, -62000504, -65819384, -67108864, -65819384, -62000504, -55798980, -47453132, -37283688, -25681450, -13092290, 0, 13092290, 25681450, 37283688, 47453132, 55798980, 62000504, 65819384]
def sN : List Int := [0, 13092290, 25681450, 37283688, 47453132, 55798980, 62000504, 65819384, 67108864, 65819384, 62000504, 55798980, 47453132, 37283688, 25681450, 13092290, 0, -13092290, -25681450, -37283688, -47453132, -55798980, -62000504, -65819384, -67108864, -65819384, -62000504, -55798980, -47453132, -37283688, -25681450, -13092290]
theorem ph0 : phB 0 1065353216 0 (67108864) (0) = true := by decide +kernel
theorem ph1 : phB 4584664420663164928 1065030846 1044891074 (65819384) (13092290) = true := by decide +kernel
theorem ph2 : phB 4589168020290535424 1064076126 1053028117 (62000504) (25681450) = true := by decide +kernel
theorem ph3 : phB 4591419820104220672 1062525745 1057896922 (55798980) (37283688) = true := by decide +kernel
theorem ph4 : phB 4593671619917905920 1060439283 1060439283 (47453132) (47453132) = true := by decide +kernel
theorem ph5 : phB 4594797519824748544 1057896922 1062525745 (37283688) (55798980) = true := by decide +kernel
theorem ph6 : phB 4595923419731591168 1053028117 1064076126 (25681450) (62000504) = true := by decide +kernel
theorem ph7 : phB 4597049319638433792 1044891074 1065030846 (13092290) (65819384) = true := by decide +kernel
theorem ph8 : phB 4598175219545276416 0 1065353216 (0) (67108864) = true := by decide +kernel
theorem ph9 : phB 4598738169498697728 3192374722 1065030846 (-13092290) (65819384) = true := by decide +kernel
theorem ph10 : phB 4599301119452119040 3200511765 1064076126 (-25681450) (62000504) = true := by decide +kernel
theorem ph11 : phB 4599864069405540352 3205380570 1062525745 (-37283688) (55798980) = true := by decide +kernel
theorem ph12 : phB 4600427019358961664 3207922931 1060439283 (-47453132) (47453132) = true := by decide +kernel
theorem ph13 : phB 4600989969312382976 3210009393 1057896922 (-55798980) (37283688) = true := by decide +kernel
theorem ph14 : phB 4601552919265804288 3211559774 1053028117 (-62000504) (25681450) = true := by decide +kernel
theorem ph15 : phB 4602115869219225600 3212514494 1044891074 (-65819384) (13092290) = true := by decide +kernel
theorem ph16 : phB 4602678819172646912 3212836864 0 (-67108864) (0) = true := by decide +kernel
theorem ph17 : phB 4602960294149357568 3212514494 3192374722 (-65819384) (-13092290) = true := by decide +kernel
theorem ph18 : phB 4603241769126068224 3211559774 3200511765 (-62000504) (-25681450) = true := by decide +kernel
theorem ph19 : phB 4603523244102778880 3210009393 3205380570 (-55798980) (-37283688) = true := by decide +kernel
theorem ph20 : phB 4603804719079489536 3207922931 3207922931 (-47453132) (-47453132) = true := by decide +kernel
theorem ph21 : phB 4604086194056200192 3205380570 3210009393 (-37283688) (-55798980) = true := by decide +kernel
theorem ph22 : phB 4604367669032910848 3200511765 3211559774 (-25681450) (-62000504) = true := by decide +kernel
theorem ph23 : phB 4604649144009621504 3192374722 3212514494 (-13092290) (-65819384) = true := by decide +kernel
theorem ph24 : phB 4604930618986332160 0 3212836864 (0) (-67108864) = true := by decide +kernel
theorem ph25 : phB 4605212093963042816 1044891074 3212514494 (13092290) (-65819384) = true := by decide +kernel
theorem ph26 : phB 4605493568939753472 1053028117 3211559774 (25681450) (-62000504) = true := by decide +kernel
theorem ph27 : phB 4605775043916464128 1057896922 3210009393 (37283688) (-55798980) = true := by decide +kernel
theorem ph28 : phB 4606056518893174784 1060439283 3207922931 (47453132) (-47453132) = true := by decide +kernel
theorem ph29 : phB 4606337993869885440 1062525745 3205380570 (55798980) (-37283688) = true := by decide +kernel
theorem ph30 : phB 4606619468846596096 1064076126 3200511765 (62000504) (-25681450) = true := by decide +kernel
theorem ph31 : phB 4606900943823306752 1065030846 3192374722 (65819384) (-13092290) = true := by decide +kernel
theorem ph32 : phB 9223372036854775808 1065353216 2147483648 (67108864) (0) = true := by decide +kernel
/-- The parts of turns, and the phasors' parts in counts of 2 to the -26. -/
def cE (j : Nat) : Int := cN.getD j 0
def sE (j : Nat) : Int := sN.getD j 0
def frB (k T : Nat) : Bool := phOkA (argX k (tW T)) && (frcF (argX k (tW T)) == fwT.getD (jx k T) 0 || (jx k T == 0 && frcF (argX k (tW T)) == 9223372036854775808))
theorem ph_all {j : Nat} (h : j < 32) : ∃ c s, phB (fwT.getD j 0) c s (cE j) (sE j) = true := by
  have hc : j = 0 ∨ j = 1 ∨ j = 2 ∨ j = 3 ∨ j = 4 ∨ j = 5 ∨ j = 6 ∨ j = 7 ∨ j = 8 ∨ j = 9 ∨ j = 10 ∨ j = 11 ∨ j = 12 ∨ j = 13 ∨ j = 14 ∨ j = 15 ∨ j = 16 ∨ j = 17 ∨ j = 18 ∨ j = 19 ∨ j = 20 ∨ j = 21 ∨ j = 22 ∨ j = 23 ∨ j = 24 ∨ j = 25 ∨ j = 26 ∨ j = 27 ∨ j = 28 ∨ j = 29 ∨ j = 30 ∨ j = 31 := by omega
  rcases hc with rfl | rfl | rfl | rfl | rfl | rfl | rfl | rfl | rfl | rfl | rfl | rfl | rfl | rfl | rfl | rfl | rfl | rfl | rfl | rfl | rfl | rfl | rfl | rfl | rfl | rfl | rfl | rfl | rfl | rfl | rfl | rfl
  · exact ⟨1065353216, 0, ph0⟩
  · exact ⟨1065030846, 1044891074, ph1⟩
  · exact ⟨1064076126, 1053028117, ph2⟩
  · exact ⟨1062525745, 1057896922, ph3⟩
  · exact ⟨1060439283, 1060439283, ph4⟩
  · exact ⟨1057896922, 1062525745, ph5⟩
  · exact ⟨1053028117, 1064076126, ph6⟩
  · exact ⟨1044891074, 1065030846, ph7⟩
  · exact ⟨0, 1065353216, ph8⟩
  · exact ⟨3192374722, 1065030846, ph9⟩
  · exact ⟨3200511765, 1064076126, ph10⟩
  · exact ⟨3205380570, 1062525745, ph11⟩
  · exact ⟨3207922931, 1060439283, ph12⟩
  · exact ⟨3210009393, 1057896922, ph13⟩
  · exact ⟨3211559774, 1053028117, ph14⟩
  · exact ⟨3212514494, 1044891074, ph15⟩
  · exact ⟨3212836864, 0, ph16⟩
  · exact ⟨3212514494, 3192374722, ph17⟩
  · exact ⟨3211559774, 3200511765, ph18⟩
  · exact ⟨3210009393, 3205380570, ph19⟩
  · exact ⟨3207922931, 3207922931, ph20⟩
  · exact ⟨3205380570, 3210009393, ph21⟩
  · exact ⟨3200511765, 3211559774, ph22⟩
  · exact ⟨3192374722, 3212514494, ph23⟩
  · exact ⟨0, 3212836864, ph24⟩
  · exact ⟨1044891074, 3212514494, ph25⟩
  · exact ⟨1053028117, 3211559774, ph26⟩
  · exact ⟨1057896922, 3210009393, ph27⟩
  · exact ⟨1060439283, 3207922931, ph28⟩
  · exact ⟨1062525745, 3205380570, ph29⟩
  · exact ⟨1064076126, 3200511765, ph30⟩
  · exact ⟨1065030846, 3192374722, ph31⟩
theorem ph_of {t : Nat} {f c s : Nat} {N M : Int} (hA : phOkA t = true) (hf : frcF t = f) (h : phB f c s N M = true) : phOk t = true ∧ RQ .f32 (phRe t) ((N : Rat) * sc (-26)) ∧ RQ .f32 (phIm t) ((M : Rat) * sc (-26)) := by
  unfold phB at h
  simp only [Bool.and_eq_true, beq_iff_eq] at h
  obtain ⟨h1, h2, h3, h4, h5⟩ := h
  refine ⟨?_, ?_, ?_⟩
  · unfold phOk
    rw [hA, hf, h1]
    rfl
  · unfold phRe
    rw [hf, h2]
    exact rq26 h4
  · unfold phIm
    rw [hf, h3]
    exact rq26 h5
/-- All turns and places of the law. -/
theorem fr0 : ((List.range 41).all fun T => frB 0 T) = true := by decide +kernel
theorem fr1 : ((List.range 41).all fun T => frB 1 T) = true := by decide +kernel
theorem fr2 : ((List.range 41).all fun T => frB 2 T) = true := by decide +kernel
theorem fr3 : ((List.range 41).all fun T => frB 3 T) = true := by decide +kernel
theorem fr4 : ((List.range 41).all fun T => frB 4 T) = true := by decide +kernel
theorem fr5 : ((List.range 41).all fun T => frB 5 T) = true := by decide +kernel
theorem fr6 : ((List.range 41).all fun T => frB 6 T) = true := by decide +kernel
theorem fr7 : ((List.range 41).all fun T => frB 7 T) = true := by decide +kernel
theorem fr8 : ((List.range 41).all fun T => frB 8 T) = true := by decide +kernel
theorem fr9 : ((List.range 41).all fun T => frB 9 T) = true := by decide +kernel
theorem fr10 : ((List.range 41).all fun T => frB 10 T) = true := by decide +kernel
theorem fr11 : ((List.range 41).all fun T => frB 11 T) = true := by decide +kernel
theorem fr12 : ((List.range 41).all fun T => frB 12 T) = true := by decide +kernel
theorem fr13 : ((List.range 41).all fun T => frB 13 T) = true := by decide +kernel
theorem fr14 : ((List.range 41).all fun T => frB 14 T) = true := by decide +kernel
theorem fr_all {k T : Nat} (hk : k < 15) (hT : T < 41) : frB k T = true := by
  have hc : k = 0 ∨ k = 1 ∨ k = 2 ∨ k = 3 ∨ k = 4 ∨ k = 5 ∨ k = 6 ∨ k = 7 ∨ k = 8 ∨ k = 9 ∨ k = 10 ∨ k = 11 ∨ k = 12 ∨ k = 13 ∨ k = 14 := by omega
  rcases hc with rfl | rfl | rfl | rfl | rfl | rfl | rfl | rfl | rfl | rfl | rfl | rfl | rfl | rfl | rfl
  · exact List.all_eq_true.1 fr0 T (List.mem_range.2 hT)
  · exact List.all_eq_true.1 fr1 T (List.mem_range.2 hT)
  · exact List.all_eq_true.1 fr2 T (List.mem_range.2 hT)
  · exact List.all_eq_true.1 fr3 T (List.mem_range.2 hT)
  · exact List.all_eq_true.1 fr4 T (List.mem_range.2 hT)
  · exact List.all_eq_true.1 fr5 T (List.mem_range.2 hT)
  · exact List.all_eq_true.1 fr6 T (List.mem_range.2 hT)
  · exact List.all_eq_true.1 fr7 T (List.mem_range.2 hT)
  · exact List.all_eq_true.1 fr8 T (List.mem_range.2 hT)
  · exact List.all_eq_true.1 fr9 T (List.mem_range.2 hT)
  · exact List.all_eq_true.1 fr10 T (List.mem_range.2 hT)
  · exact List.all_eq_true.1 fr11 T (List.mem_range.2 hT)
  · exact List.all_eq_true.1 fr12 T (List.mem_range.2 hT)
  · exact List.all_eq_true.1 fr13 T (List.mem_range.2 hT)
  · exact List.all_eq_true.1 fr14 T (List.mem_range.2 hT)
theorem ph_arg {k T : Nat} (hk : k < 15) (hT : T < 41) : phOk (argX k (tW T)) = true ∧ RQ .f32 (phRe (argX k (tW T))) ((cE (jx k T) : Rat) * sc (-26)) ∧ RQ .f32 (phIm (argX k (tW T))) ((sE (jx k T) : Rat) * sc (-26)) := by
  have h := fr_all hk hT
  unfold frB at h
  simp only [Bool.and_eq_true, Bool.or_eq_true, beq_iff_eq] at h
  obtain ⟨hA, h⟩ := h
  have hj : jx k T < 32 := by unfold jx; omega
  rcases h with h | ⟨h0, h⟩
  · obtain ⟨c, s, hp⟩ := ph_all hj
    exact ph_of hA h hp
  · rw [h0]
    exact ph_of hA h ph32
/-- The phasors multiply nearly as turns are added. -/
theorem mul_table : ((List.range 32).all fun i => (List.range 32).all fun l => decide ((cE i * cE l - sE i * sE l - 67108864 * cE ((i + l) % 32)).natAbs ≤ 268435456) && decide ((cE i * sE l + sE i * cE l - 67108864 * sE ((i + l) % 32)).natAbs ≤ 268435456)) = true := by decide +kernel
theorem mul_near {i l : Nat} (hi : i < 32) (hl : l < 32) : (cE i * cE l - sE i * sE l - 67108864 * cE ((i + l) % 32)).natAbs ≤ 268435456 ∧ (cE i * sE l + sE i * cE l - 67108864 * sE ((i + l) % 32)).natAbs ≤ 268435456 := by
  have := List.all_eq_true.1 (List.all_eq_true.1 mul_table i (List.mem_range.2 hi)) l (List.mem_range.2 hl)
  simpa using this
theorem size_table : ((List.range 32).all fun i => decide ((cE i).natAbs ≤ 67108864) && (decide ((sE i).natAbs ≤ 67108864) && decide ((cE i * cE i + sE i * sE i - 67108864 * 67108864).natAbs ≤ 268435456))) = true := by decide +kernel
theorem size_e {i : Nat} (hi : i < 32) : (cE i).natAbs ≤ 67108864 ∧ (sE i).natAbs ≤ 67108864 ∧ (cE i * cE i + sE i * sE i - 67108864 * 67108864).natAbs ≤ 268435456 := by
  have := List.all_eq_true.1 size_table i (List.mem_range.2 hi)
  simpa using this
theorem jx_add (k l T : Nat) : jx (k + l) T = (jx k T + jx l T) % 32 := by
  unfold jx
  have e : -((k + l : Nat) : Int) * ((T : Int) - 16) = -(k : Int) * ((T : Int) - 16) + -(l : Int) * ((T : Int) - 16) := by
    rw [← Int.add_mul]; congr 1; omega
  rw [e]
  generalize -(k : Int) * ((T : Int) - 16) = x
  generalize -(l : Int) * ((T : Int) - 16) = y
  omega
theorem jx_lt (k T : Nat) : jx k T < 32 := by unfold jx; omega
end Go.Proofs.Ythacadbdncfocaa
