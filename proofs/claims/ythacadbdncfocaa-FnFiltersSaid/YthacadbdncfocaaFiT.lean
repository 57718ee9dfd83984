/- Plain: the waves of FnFilters, checked by the kernel. -/
import Derived.Test.YthacadbdncfocaaFiQ
namespace Go.Proofs.Ythacadbdncfocaa
open Go
theorem wave0 : WaveOk 0 := wave_of [1060439283, 1060439283, 1060439283, 1060439283, 1060439283, 1060439283, 1060439283, 1060439283, 1060439283, 1060439283, 1060439283, 1060439283] 1073741824 (by decide +kernel) (by decide +kernel) (by decide +kernel) (by decide +kernel) (by decide +kernel)
theorem wave1 : WaveOk 1 := wave_of [1060439283, 1062525745, 1064076126, 1065030846, 1065353216, 1065030846, 1064076126, 1062525745, 1060439283, 1057896922, 1053028117, 1044891074] 1073419454 (by decide +kernel) (by decide +kernel) (by decide +kernel) (by decide +kernel) (by decide +kernel)
theorem wave2 : WaveOk 2 := wave_of [1060439283, 1064076126, 1065353216, 1064076126, 1060439283, 1053028117, 2147483648, 3200511765, 3207922931, 3211559774, 3212836864, 3211559774] 1072464734 (by decide +kernel) (by decide +kernel) (by decide +kernel) (by decide +kernel) (by decide +kernel)
theorem wave3 : WaveOk 3 := wave_of [1060439283, 1065030846, 1064076126, 1057896922, 2147483648, 3205380570, 3211559774, 3212514494, 3207922931, 3192374722, 1053028117, 1062525745] 1070914353 (by decide +kernel) (by decide +kernel) (by decide +kernel) (by decide +kernel) (by decide +kernel)
theorem wave4 : WaveOk 4 := wave_of [1060439283, 1065353216, 1060439283, 2147483648, 3207922931, 3212836864, 3207922931, 0, 1060439283, 1065353216, 1060439283, 2147483648] 1068827891 (by decide +kernel) (by decide +kernel) (by decide +kernel) (by decide +kernel) (by decide +kernel)
theorem wave5 : WaveOk 5 := wave_of [1060439283, 1065030846, 1053028117, 3205380570, 3212836864, 3205380570, 1053028117, 1065030846, 1060439283, 3192374722, 3211559774, 3210009393] 1066285530 (by decide +kernel) (by decide +kernel) (by decide +kernel) (by decide +kernel) (by decide +kernel)
theorem wave6 : WaveOk 6 := wave_of [1060439283, 1064076126, 2147483648, 3211559774, 3207922931, 1053028117, 1065353216, 1053028117, 3207922931, 3211559774, 0, 1064076126] 1061416725 (by decide +kernel) (by decide +kernel) (by decide +kernel) (by decide +kernel) (by decide +kernel)
theorem wave7 : WaveOk 7 := wave_of [1060439283, 1062525745, 3200511765, 3212514494, 0, 1065030846, 1053028117, 3210009393, 3207922931, 1057896922, 1064076126, 3192374722] 1053279682 (by decide +kernel) (by decide +kernel) (by decide +kernel) (by decide +kernel) (by decide +kernel)
theorem wave8 : WaveOk 8 := wave_of [1060439283, 1060439283, 3207922931, 3207922931, 1060439283, 1060439283, 3207922931, 3207922931, 1060439283, 1060439283, 3207922931, 3207922931] 2147483648 (by decide +kernel) (by decide +kernel) (by decide +kernel) (by decide +kernel) (by decide +kernel)
theorem wave9 : WaveOk 9 := wave_of [1060439283, 1057896922, 3211559774, 3192374722, 1065353216, 3192374722, 3211559774, 1057896922, 1060439283, 3210009393, 3200511765, 1065030846] 3200763330 (by decide +kernel) (by decide +kernel) (by decide +kernel) (by decide +kernel) (by decide +kernel)
theorem wave10 : WaveOk 10 := wave_of [1060439283, 1053028117, 3212836864, 1053028117, 1060439283, 3211559774, 0, 1064076126, 3207922931, 3200511765, 1065353216, 3200511765] 3208900373 (by decide +kernel) (by decide +kernel) (by decide +kernel) (by decide +kernel) (by decide +kernel)
theorem wave11 : WaveOk 11 := wave_of [1060439283, 1044891074, 3211559774, 1062525745, 2147483648, 3210009393, 1064076126, 3192374722, 3207922931, 1065030846, 3200511765, 3205380570] 3213769178 (by decide +kernel) (by decide +kernel) (by decide +kernel) (by decide +kernel) (by decide +kernel)
theorem wave12 : WaveOk 12 := wave_of [1060439283, 2147483648, 3207922931, 1065353216, 3207922931, 0, 1060439283, 3212836864, 1060439283, 2147483648, 3207922931, 1065353216] 3216311539 (by decide +kernel) (by decide +kernel) (by decide +kernel) (by decide +kernel) (by decide +kernel)
theorem wave13 : WaveOk 13 := wave_of [1060439283, 3192374722, 3200511765, 1062525745, 3212836864, 1062525745, 3200511765, 3192374722, 1060439283, 3212514494, 1064076126, 3205380570] 3218398001 (by decide +kernel) (by decide +kernel) (by decide +kernel) (by decide +kernel) (by decide +kernel)
theorem wave14 : WaveOk 14 := wave_of [1060439283, 3200511765, 0, 1053028117, 3207922931, 1064076126, 3212836864, 1064076126, 3207922931, 1053028117, 2147483648, 3200511765] 3219948382 (by decide +kernel) (by decide +kernel) (by decide +kernel) (by decide +kernel) (by decide +kernel)
theorem wave15 : WaveOk 15 := wave_of [1060439283, 3205380570, 1053028117, 3192374722, 0, 1044891074, 3200511765, 1057896922, 3207922931, 1062525745, 3211559774, 1065030846] 3220903102 (by decide +kernel) (by decide +kernel) (by decide +kernel) (by decide +kernel) (by decide +kernel)
theorem wave16 : WaveOk 16 := wave_of [1060439283, 3207922931, 1060439283, 3207922931, 1060439283, 3207922931, 1060439283, 3207922931, 1060439283, 3207922931, 1060439283, 3207922931] 3221225472 (by decide +kernel) (by decide +kernel) (by decide +kernel) (by decide +kernel) (by decide +kernel)
theorem wave_ok {T : Nat} (h : T < 17) : WaveOk T := by
  have hc : T = 0 ∨ T = 1 ∨ T = 2 ∨ T = 3 ∨ T = 4 ∨ T = 5 ∨ T = 6 ∨ T = 7 ∨ T = 8 ∨ T = 9 ∨ T = 10 ∨ T = 11 ∨ T = 12 ∨ T = 13 ∨ T = 14 ∨ T = 15 ∨ T = 16 := by omega
  rcases hc with rfl | rfl | rfl | rfl | rfl | rfl | rfl | rfl | rfl | rfl | rfl | rfl | rfl | rfl | rfl | rfl | rfl
  · exact wave0
  · exact wave1
  · exact wave2
  · exact wave3
  · exact wave4
  · exact wave5
  · exact wave6
  · exact wave7
  · exact wave8
  · exact wave9
  · exact wave10
  · exact wave11
  · exact wave12
  · exact wave13
  · exact wave14
  · exact wave15
  · exact wave16
end Go.Proofs.Ythacadbdncfocaa
