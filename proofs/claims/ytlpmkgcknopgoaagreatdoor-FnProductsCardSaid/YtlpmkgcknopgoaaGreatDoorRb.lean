/- Walks: impl.readBits, impl.readTexts of numbers, impl.ReadNumbers. -/
import Derived.Test.YtlpmkgcknopgoaaGreatDoorBtx
import Derived.Test.YtlpmkgcknopgoaaGreatDoorPu
import Derived.Test.YtlpmkgcknopgoaaGreatDoorSplt
namespace Go.Proofs.YtlpmkgcknopgoaaGreatDoor
open Go Go.RowKit

/-- What the package variables give. -/
structure Dr (w : World) : Prop where
  tab : w.cell? ⟨8, 15, none⟩ = some (.int .u8 4)
  syn : ∃ te pe, w.cell? ⟨2, 0, none⟩ = some (.iface te pe)
  rng : ∃ te pe, w.cell? ⟨3, 0, none⟩ = some (.iface te pe)
  mxl : ∃ m, w.cell? ⟨4, 0, none⟩ = some (.int .i64 m)
theorem Dr.mono {w w' : World} (h : Dr w) (hb : Below w.heap.size w w') : Dr w' := by
  obtain ⟨h1, ⟨a, b, h2⟩, ⟨c, d, h3⟩, ⟨m, h4⟩⟩ := h
  have k := (bcell hb).1
  exact ⟨(k _ _ (block_lt h1)).trans h1, ⟨a, b, (k _ _ (block_lt h2)).trans h2⟩, ⟨c, d, (k _ _ (block_lt h3)).trans h3⟩, ⟨m, (k _ _ (block_lt h4)).trans h4⟩⟩
/-- ParseUint's result behind strconv's wrapper. -/
def PwRes (t : ByteArray) (u : Value) : Prop :=
  (∃ n : Nat, n < 4294967296 ∧ u = .tuple #[.int .u64 (n : Int), .nilIface] ∧ ∀ x, x < 4294967296 → t = hexT x → n = x) ∨
  (∃ (m : Int) (N : Nat), u = .tuple #[.int .u64 m, .iface 141 (.pointer (some ⟨N, 0, none⟩))] ∧ ∀ x, x < 4294967296 → t ≠ hexT x)
set_option maxRecDepth 100000 in
set_option maxHeartbeats 800000 in
theorem parseWrap_any (w : World) (t : ByteArray) (hmax : t.size ≤ 1048576) (hD : Dr w) :
    Calls Tryz.prog 90 #[.string t, .int .i64 16, .int .i64 32] w fun e w' => ∃ u, e = .returned u ∧ PwRes t u ∧ Below w.heap.size w w' := by
  have HP := Lib.hid (parseUint16_any w t hmax)
  have HD := Lib.hid hD
  clear hD
  go_enter Tryz.func90, Tryz.ntmps90
  go_wp2_with fail
  refine HP.out.mono ?_
  clear HP
  rintro e w1 ⟨u, rfl, hu, b1⟩
  have B1 := Lib.hid b1
  clear b1
  rcases hu with ⟨n, hn, rfl, hx⟩ | ⟨m, c, hc, rfl, hx⟩
  · have HX := Lib.hid hx
    clear hx
    go_wp2
    go_ret2
    exact ⟨_, rfl, .inl ⟨n, hn, rfl, HX.out⟩, B1.out⟩
  · have HX := Lib.hid hx
    have D1 := HD.out.mono B1.out
    obtain ⟨te, pe, hs⟩ := D1.syn
    obtain ⟨te2, pe2, hr⟩ := D1.rng
    have HS := Lib.hid (Tryz.strconv_toError_syntax ⟨#[80, 97, 114, 115, 101, 85, 105, 110, 116]⟩ t 16 32 _ w1 (by omega) hs (.inr ⟨te, pe, rfl⟩))
    have HR := Lib.hid (Tryz.strconv_toError_range ⟨#[80, 97, 114, 115, 101, 85, 105, 110, 116]⟩ t 16 32 _ w1 (by omega) hr (.inr ⟨te2, pe2, rfl⟩))
    clear hx D1 hs hr
    rcases hc with rfl | rfl
    · go_wp2_with fail
      refine HR.out.mono ?_
      rintro e w2 ⟨N, rfl, -, -, b2⟩
      go_wp2
      go_ret2
      exact ⟨_, rfl, .inr ⟨m, N, rfl, HX.out⟩, B1.out.trans (b2.mono B1.out.size)⟩
    · go_wp2_with fail
      refine HS.out.mono ?_
      rintro e w2 ⟨N, rfl, -, -, b2⟩
      go_wp2
      go_ret2
      exact ⟨_, rfl, .inr ⟨m, N, rfl, HX.out⟩, B1.out.trans (b2.mono B1.out.size)⟩
theorem run_frombits (w : World) (n : Nat) (h : n < 4294967296) : (callFunc 55 #[.int .u32 (n : Int)]).run Tryz.prog w = .ok (.value (.float .f32 n)) w := by
  kernel_rfl
def RbRes (t : ByteArray) (u : Value) : Prop := (∃ n, rb t = some n ∧ u = .tuple #[.float .f32 n, .bool true]) ∨ (rb t = none ∧ ∃ r, u = .tuple #[.float .f32 r, .bool false])
theorem neq_bytes {a b : ByteArray} (h : ¬ a = b) : ¬ a.toList = b.toList := fun e => h (by
  rw [ByteArray.toList_eq, ByteArray.toList_eq] at e
  exact ByteArray.ext (Array.toList_inj.1 e))
set_option maxRecDepth 100000 in
set_option maxHeartbeats 800000 in
theorem readBits_any (w : World) (t : ByteArray) (hmax : t.size ≤ 1048576) (hD : Dr w) :
    Calls Tryz.prog 70 #[.string t] w fun e w' => ∃ u, e = .returned u ∧ RbRes t u ∧ Below w.heap.size w w' := by
  have HP := Lib.hid (parseWrap_any w t hmax hD)
  have HD := Lib.hid hD
  have hfb := run_frombits
  clear hD
  go_enter Tryz.func70, Tryz.ntmps70
  go_wp2_with fail
  refine HP.out.mono ?_
  clear HP
  rintro e w1 ⟨u, rfl, hu, b1⟩
  have B1 := Lib.hid b1
  clear b1
  rcases hu with ⟨n, hn, rfl, hx⟩ | ⟨m, N, rfl, hx⟩
  · have HX := Lib.hid hx
    have hf : FV .f32 n (can .f32 n) := FV.can (by rw [width32]; exact hn)
    have HT := Lib.hid (bitsText_any w1 n (can .f32 n) hf (HD.out.mono B1.out).tab)
    have HC := Lib.hid (can_can .f32 n)
    have HL : Hid (can .f32 n < 4294967296) := Lib.hid hf.lt
    clear hx hf
    obtain ⟨x, hxx⟩ : ∃ x, can .f32 n = x := ⟨_, rfl⟩
    rw [hxx] at HT HC HL
    have HXX := Lib.hid hxx
    clear hxx
    go_wp2_with fail
    refine HT.out.mono ?_
    rintro e w2 ⟨rfl, b2⟩
    have B2 := Lib.hid (B1.out.trans (b2.mono B1.out.size))
    clear b2 HT hfb
    by_cases he : hexT x = t
    · have HR : Hid (rb t = some n) := Lib.hid (by
        have h1 := HX.out x HL.out he.symm
        rw [h1]
        exact rb_some ⟨HL.out, HC.out, he.symm⟩)
      subst he
      clear HX HC HL
      go_wp2
      go_ret2
      exact ⟨_, rfl, .inl ⟨n, HR.out, rfl⟩, B2.out⟩
    · have HR : Hid (rb t = none) := Lib.hid (rb_none fun k hk => he (by
        have h1 := HX.out k hk.1 hk.2.2
        rw [← HXX.out, h1, hk.2.1]
        exact hk.2.2.symm))
      have hne := neq_bytes he
      have hne2 : ((hexT x).toList == t.toList) = false := by rw [beq_eq_false_iff_ne]; exact hne
      clear HX HC HL he
      go_wp2
      go_ret2
      exact ⟨_, rfl, .inr ⟨HR.out, n, rfl⟩, B2.out⟩
  · have HR : Hid (rb t = none) := Lib.hid (rb_none fun k hk => hx k hk.1 hk.2.2)
    clear hx
    go_wp2
    go_ret2
    exact ⟨_, rfl, .inr ⟨HR.out, 0, rfl⟩, B1.out⟩
end Go.Proofs.YtlpmkgcknopgoaaGreatDoor
