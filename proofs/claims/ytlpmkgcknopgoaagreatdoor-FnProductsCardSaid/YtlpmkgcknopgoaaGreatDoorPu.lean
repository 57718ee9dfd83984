/- Walks: strconv.ParseUint at the base 16. -/
import Derived.Test.YtlpmkgcknopgoaaGreatDoorRdP
import Derived.Lib.Strings
import Derived.Lib.Walk
import Derived.Lib.ConvBytes
import Derived.Lib.AtoiAllMem
import Derived.Lib.AtoiErrMem
import Derived.Laws.Strings3
import Derived.Laws.Closers25
import Derived.Laws.Closers25b
import Derived.BigCall
import Derived.BigGuard
namespace Go.Proofs.YtlpmkgcknopgoaaGreatDoor
open Go Go.RowKit

set_option maxRecDepth 100000 in
set_option maxHeartbeats 400000 in
theorem lower_any (w : World) (b : Int) :
    Calls Tryz.prog 115 #[.int .u8 b] w fun e w' => e = .returned (.int .u8 (bits .or .u8 b 32)) ∧ w' = w := by
  go_enter Tryz.func115, Tryz.ntmps115
  go_wp2
  go_ret
  exact ⟨rfl, rfl⟩
theorem or_small (c : Nat) (h0 : 97 ≤ c) (h1 : c ≤ 102) : bits .or .u8 (c : Int) 32 = (c : Int) := by
  have : c = 97 ∨ c = 98 ∨ c = 99 ∨ c = 100 ∨ c = 101 ∨ c = 102 := by omega
  rcases this with rfl | rfl | rfl | rfl | rfl | rfl <;> decide +kernel
/-- What reading at the base 16 hands back: a number, just that of eight small digits; or an error, at no eight small digits. -/
def PuRes (t : ByteArray) (u : Value) : Prop :=
  (∃ n : Nat, n < 4294967296 ∧ u = .tuple #[.int .u64 (n : Int), .nilIface] ∧ ∀ x, x < 4294967296 → t = hexT x → n = x) ∨
  (∃ m c : Int, (c = 1 ∨ c = 2) ∧ u = .tuple #[.int .u64 m, .iface 138 (.int .i64 c)] ∧ ∀ x, x < 4294967296 → t ≠ hexT x)
def PuPost (t : ByteArray) (w : World) (e : Ending) (w' : World) : Prop := ∃ u, e = .returned u ∧ PuRes t u ∧ Below w.heap.size w w'
theorem PuPost.ok {t : ByteArray} {w w' : World} (n : Nat) (a : Int) (ha : a = n) (hn : n < 4294967296) (hx : ∀ x, x < 4294967296 → t = hexT x → n = x) (hb : Below w.heap.size w w') :
    PuPost t w (.returned (.tuple #[.int .u64 a, .nilIface])) w' := by subst ha; exact ⟨_, rfl, .inl ⟨n, hn, rfl, hx⟩, hb⟩
theorem PuPost.bad {t : ByteArray} {w w' : World} {m c : Int} (hc : c = 1 ∨ c = 2) (hx : ∀ x, x < 4294967296 → t ≠ hexT x) (hb : Below w.heap.size w w') :
    PuPost t w (.returned (.tuple #[.int .u64 m, .iface 138 (.int .i64 c)])) w' := ⟨_, rfl, .inr ⟨m, c, hc, rfl, hx⟩, hb⟩
theorem below_bytesWorld (w : World) (e : TypeId) (t : ByteArray) : Below w.heap.size w (Lib.bytesWorld w e t) := Lib.bytesWorld_below w e t

set_option maxHeartbeats 8000000 in
set_option maxRecDepth 100000 in
theorem parseUint16_any (w : World) (t : ByteArray) (hmax : t.size ≤ 1048576) :
    Calls Tryz.prog 100 #[.string t, .int .i64 16, .int .i64 32] w (PuPost t w) := by
  by_cases hz : t.size = 0
  · have h0 : ∀ x, x < 4294967296 → t ≠ hexT x := fun x _ h => by rw [h, hexT_size] at hz; omega
    have H0 := Lib.hid h0
    have hemp : t.toList.isEmpty = true := by
      rw [← decide_eq_emptyBytes]
      exact decide_eq_true (ByteArray.ext (by apply Array.eq_empty_of_size_eq_zero; exact hz))
    clear h0 hz
    go_enter Tryz.func100, Tryz.ntmps100
    go_wp2
    go_ret2
    exact PuPost.bad (.inr rfl) H0.out (Below.refl _ _)
  · have hemp : t.toList.isEmpty = false := by
      rw [← decide_eq_emptyBytes]
      exact decide_eq_false (fun h => hz (by rw [h]; rfl))
    have hcv := Lib.run_convert_string_bytes (P := Tryz.prog) w 9 22 5 t (u := .string) Tryz.underlying9 Tryz.underlying22 Tryz.underlying5
    have hB : ∀ j, j < t.size → (Lib.bytesWorld w 5 t).cell? ⟨w.heap.size, j, none⟩ = some (.int .u8 (t.data.toList.getD j 0).toNat) := fun j hj => Lib.bytesWorld_cell w 5 t j hj
    have hbw : Below w.heap.size w (Lib.bytesWorld w 5 t) := below_bytesWorld w _ t
    obtain ⟨W1, hW1⟩ : ∃ W1, W1 = Lib.bytesWorld w 5 t := ⟨_, rfl⟩
    rw [← hW1] at hcv hB hbw
    have HBW := Lib.hid hbw
    clear hW1 hbw
    have hget : ∀ j (hj : j < t.size), t.data.toList.getD j 0 = t[j]'hj := fun j hj => by
      rw [List.getD_eq_getElem?_getD, List.getElem?_eq_getElem (by rw [← Lib.size_eq]; exact hj)]; rfl
    have HB : Hid (∀ j (hj : j < t.size), W1.cell? ⟨w.heap.size, j, none⟩ = some (.int .u8 (t[j]'hj).toNat)) := Lib.hid fun j hj => by rw [← hget j hj]; exact hB j hj
    have hmv : IntKind.u64.wrap (IntKind.u64.wrap 4294967296 - 1) = 4294967295 := by decide
    clear hB hget
    go_enter Tryz.func100, Tryz.ntmps100
    go_wp2
    go_loop [12, 13, 101] (fun vu vn vi => ∃ (k : Nat) (a : Int), vu = .bool false ∧ vn = .int .u64 a ∧ vi = .int .i64 k ∧ k ≤ t.size ∧ Hid (0 ≤ a ∧ a < 4294967296 ∧ ∀ x, x < 4294967296 → t = hexT x → a = ((x / 16 ^ (8 - k) : Nat) : Int))) (fun _ _ vi => t.size - (intOf vi).toNat)
    case atStart => exact ⟨0, 0, rfl, rfl, rfl, by omega, by omega, by omega, fun x hx _ => by rw [show (16 : Nat) ^ (8 - 0) = 4294967296 by decide, Nat.div_eq_of_lt hx]; rfl⟩
    case round =>
      obtain ⟨k, a, rfl, rfl, rfl, hk, hh⟩ := hrel
      obtain ⟨a0, a1, hx⟩ := hh.out
      clear hh
      by_cases hkn : k < t.size
      · have hc := HB.out k hkn
        obtain ⟨c, hcc⟩ : ∃ c, t[k]'hkn = c := ⟨_, rfl⟩
        rw [hcc] at hc
        have hstep : ∀ x, x < 4294967296 → t = hexT x → ∃ D : Nat, D < 16 ∧ c.toNat = (if D < 10 then 48 + D else 87 + D) ∧ ((x / 16 ^ (8 - (k + 1)) : Nat) : Int) = 16 * a + D := fun x hx1 ht => by
          have h8 : k < 8 := by have := hexT_size x; rw [← ht] at this; omega
          have h1 : c = digH (x / 16 ^ (7 - k) % 16) := by
            rw [← hcc]
            subst ht
            exact hexT_at x k hkn
          refine ⟨x / 16 ^ (7 - k) % 16, Nat.mod_lt _ (by decide), ?_, ?_⟩
          · rw [h1]; exact digH_val _ (Nat.mod_lt _ (by decide))
          · have h2 := hx x hx1 ht
            rw [show 8 - k = (7 - k) + 1 by omega, Nat.pow_succ, ← Nat.div_div_eq_div_mul] at h2
            rw [show 8 - (k + 1) = 7 - k by omega]
            omega
        have HS := Lib.hid hstep
        clear hcc
        have hc256 : c.toNat < 256 := c.toNat_lt
        clear hstep hx
        by_cases hdig : 48 ≤ c.toNat ∧ c.toNat ≤ 57
        · obtain ⟨hd0, hd1⟩ := hdig
          by_cases hov : 4294967296 ≤ a * 16 + ((c.toNat : Int) - 48)
          · have HN : Hid (∀ x, x < 4294967296 → t ≠ hexT x) := Lib.hid fun x hx1 ht => by
              obtain ⟨D, hD, h1, h2⟩ := HS.out x hx1 ht
              have h3 : x / 16 ^ (8 - (k + 1)) ≤ x := Nat.div_le_self _ _
              split at h1 <;> omega
            clear HS
            go_wp2
            go_ret2
            exact PuPost.bad (.inl rfl) HN.out HBW.out
          · have hov' : a * 16 + ((c.toNat : Int) - 48) < 4294967296 := by omega
            have HN : Hid (0 ≤ a * 16 + ((c.toNat : Int) - 48) ∧ a * 16 + ((c.toNat : Int) - 48) < 4294967296 ∧ ∀ x, x < 4294967296 → t = hexT x → a * 16 + ((c.toNat : Int) - 48) = ((x / 16 ^ (8 - (k + 1)) : Nat) : Int)) := Lib.hid ⟨by omega, hov', fun x hx1 ht => by
              obtain ⟨D, hD, h1, h2⟩ := HS.out x hx1 ht
              rw [h2]
              split at h1 <;> omega⟩
            clear HS hov
            go_wp2
            exact ⟨⟨k + 1, a * 16 + ((c.toNat : Int) - 48), rfl, rfl, by go_num, by omega, HN⟩, by simp [intOf]; omega⟩
        · have hv0 := bits_lo_u8 .or (c.toNat : Int) 32
          have hv1 := bits_hi_u8 .or (c.toNat : Int) 32
          have hsm : 97 ≤ c.toNat → c.toNat ≤ 102 → bits .or .u8 (c.toNat : Int) 32 = (c.toNat : Int) := or_small _
          obtain ⟨v, hv⟩ : ∃ v, bits .or .u8 (c.toNat : Int) 32 = v := ⟨_, rfl⟩
          rw [hv] at hv0 hv1 hsm
          have HLo : Hid (∀ w, Calls Tryz.prog 115 #[.int .u8 (c.toNat : Int)] w fun e w' => e = .returned (.int .u8 v) ∧ w' = w) := Lib.hid fun w => by rw [← hv]; exact lower_any w _
          have h95 : ((c.toNat : Int) == 95) = false ∨ c.toNat = 95 := by
            by_cases h : c.toNat = 95
            · exact .inr h
            · left; rw [beq_eq_false_iff_ne]; omega
          rcases h95 with h95 | h95
          rotate_left
          · have HN : Hid (∀ x, x < 4294967296 → t ≠ hexT x) := Lib.hid fun x hx1 ht => by
              obtain ⟨D, hD, h1, h2⟩ := HS.out x hx1 ht
              split at h1 <;> omega
            have h127 : v = 127 := by rw [← hv, h95]; decide +kernel
            rw [h127] at HLo
            rw [h95] at HLo hc
            clear HS hsm hv hv0 hv1 h95 hdig h127 hc256
            go_wp2_with (go_at_call 115; refine (HLo.out _).mono ?_; rintro e w' ⟨rfl, rfl⟩)
            all_goals go_ret2
            all_goals exact PuPost.bad (.inr rfl) HN.out HBW.out
          clear hv
          by_cases hlet : 97 ≤ v ∧ v ≤ 102
          · obtain ⟨hl0, hl1⟩ := hlet
            by_cases hov : 4294967296 ≤ a * 16 + (v - 87)
            · have HN : Hid (∀ x, x < 4294967296 → t ≠ hexT x) := Lib.hid fun x hx1 ht => by
                obtain ⟨D, hD, h1, h2⟩ := HS.out x hx1 ht
                have h3 : x / 16 ^ (8 - (k + 1)) ≤ x := Nat.div_le_self _ _
                split at h1
                · omega
                · have := hsm (by omega) (by omega); omega
              have hov2 : 4294967296 ≤ a * 16 + (v - 97 + 10) := by omega
              clear HS hsm hov
              go_wp2_with (go_at_call 115; refine (HLo.out _).mono ?_; rintro e w' ⟨rfl, rfl⟩)
              all_goals go_ret2
              all_goals exact PuPost.bad (.inl rfl) HN.out HBW.out
            · have hov' : a * 16 + (v - 97 + 10) < 4294967296 := by omega
              have HN : Hid (0 ≤ a * 16 + (v - 97 + 10) ∧ a * 16 + (v - 97 + 10) < 4294967296 ∧ ∀ x, x < 4294967296 → t = hexT x → a * 16 + (v - 97 + 10) = ((x / 16 ^ (8 - (k + 1)) : Nat) : Int)) := Lib.hid ⟨by omega, hov', fun x hx1 ht => by
                obtain ⟨D, hD, h1, h2⟩ := HS.out x hx1 ht
                rw [h2]
                split at h1
                · omega
                · have := hsm (by omega) (by omega); omega⟩
              clear HS hsm hov
              go_wp2_with (go_at_call 115; refine (HLo.out _).mono ?_; rintro e w' ⟨rfl, rfl⟩)
              all_goals exact ⟨⟨k + 1, a * 16 + (v - 97 + 10), rfl, rfl, by go_num, by omega, HN⟩, by simp [intOf]; omega⟩
          · have HN : Hid (∀ x, x < 4294967296 → t ≠ hexT x) := Lib.hid fun x hx1 ht => by
              obtain ⟨D, hD, h1, h2⟩ := HS.out x hx1 ht
              split at h1
              · omega
              · have := hsm (by omega) (by omega); omega
            clear HS hsm
            by_cases hv97 : 97 ≤ v
            · have hv102 : 102 < v := by omega
              clear hlet
              by_cases hv122 : v ≤ 122
              · go_wp2_with (go_at_call 115; refine (HLo.out _).mono ?_; rintro e w' ⟨rfl, rfl⟩)
                all_goals go_ret2
                all_goals exact PuPost.bad (.inr rfl) HN.out HBW.out
              · go_wp2_with (go_at_call 115; refine (HLo.out _).mono ?_; rintro e w' ⟨rfl, rfl⟩)
                all_goals go_ret2
                all_goals exact PuPost.bad (.inr rfl) HN.out HBW.out
            · clear hlet
              go_wp2_with (go_at_call 115; refine (HLo.out _).mono ?_; rintro e w' ⟨rfl, rfl⟩)
              all_goals go_ret2
              all_goals exact PuPost.bad (.inr rfl) HN.out HBW.out
      · obtain rfl : k = t.size := by omega
        obtain ⟨n, rfl⟩ : ∃ n : Nat, a = n := ⟨a.toNat, by omega⟩
        have HX : Hid (∀ x, x < 4294967296 → t = hexT x → n = x) := Lib.hid fun x hx1 ht => by
          have h8 : t.size = 8 := by rw [ht]; exact hexT_size x
          have h2 := hx x hx1 ht
          rw [h8] at h2
          simp at h2
          omega
        clear hx
        go_wp2
        go_ret2
        exact PuPost.ok n _ rfl (by omega) HX.out HBW.out
end Go.Proofs.YtlpmkgcknopgoaaGreatDoor
