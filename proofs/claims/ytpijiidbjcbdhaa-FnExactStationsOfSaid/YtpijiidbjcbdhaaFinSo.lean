/- FnExactStationsOf: the walk of the law. -/
import Derived.Test.YtpijiidbjcbdhaaStI
import Derived.Test.YtpijiidbjcbdhaaMkI
import Derived.Test.YtpijiidbjcbdhaaTru
namespace Go.Proofs.Ytpijiidbjcbdhaa
open Go Go.RowKit

theorem OwnI.chg {w w' : World} {S : Nat → Prop} {B : Nat} {v : Value} {L : List Int} (h : OwnI w B v L) (hc : Chg w w' S) (hd : ∀ k, v.ownBlock = some k → ¬ S k) : OwnI w' B v L :=
  ownsRow_same h fun k hk => hc.block k (World.ownsRow.lt h k hk).2 (hd k hk)
theorem OwnI.lt {w : World} {B : Nat} {v : Value} {L : List Int} (h : OwnI w B v L) {k : Nat} (hk : v.ownBlock = some k) : B ≤ k ∧ k < w.heap.size := World.ownsRow.lt h k hk
theorem OwnFr.kept {w w' : World} {S : Nat → Prop} {v : Value} {Fs : List FM} (h : OwnFr w S v Fs) (hb : Below w.heap.size w w') : OwnFr w' S v Fs := OwnC.kept h hb

set_option maxRecDepth 100000 in
set_option maxHeartbeats 4000000 in
theorem lawStationsOf_any (w : World) (v : Value) (Fs : List FM) (h : RdFr w v Fs) (hn : Fs.length ≤ maxLen) (hm : ∀ j, j < Fs.length → (frAt Fs j).L.length ≤ maxLen) :
    Calls Try.prog 5 #[v] w (TrueB w) := by
  have HZ := Lib.hid (szFrameS_any w v Fs 1048576 h (by decide) (by decide) hn hm)
  have HR := Lib.hid h
  obtain ⟨a, c, rfl, -⟩ := h.opened
  clear h hn hm
  go_enter Try.func5, Try.ntmps5
  go_wp2_with fail
  refine HZ.out.mono ?_
  clear HZ
  rintro e w1 ⟨m, rfl, hm, b1⟩
  have HM := Lib.hid hm
  by_cases hlt : m < 0
  · clear hm
    go_wp2
    go_ret
    exact TrueB.mk b1
  · have hs : Fsmall Fs := by
      rcases HM.out with h | h
      · omega
      · exact h.2.2
    clear hm HM
    have HS := Lib.hid hs
    clear hs
    go_wp2_with fail
    have c1 := b1
    have z1 := b1.size
    refine (toFrameS_any w1 _ Fs (HR.out.mono c1) HS.out).mono ?_
    rintro e w2 ⟨va, rfl, oa, b2⟩
    have z2 := b2.size
    have c2 := c1.trans (b2.mono c1.size)
    have Ra := Lib.hid oa.rd
    obtain ⟨xa, xc, rfl, -⟩ := oa.rd.opened
    clear oa
    go_wp2_with fail
    refine (specStations_any w2 _ Fs Ra.out HS.out).mono ?_
    rintro e w3 ⟨⟨vw, rfl, ow⟩, b3⟩
    have z3 := b3.size
    have c3 := c2.trans (b3.mono c2.size)
    clear Ra
    obtain ⟨L, hL⟩ : ∃ L, (if areF Fs then stTo Fs Fs.length else []) = L := ⟨_, rfl⟩
    have hLen : L.length ≤ 1048576 := by
      have := HS.out.1
      subst hL
      split
      · have := stTo_len Fs Fs.length; omega
      · exact Nat.zero_le _
    rw [hL] at ow
    have HL := Lib.hid hL
    clear hL
    have Ow := Lib.hid ow
    have bw : ∀ k, vw.ownBlock = some k → k < w3.heap.size := fun k hk => (ow.lt hk).2
    clear ow
    go_wp2_with fail
    refine (toFrameS_any w3 _ Fs (HR.out.mono c3) HS.out).mono ?_
    rintro e w4 ⟨vx, rfl, ox, b4⟩
    have z4 := b4.size
    have c4 := c3.trans (b4.mono c3.size)
    have Ox := Lib.hid ox
    obtain ⟨ya, yc, rfl, -⟩ := ox.rd.opened
    clear ox
    replace Ow := Lib.hid (Ow.out.kept b4)
    go_wp2_with fail
    refine (implStations_any w4 _ Fs Ox.out.rd HS.out).mono ?_
    rintro e w5 ⟨⟨vg, rfl, og⟩, b5⟩
    have z5 := b5.size
    have c5 := c4.trans (b5.mono c4.size)
    rw [HL.out] at og
    have Og := Lib.hid og
    clear og
    replace Ow := Lib.hid (Ow.out.kept b5)
    replace Ox := Lib.hid (Ox.out.kept b5)
    go_wp2_with fail
    refine (eqInt64S_any w5 _ _ L (OwnI.rd Og.out) (OwnI.rd Ow.out) hLen).mono ?_
    rintro e w6 ⟨rfl, n6, hw6⟩
    have b6 : Below w5.heap.size w5 w6 := by rw [hw6]; exact Below.drewN (Below.refl _ _) _
    clear hw6
    have z6 := b6.size
    have c6 := c5.trans (b6.mono c5.size)
    replace Ow := Lib.hid (Ow.out.kept b6)
    replace Og := Lib.hid (Og.out.kept b6)
    replace Ox := Lib.hid (Ox.out.kept b6)
    go_wp2_with fail
    refine (toFrameS_any w6 _ Fs (HR.out.mono c6) HS.out).mono ?_
    rintro e w7 ⟨vb, rfl, ob, b7⟩
    have z7 := b7.size
    have c7 := c6.trans (b7.mono c6.size)
    have Rb := Lib.hid ob.rd
    obtain ⟨pa, pc, rfl, -⟩ := ob.rd.opened
    clear ob
    replace Ow := Lib.hid (Ow.out.kept b7)
    replace Og := Lib.hid (Og.out.kept b7)
    replace Ox := Lib.hid (Ox.out.kept b7)
    go_wp2_with fail
    refine (eqFrameS_any w7 _ _ Fs Ox.out.rd Rb.out HS.out).mono ?_
    rintro e w8 ⟨rfl, b8⟩
    have z8 := b8.size
    have c8 := c7.trans (b8.mono c7.size)
    clear Rb
    replace Ow := Lib.hid (Ow.out.kept b8)
    replace Og := Lib.hid (Og.out.kept b8)
    replace Ox := Lib.hid (Ox.out.kept b8)
    go_wp2_with fail
    refine (markFrameS_any w8 _ _ 1 Fs Ox.out HS.out (by decide)).mono ?_
    rintro e w9 ⟨rfl, -, g9⟩
    have z9 := g9.size
    have c9 := Below.chg c8 g9 (fun k hk => by have := hk.1; omega) c8.size
    obtain ⟨N, hN⟩ : ∃ N : Nat, 1 + cntF Fs Fs.length = N := ⟨_, rfl⟩
    rw [hN]
    clear hN Ox
    replace Ow := Lib.hid (Ow.out.chg g9 fun k hk e => by have := bw k hk; have := e.1; omega)
    replace Og := Lib.hid (Og.out.chg g9 fun k hk e => by have := (Og.out.lt hk).1; have := e.2; omega)
    have hpos : ¬ ((N : Int) < 0) := by omega
    go_wp2_with fail
    refine (eqInt64S_any w9 _ _ L (OwnI.rd Og.out) (OwnI.rd Ow.out) hLen).mono ?_
    rintro e w10 ⟨rfl, n10, hw10⟩
    have b10 : Below w9.heap.size w9 w10 := by rw [hw10]; exact Below.drewN (Below.refl _ _) _
    clear hw10
    have z10 := b10.size
    have c10 := c9.trans (b10.mono c9.size)
    replace Ow := Lib.hid (Ow.out.kept b10)
    replace Og := Lib.hid (Og.out.kept b10)
    go_wp2_with fail
    refine (markInt64S_any w10 _ _ L 1 Og.out hLen (by decide)).mono ?_
    rintro e w11 ⟨rfl, o11, g11⟩
    have h11 : Chg w10 w11 fun b => vg.ownBlock = some b := Chg.of_grown g11 fun b hb => hb
    have z11 := h11.size
    have c11 := Below.chg c10 h11 (fun k hk => by have := (Og.out.lt hk).1; omega) c10.size
    replace Ow := Lib.hid (Ow.out.chg h11 fun k hk e => by have := bw k hk; have := (Og.out.lt e).1; omega)
    replace Og := Lib.hid o11
    clear o11 g11 h11
    obtain ⟨M, hM⟩ : ∃ M : Nat, 1 + L.length = M := ⟨_, rfl⟩
    rw [hM]
    have HM := Lib.hid hM
    clear hM
    go_wp2_with fail
    refine (heldInt64S_any w11 _ 1 L.length (OwnI.rd Og.out) hLen (by decide)).mono ?_
    rintro e w12 ⟨rfl, hw12⟩
    subst hw12
    rw [HM.out]
    have hposM : ¬ ((M : Int) < 0) := by omega
    go_wp2_with fail
    refine (toFrameS_any w12 _ Fs (HR.out.mono c11) HS.out).mono ?_
    rintro e w13 ⟨vc, rfl, oc, b13⟩
    have z13 := b13.size
    have c13 := c11.trans (b13.mono c11.size)
    have Rc := Lib.hid oc.rd
    obtain ⟨qa, qc, rfl, -⟩ := oc.rd.opened
    clear oc
    replace Ow := Lib.hid (Ow.out.kept b13)
    replace Og := Lib.hid (Og.out.kept b13)
    go_wp2_with fail
    refine (implStations_any w13 _ Fs Rc.out HS.out).mono ?_
    rintro e w14 ⟨⟨vh, rfl, oh⟩, b14⟩
    have z14 := b14.size
    have c14 := c13.trans (b14.mono c13.size)
    rw [HL.out] at oh
    have Oh := Lib.hid oh
    clear oh Rc
    replace Ow := Lib.hid (Ow.out.kept b14)
    replace Og := Lib.hid (Og.out.kept b14)
    go_wp2_with fail
    refine (eqInt64S_any w14 _ _ L (OwnI.rd Oh.out) (OwnI.rd Ow.out) hLen).mono ?_
    rintro e w15 ⟨rfl, n15, hw15⟩
    have b15 : Below w14.heap.size w14 w15 := by rw [hw15]; exact Below.drewN (Below.refl _ _) _
    clear hw15
    have z15 := b15.size
    have c15 := c14.trans (b15.mono c14.size)
    replace Og := Lib.hid (Og.out.kept b15)
    go_wp2_with fail
    refine (heldInt64S_any w15 _ 1 L.length (OwnI.rd Og.out) hLen (by decide)).mono ?_
    rintro e w16 ⟨rfl, hw16⟩
    subst hw16
    rw [HM.out]
    go_wp2
    go_ret
    exact TrueB.mk c15
end Go.Proofs.Ytpijiidbjcbdhaa
