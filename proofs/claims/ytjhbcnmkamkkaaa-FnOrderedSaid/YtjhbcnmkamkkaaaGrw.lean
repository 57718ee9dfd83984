/- Walks: slices.Grow from nil, slices.Concat of two lists of floats. -/
import Derived.Test.YtjhbcnmkamkkaaaRelK
import Derived.Lib.AppendZeros
namespace Go.Proofs.Ytjhbcnmkamkkaaa
open Go Go.RowKit

/-- 'append' of some zeros to nil: the front of length 0 of what is made is owned. -/
theorem wpList_growNil {P : Program} {ops : Array Oper} {rest : List Oper} {o : Oper} {a : Act} {w : World} {Q : Exit → Act → World → Prop} (hgd : o.guard = none) (s x : Operand) (t tn : TypeId)
    (ho : o.op = .call { callee := .builtin .append, args := #[s, x], argTypes := #[t, tn] }) (e : TypeId) (z : Value) (size bytes : Nat) (kn : IntKind) (ht : P.underlying t = some (.slice e)) (htn : P.underlying tn = some (.int kn))
    (hinfo : (P.info? e).map (fun i => (i.zero, i.size, i.bytes)) = some (some z, size, bytes)) (hzs : z.cells.size = size) (hsz : 0 < size) (k : IntKind) (N : Int) (n : Nat) (hs : a.eval s = .slice none 0 0) (hx : a.eval x = .int k N) (hN : N = (n : Int)) (h0 : 0 < n) (hn : n ≤ 1048576) (hby : bytes ≤ 1000)
    (h : ∀ cap w', n ≤ cap → w'.ownsRow w.heap.size e size (.slice (some ⟨w.heap.size, 0, none⟩) 0 cap) 0 [] → Ext w w' → wpList P ops Q rest (a.put o.dst (.slice (some ⟨w.heap.size, 0, none⟩) n cap)) w') : wpList P ops Q (o :: rest) a w := by
  obtain ⟨i, hi, hz0, hz1, hz2⟩ := info_parts hinfo
  subst hN
  have hr := fun ty => Lib.run_append_nil_zeros (P := P) w t tn ty e i z k kn ht htn hi hz0 n h0 (by omega) (by omega) (by rw [hz2]; exact Nat.le_trans (Nat.mul_le_mul hn hby) (by decide))
  refine wpList_plain hgd fun K hK => ?_
  unfold Oper.wp execOp
  simp only [ho, resolve, invoke, builtin, Sem.run_bind, Sem.run_pure, Result.andThen_ok, List.map_toArray, List.map_cons, List.map_nil, hs, hx, hr]
  have hge := grownCap_ge w n 0 e
  have hlm := grownCap_le_maxLen w n 0 e (by unfold maxLen; omega)
  refine hK _ _ (h _ _ hge ?_ ?_)
  · refine ⟨by simp, .inr ⟨w.heap.size, _, _, rfl, Nat.le_refl _, (by show (w.drew.heap.push _)[w.drew.heap.size]? = _; exact Array.getElem?_push_size), Nat.zero_le _, hlm, ?_, by simp⟩⟩
    simp [Builtin.zeroCells, hzs]
    rw [← Nat.add_mul]
    congr 1
    omega
  · exact ((Below.drewN (Below.refl _ _) 1).alloc (by show w.heap.size ≤ w.heap.size; omega) _)

set_option maxRecDepth 100000 in
set_option maxHeartbeats 800000 in
theorem growF_any (w : World) (n : Nat) (h0 : 0 < n) (hn : n ≤ 1048576) :
    Calls Try.prog 120 #[.slice none 0 0, .int .i64 n] w fun e w' => ∃ cap, e = .returned (.slice (some ⟨w.heap.size, 0, none⟩) 0 cap) ∧ OwnF w' w.heap.size (.slice (some ⟨w.heap.size, 0, none⟩) 0 cap) [] ∧ Ext w w' := by
  have hp : ¬ ((n : Int) < 0) := by omega
  have hp2 : (n : Int) > 0 := by omega
  go_enter Try.func120, Try.ntmps120
  go_wp2_with (at_builtin; go_must (refine wpList_growNil rfl _ _ 25 3 rfl 31 (.float .f32 0) 1 4 .i64 Try.underlying25 Try.underlying3 Try.infoF rfl (by decide) .i64 n n rfl rfl rfl h0 hn (by decide) ?_); intro cap w1 hcap o1 x1; have O1 := Lib.hid o1; clear o1)
  go_ret
  exact ⟨_, rfl, ⟨[], rfl, (fun j hj => by cases hj), O1.out⟩, x1⟩
set_option maxRecDepth 100000 in
set_option maxHeartbeats 3200000 in
theorem concatF_any (w : World) (q : Nat) (v1 v2 : Value) (A B : List Nat) (c1 : w.cell? ⟨q, 0, none⟩ = some v1) (c2 : w.cell? ⟨q, 1, none⟩ = some v2) (h1 : RdF w v1 A) (h2 : RdF w v2 B) (hA : A.length ≤ 100000) (hB : B.length ≤ 100000) (hp : 0 < A.length) :
    Calls Try.prog 96 #[.slice (some ⟨q, 0, none⟩) 2 2] w fun e w' => ∃ v', e = .returned v' ∧ OwnF w' w.heap.size v' (A ++ B) ∧ Ext w w' := by
  have H1 := Lib.hid h1
  have H2 := Lib.hid h2
  have C1 := Lib.hid c1
  have C2 := Lib.hid c2
  have hq := block_lt c1
  obtain ⟨a1, d1, rfl, -, -⟩ := h1.opened
  obtain ⟨a2, d2, rfl, -, -⟩ := h2.opened
  have HG := Lib.hid (growF_any w (A.length + B.length) (by omega) (by omega))
  have n1 : ¬ ((A.length : Int) < 0) := by omega
  have n2 : ¬ ((A.length : Int) + (B.length : Int) < 0) := by omega
  clear h1 h2
  have hne : ¬ (A.length : Int) + (B.length : Int) < 0 := n2
  go_enter Try.func96, Try.ntmps96
  go_wp2_with fail
  go_loopw [3, 11] (fun sz i wr => wr = w ∧ ((i = .int .i64 0 ∧ sz = .int .i64 0) ∨ (i = .int .i64 1 ∧ sz = .int .i64 A.length) ∨ (i = .int .i64 2 ∧ sz = .int .i64 (A.length + B.length : Nat)))) (fun _ i _ => 2 - (intOf i).toNat)
  case atStart => exact ⟨rfl, .inl ⟨rfl, rfl⟩⟩
  case round =>
    obtain ⟨hw, hrel⟩ := hrel
    obtain rfl : w = wr := hw.symm
    clear hw
    rcases hrel with ⟨rfl, rfl⟩ | ⟨rfl, rfl⟩ | ⟨rfl, rfl⟩
    · go_wp2_with fail
      exact ⟨⟨trivial, .inr (.inl ⟨rfl, by simp⟩)⟩, by simp [intOf]⟩
    · go_wp2_with fail
      exact ⟨⟨trivial, .inr (.inr ⟨rfl, by congr 1⟩)⟩, by simp [intOf]⟩
    · clear n1 n2 hne c1 c2
      go_wp2_with fail
      refine HG.out.mono ?_
      rintro e w1 ⟨cap, rfl, o1, x1⟩
      have O1 := Lib.hid o1
      have X1 := Lib.hid x1
      clear HG o1 x1
      go_wp2_with fail
      go_loopw [6, 27] (fun o i wr => Ext w wr ∧ ((i = .int .i64 0 ∧ OwnF wr w.heap.size o []) ∨ (i = .int .i64 1 ∧ OwnF wr w.heap.size o A) ∨ (i = .int .i64 2 ∧ OwnF wr w.heap.size o (A ++ B)))) (fun _ i _ => 2 - (intOf i).toNat)
      case atStart => exact ⟨X1.out, .inl ⟨rfl, O1.out⟩⟩
      case round =>
        obtain ⟨wi, rfl⟩ : ∃ wi : World, wi = wr := ⟨_, rfl⟩
        obtain ⟨x, hrel⟩ := hrel
        have c1 := ((bcell x).1 _ _ hq).trans C1.out
        have c2 := ((bcell x).1 _ _ hq).trans C2.out
        have X := Lib.hid x
        have z := x.size
        have R1 := Lib.hid (H1.out.mono x)
        have R2 := Lib.hid (H2.out.mono x)
        clear X1 O1 x
        rcases hrel with ⟨rfl, o⟩ | ⟨rfl, o⟩ | ⟨rfl, o⟩
        · have O := Lib.hid o
          clear o c2
          go_wp2_with (at_builtin; go_must (refine wpList_pushAll rfl _ _ rfl w.heap.size _ [] rfl O.out _ A rfl R1.out (by simp) (by omega) z ?_); intro v3 w3 o3 g3 b3 l3; clear c1)
          exact ⟨⟨Below.trans X.out (b3.mono (Nat.le_refl _)), .inr (.inl ⟨rfl, by simpa using o3⟩)⟩, by simp [intOf]⟩
        · have O := Lib.hid o
          clear o c1
          go_wp2_with (at_builtin; go_must (refine wpList_pushAll rfl _ _ rfl w.heap.size _ A rfl O.out _ B rfl R2.out (by omega) (by omega) z ?_); intro v3 w3 o3 g3 b3 l3; clear c2)
          exact ⟨⟨Below.trans X.out (b3.mono (Nat.le_refl _)), .inr (.inr ⟨rfl, o3⟩)⟩, by simp [intOf]⟩
        · have O := Lib.hid o
          clear o c1 c2
          go_wp2_with fail
          go_ret
          exact ⟨_, rfl, O.out, X.out⟩
end Go.Proofs.Ytjhbcnmkamkkaaa
