/- Walks: a journal that is recovered: the program's. -/
import Derived.Test.YtalajgjdceoleaaDoorRc3
import Derived.Shelf.Abstract
import Derived.Sort.CutIn
namespace Go.Proofs.YtalajgjdceoleaaDoor
open Go Go.RowKit Go.Shelf
attribute [local go_sem] Oper.semAt_some

theorem lines_any (w : World) (s : ByteArray) :
    Calls Tryd.prog 26 #[.string s] w fun e w' => e = .returned (.func (.func 33) #[] #[.pointer (some ⟨w.heap.size, 0, none⟩)]) ∧ w' = w.alloc (.cells #[.string s] 9) := by
  go_enter Tryd.func26, Tryd.ntmps26
  go_wp2
  go_ret
  exact ⟨rfl, rfl⟩
/-- What the loop's own cells hold: the lines, the size, the check number. -/
def RecS (w : World) (xs : List ByteArray) (j : Nat) (W : World) : Prop :=
  ∃ v, Boxed W w.heap.size 22 v ∧ OwnStr W (w.heap.size + 4) v (recL xs j) ∧ Boxed W (w.heap.size + 1) 3 (.int .i64 (szR xs j : Nat)) ∧ Boxed W (w.heap.size + 1 + 1) 2 (.int .i64 (ckR xs j : Nat)) ∧ Below w.heap.size w W ∧ w.heap.size + 4 ≤ W.heap.size
theorem Boxed.below {W W' : World} {B : Nat} {t : TypeId} {v : Value} (h : Boxed W B t v) (hb : Below W.heap.size W W') : Boxed W' B t v := (hb.block B h.lt).trans h
theorem Boxed.belowB {W W' : World} {B k : Nat} {t : TypeId} {v : Value} (h : Boxed W k t v) (hk : k < B) (hb : Below B W W') : Boxed W' k t v := (hb.block k hk).trans h
theorem RecS.mono {w W W' : World} {xs : List ByteArray} {j : Nat} (h : RecS w xs j W) (hb : Below W.heap.size W W') : RecS w xs j W' := by
  obtain ⟨v, h1, h2, h3, h4, h5, h6⟩ := h
  exact ⟨v, Boxed.below h1 hb, h2.kept hb, Boxed.below h3 hb, Boxed.below h4 hb, h5.trans (hb.mono h5.size), Nat.le_trans h6 hb.size⟩
theorem OwnStr.turn {w w' : World} {B r : Nat} {v : Value} {L : List ByteArray} (h : OwnStr w B v L) (hg : w.grownBy w' (some r)) (hr : r < B ∨ ∃ o : Obj, w.heap[r]? = some o ∧ o.isCells = false) : OwnStr w' B v L := by
  refine ⟨h.1, ?_⟩
  rcases h.2 with hn | ⟨g, cap, cur, rfl, hB, hgb, q⟩
  · exact .inl hn
  · refine .inr ⟨g, cap, cur, rfl, hB, ?_, q⟩
    rw [hg.block g (Array.getElem?_eq_some_iff.1 hgb).1 ?_]
    · exact hgb
    · intro e
      obtain rfl : g = r := by simpa using e
      rcases hr with hr | ⟨o, ho, hc⟩
      · omega
      · rw [hgb] at ho; cases ho; cases hc
theorem RecS.turn {w W W' : World} {xs : List ByteArray} {j r : Nat} (h : RecS w xs j W) (hg : W.grownBy W' (some r)) (hr : r = w.heap.size + 3 ∨ (w.heap.size + 4 ≤ r ∧ ∃ o : Obj, W.heap[r]? = some o ∧ o.isCells = false)) : RecS w xs j W' := by
  obtain ⟨v, h1, h2, h3, h4, h5, h6⟩ := h
  have hr' : w.heap.size + 3 ≤ r := by rcases hr with rfl | ⟨h, _⟩ <;> omega
  exact ⟨v, h1.kept hg (by simp; omega), h2.turn hg (hr.imp (fun e => by omega) And.right), h3.kept hg (by simp; omega), h4.kept hg (by simp; omega), h5.grown hg h5.size (fun k e => by cases e; omega), Nat.le_trans h6 hg.size⟩
theorem keepsFrom_of_below {B : Nat} {W W' : World} (h : Below W.heap.size W W') : KeepsFrom B W W' := ⟨h.size, fun k o _ hk _ => (h.block k (Array.getElem?_eq_some_iff.1 hk).1).trans hk⟩

/-- 'append' of one element of one cell, in a round. -/
theorem wpListIn_push1 {F : Fence} {m : Nat} {P : Program} {ops : Array Oper} {rest : List Oper} {o : Oper} {a : Act} {w : World} {Q : Exit → Act → World → Prop} (hgd : o.guard = none) (s x : Operand) (t e : TypeId)
    (ho : o.op = .call { callee := .builtin .append, args := #[s, x], argTypes := #[t, t] }) (z : Value) (bytes : Nat) (ht : P.underlying t = some (.slice e)) (hinfo : (P.info? e).map (fun i => (i.zero, i.size, i.bytes)) = some (some z, 1, bytes))
    (hzs : z.cells.size = 1) (hby : bytes ≤ 100) (B : Nat) (v : Value) (n : Nat) (xs : List Value) (hs : a.eval s = v) (hown : w.ownsRow B e 1 v n xs)
    (ad : Addr) (c : Nat) (u : Value) (hx : a.eval x = .slice (some ad) 1 c) (hcell : w.cell? ad = some u) (hu : u.oneCell' = true) (hlen : n ≤ 1048576) (hB : B ≤ w.heap.size)
    (h : ∀ v' w', w'.ownsRow B e 1 v' (n + 1) (xs ++ [u]) → w.grownBy w' v.ownBlock → Below B w w' → wpListIn F m P ops Q rest (a.put o.dst v') w') : wpListIn F m P ops Q (o :: rest) a w := by
  obtain ⟨i0, hi, hz0, hz1, hz2⟩ := info_parts hinfo
  refine wpListIn_append_own _ hgd s x t ho B e i0 z 1 bytes ht hi hz0 hz1 hz2 hzs (by decide) v n xs hs hown ad 1 c [u] hx rfl ?_ ?_ ?_ ?_ hB ?_
  · intro j y hy
    match j, hy with
    | 0, hy =>
      simp at hy; subst hy
      have : ad.add 0 = ad := by unfold Addr.add; split <;> simp_all
      rw [this]; exact hcell
  · intro y hy; simp at hy; subst hy; exact hu
  · unfold maxLen; omega
  · exact Nat.le_trans (Nat.mul_le_mul (by omega : n + 1 ≤ 1048577) hby) (by decide)
  · intro v' w' h1 h2 _
    exact h v' w' h1 h2 ((Below.refl _ _).grown h2 hB fun k hk => (hown.lt k hk).1)
set_option maxRecDepth 100000 in
set_option maxHeartbeats 3200000 in
theorem recovered_any (w : World) (t : ByteArray) (ht : t.size ≤ 12000) (xs : List ByteArray) (z : ByteArray) (hx : cutB 10 t = xs ++ [z]) (hT : Tab10 w) :
    Calls Tryd.prog 18 #[.string t] w fun e w' => ∃ k v, Stop xs k ∧ e = .returned (.tuple #[v, .int .i64 (szR xs k : Nat)]) ∧ OwnStr w' w.heap.size v (recL xs k) ∧ Below w.heap.size w w' := by
  have hlen : xs.length ≤ 12000 := by
    have := cutB_len 10 t
    rw [hx, List.length_append] at this
    simp at this
    omega
  have hszr : ∀ k, k ≤ xs.length → szR xs k ≤ 12000 * 12001 := fun k hk => Nat.le_trans (szR_le (fun j hj => Nat.le_trans (cut_at hx hj).1 ht) k hk) (Nat.mul_le_mul_right _ (by omega))
  have HX := Lib.hid hx
  have HT := Lib.hid hT
  clear hx hT
  refine callsIn_wide.1 (?_ : CallsIn Fence.wide 4 _ _ _ _ _)
  refine callsIn_of_wp_marks Tryd.func18 rfl trivial ?_ rfl
  simp only [Tryd.ntmps18, List.size_toArray, List.length_cons, List.length_nil, Nat.reduceAdd, Nat.reduceSub, Array.replicate_succ, Array.replicate_zero, List.push_toArray, List.append_toArray, List.nil_append, List.cons_append]
  gi_wp2_with (refine ⟨trivial, ?_⟩; gi_at_call 26; refine (callsIn_wide.2 (lines_any _ _)).mono ?_; rintro e w2 ⟨rfl, rfl⟩)
  obtain ⟨W0, hW0⟩ : ∃ W0, ((((w.alloc (Obj.cells #[Value.slice none 0 0] 22)).alloc (Obj.cells #[Value.int IntKind.i64 0] 3)).alloc (Obj.cells #[Value.int IntKind.i64 0] 2)).alloc (Obj.cells #[Value.string t] 9)) = W0 := ⟨_, rfl⟩
  have hz0 : W0.heap.size = w.heap.size + 4 := by rw [← hW0]; simp
  have hB0 : Below w.heap.size w W0 := by rw [← hW0]; exact ((((Below.refl _ w).alloc (Nat.le_refl _) _).alloc (by simp) _).alloc (by simp; omega) _).alloc (by simp; omega) _
  have hS0 : RecS w xs 0 W0 := by
    have q1 := Boxed.new w 22 (.slice none 0 0)
    have q2 := Boxed.new (w.alloc (.cells #[.slice none 0 0] 22)) 3 (.int .i64 0)
    have q3 := Boxed.new ((w.alloc (.cells #[.slice none 0 0] 22)).alloc (.cells #[.int .i64 0] 3)) 2 (.int .i64 0)
    rw [World.size_alloc] at q2
    rw [World.size_alloc, World.size_alloc] at q3
    refine ⟨_, ?_, ⟨rfl, .inl ⟨rfl, rfl⟩⟩, ?_, ?_, hB0, by omega⟩
    · rw [← hW0]; exact ((q1.alloc _).alloc _).alloc _
    · rw [← hW0]; exact (q2.alloc _).alloc _
    · rw [← hW0]; exact q3.alloc _
  have hS : Boxed W0 (w.heap.size + 1 + 1 + 1) 9 (.string t) := by
    have q4 := Boxed.new (((w.alloc (.cells #[.slice none 0 0] 22)).alloc (.cells #[.int .i64 0] 3)).alloc (.cells #[.int .i64 0] 2)) 9 (.string t)
    rw [World.size_alloc, World.size_alloc, World.size_alloc] at q4
    rw [← hW0]; exact q4
  rw [hW0]
  clear hW0
  refine wpIn_range_l rfl (by decide) (gf := 33) (lb := #[.pointer (some ⟨w.heap.size + 1 + 1 + 1, 0, none⟩)]) rfl trivial (enters_of Tryd.func33 (by kernel_rfl) rfl)
    (lines_seq Tryd.strings_IndexByte (w.heap.size + 1 + 1 + 1) t (by omega) _ hS.cell hS.frozen) (by omega) (fun _ => rfl)
    (fun pre W => pre.length ≤ xs.length ∧ (∀ i, i < pre.length → okR xs i) ∧ RecS w xs pre.length W)
    (fun jc _ W => jc = .exit 0 ∧ ∃ k, Stop xs k ∧ RecS w xs k W) ?hI ?hIx ⟨Nat.zero_le _, (fun i hi => by cases hi), hS0⟩
    (fun x => { tmps := #[.string t, undef, .slice none 0 0, .int .i64 0, .pointer (some ⟨w.heap.size, 0, none⟩), .pointer (some ⟨w.heap.size + 1, 0, none⟩), .pointer (some ⟨w.heap.size + 1 + 1, 0, none⟩), .string x, undef, undef, undef, undef, undef, .string t,
        .func (.func 33) #[] #[.pointer (some ⟨w.heap.size + 1 + 1 + 1, 0, none⟩)], .string x, undef, undef, undef, undef, undef, undef, undef, undef, undef, undef, undef, undef, undef, undef, undef, undef, undef, undef, undef, undef, undef, undef, undef, undef, undef, undef, undef, undef, undef, undef, undef], defers := [] }) ?assign ?body ?done ?stop
  case hI =>
    rintro pre A B r ⟨h1, h2, h3⟩ hg hr
    exact ⟨h1, h2, h3.turn hg (hr.imp (fun e => by omega) (fun e => ⟨by omega, e.2⟩))⟩
  case hIx =>
    rintro jc pre A B r ⟨h1, k, h2, h3⟩ hg hr
    exact ⟨h1, k, h2, h3.turn hg (hr.imp (fun e => by omega) (fun e => ⟨by omega, e.2⟩))⟩
  case assign =>
    intro l x W K hK
    gi_wp2
    exact hK
  case body =>
    rintro l pre T rest W hpre ⟨hle, hok, hS⟩
    obtain ⟨a, b, f, hcv⟩ : ∃ a b f, cutV (⟨(Lib.trimSuffix T.data.toList [10]).toArray⟩ : ByteArray) = .tuple #[.string a, .string b, .bool f] := by
      unfold cutV
      split
      · exact ⟨_, _, _, rfl⟩
      · exact ⟨_, _, _, rfl⟩
    obtain ⟨f1, f2, f3, f4, f5⟩ := round_fact ht HX.out hpre hle hok rfl hcv
    have KT : ∀ wq, Calls Tryd.prog 28 #[.string T, .string ⟨#[10]⟩] wq fun e w' => e = .returned (.string ⟨(Lib.trimSuffix T.data.toList [10]).toArray⟩) ∧ w' = wq := fun wq => Tryd.strings_TrimSuffix T ⟨#[10]⟩ wq (by omega)
    have KC : ∀ wq, Calls Tryd.prog 27 #[.string ⟨(Lib.trimSuffix T.data.toList [10]).toArray⟩, .string ⟨#[32]⟩] wq fun e w' => e = .returned (.tuple #[.string a, .string b, .bool f]) ∧ Below wq.heap.size wq w' := fun wq => by
      have := cut_any wq (⟨(Lib.trimSuffix T.data.toList [10]).toArray⟩ : ByteArray) (by omega)
      rw [hcv] at this
      exact this
    generalize (⟨(Lib.trimSuffix T.data.toList [10]).toArray⟩ : ByteArray) = T' at KT KC f2
    have hck := ckR_lt xs pre.length
    have KJ : ∀ wq, Tab10 wq → Calls Tryd.prog 16 #[.int .i64 (ckR xs pre.length : Nat), .string b] wq fun e w' => e = .returned (.tuple #[.string (lineT (chk (ckR xs pre.length) b) b), .int .i64 (chk (ckR xs pre.length) b : Nat)]) ∧ Below wq.heap.size wq w' := fun wq hq => journalLine_any wq (ckR xs pre.length) b hck (by omega) hq
    have hszj := hszr pre.length hle
    have HC1 : Hid (ckR xs pre.length < 65003) := Lib.hid hck
    obtain ⟨p1, hp1⟩ : ∃ p1, pre ++ [T] = p1 := ⟨_, rfl⟩
    have hj1 : p1.length = pre.length + 1 := by rw [← hp1]; simp
    rw [hp1]
    clear hp1 hpre hcv
    have HJ1 := Lib.hid hj1
    clear hj1
    have HS1 : Hid (szR xs (pre.length + 1) = szR xs pre.length + ((lnAt xs pre.length).size + 1)) := Lib.hid rfl
    have HR1 := Lib.hid (recL_succ xs pre.length)
    have HF4 := Lib.hid f4
    have HF5 := Lib.hid f5
    have HOK := Lib.hid hok
    clear f4 f5 hok
    generalize pre.length = j at *
    generalize chk (ckR xs j) b = ck1 at *
    generalize lineT ck1 b = want at *
    have HKT := Lib.hid KT
    have HKC := Lib.hid KC
    have HKJ := Lib.hid KJ
    clear KT KC KJ
    have hS1 := Lib.hid hS
    clear hS
    have hbad : ∀ V ac, Below W.heap.size W V → ¬ (f = true ∧ want = T) → postL W0.heap.size (w.heap.size + 1 + 1 + 1) (fun pre W => pre.length ≤ xs.length ∧ (∀ i, i < pre.length → okR xs i) ∧ RecS w xs pre.length W) (fun jc _ W => jc = .exit 0 ∧ ∃ k, Stop xs k ∧ RecS w xs k W) p1 W (.exit 0) ac V :=
      fun V ac hV hn => ⟨keepsFrom_of_below hV, rfl, j, HF5.out hn, hS1.out.mono hV⟩
    cases f with
    | false =>
      gi_wp2_with (first
        | (refine ⟨trivial, ?_⟩; gi_at_call 28; refine (CallsIn.inRound l (callsIn_wide.2 (HKT.out _))).mono ?_; rintro e V0 ⟨rfl, rfl⟩)
        | (refine ⟨trivial, ?_⟩; gi_at_call 27; refine (CallsIn.inRound l (callsIn_wide.2 (HKC.out _))).mono ?_; rintro e V1 ⟨rfl, hV1⟩; obtain ⟨v1, -, -, -, q3, hq, -⟩ := hS1.out.mono hV1; have hT1 := HT.out.mono hq; have hc3 := q3.cell; clear q3 hq)
        | (refine ⟨trivial, ?_⟩; gi_at_call 16; refine (CallsIn.inRound l (callsIn_wide.2 (HKJ.out _ hT1))).mono ?_; clear hT1 hc3; rintro e V2 ⟨rfl, hV2'⟩; have hV2 := hV1.trans (hV2'.mono hV1.size); clear hV1 hV2'))
      exact hbad _ _ hV2 (fun h => by cases h.1)
    | true =>
      by_cases hw : want = T
      · obtain ⟨hj1, hok1, hck1, hln1, hts⟩ := HF4.out rfl hw
        subst hw
        have hRl : (recL xs j).length = j := recL_length xs j
        have hWz := hS1.out
        obtain ⟨-, -, -, -, -, hBW, -⟩ := hWz
        have hBz := hBW.size
        clear hbad
        have HJ : Hid (j < xs.length) := Lib.hid hj1
        gi_wp2_with (first
        | (refine ⟨trivial, ?_⟩; gi_at_call 28; refine (CallsIn.inRound l (callsIn_wide.2 (HKT.out _))).mono ?_; rintro e V0 ⟨rfl, rfl⟩)
        | (refine ⟨trivial, ?_⟩; gi_at_call 27; refine (CallsIn.inRound l (callsIn_wide.2 (HKC.out _))).mono ?_; rintro e V1 ⟨rfl, hV1⟩; obtain ⟨v1, -, -, -, q3, hq, -⟩ := hS1.out.mono hV1; have hT1 := HT.out.mono hq; have hc3 := q3.cell; clear q3 hq)
        | (refine ⟨trivial, ?_⟩; gi_at_call 16; refine (CallsIn.inRound l (callsIn_wide.2 (HKJ.out _ hT1))).mono ?_; clear hT1 hc3; rintro e V2 ⟨rfl, hV2'⟩; have hV2 := hV1.trans (hV2'.mono hV1.size); clear hV1 hV2'; obtain ⟨v1, q1, q2, q3, q4, hq, hq6⟩ := hS1.out.mono hV2; have c1 := q1.cell; have c3 := q3.cell; have c4 := q4.cell; have g1 := q1.frozen; have g3 := q3.frozen; have g4 := q4.frozen; have hz2 := hV2.size)
        | (gi_at_builtin; refine wpListIn_push1 rfl _ _ 22 9 rfl (.string ⟨#[]⟩) 16 Tryd.underlying22 Tryd.infoSt rfl (by decide) (w.heap.size + 4) _ _ _ rfl (World.ownsRow.alloc q2 _) _ _ _ rfl (cell_new _ _ _) rfl (by rw [hRl]; omega) (by simp; omega) ?_; intro v2 w3 h2 g2 b2; obtain ⟨g', cap', rfl⟩ := ownsRow_succ h2; have hb3 := ((Below.refl _ _).alloc (by omega) _).trans b2; have r1 := Boxed.belowB q1 (by omega) hb3; have r3 := Boxed.belowB q3 (by omega) hb3; have r4 := Boxed.belowB q4 (by omega) hb3; clear c1 c3 c4 g1 g3 g4; have c1 := r1.cell; have c3 := r3.cell; have c4 := r4.cell; have g1 := r1.frozen; have g3 := r3.frozen; have g4 := r4.frozen))
        have k6 : w.heap.size + 4 ≤ V0.heap.size := by obtain ⟨-, -, -, -, -, -, h⟩ := hS1.out; exact h
        have hrow : ∀ (i : Nat) (o : Obj), v1.ownBlock = some i → (V2.alloc (.cells #[.string b] 9)).heap[i]? = some o → o.isCells = true := by
          intro i o hi ho
          rcases (World.ownsRow.alloc q2 (.cells #[.string b] 9)).2 with ⟨rfl, _⟩ | ⟨g, cap, cur, rfl, _, hgb, _⟩
          · simp [Value.ownBlock] at hi
          · obtain rfl : g = i := by simpa [Value.ownBlock] using hi
            rw [hgb] at ho; cases ho; rfl
        have hcc : w3.heap[w.heap.size + 1 + 1 + 1]? = V0.heap[w.heap.size + 1 + 1 + 1]? := (hb3.block _ (by omega)).trans (hV2.block _ (by omega))
        refine ⟨((((keepsFrom_of_below hV2).trans ((KeepsOthers.alloc _ _).from _)).trans ((KeepsOthers.of_grownBy g2 hrow).from _)).trans ((KeepsOthers.setCell _ _ _).from _)).trans (((KeepsOthers.setCell _ _ _).from _).trans ((KeepsOthers.setCell _ _ _).from _)), ?_, ?_, ?_, ?_⟩
        · rw [heap_setCell_other _ _ _ _ (by simp <;> omega), heap_setCell_other _ _ _ _ (by simp <;> omega), heap_setCell_other _ _ _ _ (by simp; omega)]
          exact hcc
        · rw [HJ1.out]; exact hj1
        · intro i hi
          rw [HJ1.out] at hi
          by_cases e : i = j
          · subst e; exact hok1
          · exact HOK.out i (by omega)
        · rw [HJ1.out]
          refine ⟨_, ((r1.set _).kept (grownBy_setCell _ _ _ _) (by simp <;> omega)).kept (grownBy_setCell _ _ _ _) (by simp <;> omega), ?_, ?_, ?_, ?_, ?_⟩
          · refine (((OwnStr.turn (L := recL xs (j + 1)) ?_ (grownBy_setCell _ _ _ _) (.inl (by omega))).turn (grownBy_setCell _ _ _ _) (.inl (by omega))).turn (grownBy_setCell _ _ _ _) (.inl (by omega)))
            have h2' := h2
            rw [hRl] at h2'
            unfold OwnStr
            rw [HR1.out, List.map_append, List.length_append, hRl, hln1]
            exact h2'
          · rw [HS1.out]
            have e : ((szR xs j + ((lnAt xs j).size + 1) : Nat) : Int) = (szR xs j : Int) + (((lnAt xs j).size : Int) + 1) := by omega
            rw [e]
            exact ((r3.kept (grownBy_setCell _ _ _ _) (by simp <;> omega)).kept (grownBy_setCell _ _ _ _) (by simp <;> omega)).set _
          · rw [hck1]
            exact ((r4.kept (grownBy_setCell _ _ _ _) (by simp <;> omega)).set _).kept (grownBy_setCell _ _ _ _) (by simp <;> omega)
          · exact (((hq.trans (hb3.mono (by omega))).setCell (p := ⟨w.heap.size, 0, none⟩) (Nat.le_refl _) _).setCell (p := ⟨w.heap.size + 1 + 1, 0, none⟩) (by simp; omega) _).setCell (p := ⟨w.heap.size + 1, 0, none⟩) (by simp) _
          · have := hb3.size
            simp
            omega
      · obtain ⟨hn1, hn2⟩ := neq_text hw
        gi_wp2_with (first
        | (refine ⟨trivial, ?_⟩; gi_at_call 28; refine (CallsIn.inRound l (callsIn_wide.2 (HKT.out _))).mono ?_; rintro e V0 ⟨rfl, rfl⟩)
        | (refine ⟨trivial, ?_⟩; gi_at_call 27; refine (CallsIn.inRound l (callsIn_wide.2 (HKC.out _))).mono ?_; rintro e V1 ⟨rfl, hV1⟩; obtain ⟨v1, -, -, -, q3, hq, -⟩ := hS1.out.mono hV1; have hT1 := HT.out.mono hq; have hc3 := q3.cell; clear q3 hq)
        | (refine ⟨trivial, ?_⟩; gi_at_call 16; refine (CallsIn.inRound l (callsIn_wide.2 (HKJ.out _ hT1))).mono ?_; clear hT1 hc3; rintro e V2 ⟨rfl, hV2'⟩; have hV2 := hV1.trans (hV2'.mono hV1.size); clear hV1 hV2'))
        exact hbad _ _ hV2 (fun h => hw h.2)
  case done =>
    rintro D W hD ⟨h1, h2, h3⟩ hK
    have hll : (lnsB t).length = xs.length := by
      have hll' := congrArg List.length (lnsB_cut HX.out)
      rw [List.length_append, List.length_map] at hll'
      split at hll'
      · exact hll'
      · simp at hll'; omega
    have hSt : Stop xs xs.length := ⟨Nat.le_refl _, by rw [hll] at h2; exact h2, fun h => absurd h (Nat.lt_irrefl _)⟩
    rw [hll] at h3
    obtain ⟨v, q1, q2, q3, -, hb, -⟩ := h3
    have l1 := q1.lt
    have l3 := q3.lt
    have c1 := Lib.hid q1.cell
    have c3 := Lib.hid q3.cell
    have Hq := Lib.hid q2
    have HSt := Lib.hid hSt
    obtain ⟨n, hn⟩ : ∃ n, szR xs xs.length = n := ⟨_, rfl⟩
    rw [hn] at c3
    have HN := Lib.hid hn
    clear q1 q2 q3 hSt hn
    gi_upto_region 11 with fail
    refine wpIn_wide.2 ?_
    refine region_rel_all (by kernel_rfl) (by kernel_rfl) (Below W.heap.size W) (fun _ _ _ => False) (Below.drewN (Below.refl _ _) 1) ?_
    repeat (refine wpRel_un rfl rfl (fun wq hq K hK => ?_); (have q1 := ((bcell hq).1 _ _ l1).trans c1.out); (have q3 := ((bcell hq).1 _ _ l3).trans c3.out); go_wp2; clear q1 q3)
    refine wpRel_nil ?_
    intro wd hbd
    have hlD : D < W.heap.size := (Array.getElem?_eq_some_iff.1 hK).1
    have hK' : wd.heap[D]? = some (.deferred (some [])) := (hbd.block D hlD).trans hK
    have hD' : w.heap.size ≤ D := by omega
    have hbw := hb.trans (hbd.mono hb.size)
    gi_wp2
    refine ⟨by simp, .inl ⟨_, _, rfl, run_takeDeferred hK', ?_⟩⟩
    refine ⟨_, results_tmp2 (t := 2) (u := 3) rfl _ _ _, xs.length, v, HSt.out, by rw [HN.out]; rfl, ?_, hbw.trans (belowK_b (w := w) (Nat.le_refl _) wd D _ _ hD' hK' rfl rfl)⟩
    exact ((Hq.out.kept hbd).turn (grownBy_putObj' wd D _) (.inr ⟨_, hK', rfl⟩)).base (by omega)
  case stop =>
    rintro D jc pre x rest W hD _ ⟨rfl, k, hSt, h3⟩ hK
    obtain ⟨v, q1, q2, q3, -, hb, -⟩ := h3
    have l1 := q1.lt
    have l3 := q3.lt
    have c1 := Lib.hid q1.cell
    have c3 := Lib.hid q3.cell
    have Hq := Lib.hid q2
    have HSt := Lib.hid hSt
    obtain ⟨n, hn⟩ : ∃ n, szR xs k = n := ⟨_, rfl⟩
    rw [hn] at c3
    have HN := Lib.hid hn
    clear q1 q2 q3 hSt hn
    gi_upto_region 11 with fail
    refine wpIn_wide.2 ?_
    refine region_rel_all (by kernel_rfl) (by kernel_rfl) (Below W.heap.size W) (fun _ _ _ => False) (Below.drewN (Below.refl _ _) 1) ?_
    repeat (refine wpRel_un rfl rfl (fun wq hq K hK => ?_); (have q1 := ((bcell hq).1 _ _ l1).trans c1.out); (have q3 := ((bcell hq).1 _ _ l3).trans c3.out); go_wp2; clear q1 q3)
    refine wpRel_nil ?_
    intro wd hbd
    have hlD : D < W.heap.size := (Array.getElem?_eq_some_iff.1 hK).1
    have hK' : wd.heap[D]? = some (.deferred (some [])) := (hbd.block D hlD).trans hK
    have hD' : w.heap.size ≤ D := by omega
    have hbw := hb.trans (hbd.mono hb.size)
    gi_wp2
    refine ⟨by simp, .inl ⟨_, _, rfl, run_takeDeferred hK', ?_⟩⟩
    refine ⟨_, results_tmp2 (t := 2) (u := 3) rfl _ _ _, k, v, HSt.out, by rw [HN.out]; rfl, ?_, hbw.trans (belowK_b (w := w) (Nat.le_refl _) wd D _ _ hD' hK' rfl rfl)⟩
    exact ((Hq.out.kept hbd).turn (grownBy_putObj' wd D _) (.inr ⟨_, hK', rfl⟩)).base (by omega)
end Go.Proofs.YtalajgjdceoleaaDoor
