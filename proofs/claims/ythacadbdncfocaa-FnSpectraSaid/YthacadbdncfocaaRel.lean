/- A region that leaves its order open is walked once, in the order of its text, where each operation may hand back one of several values (a not-a-number whose bits are open), and every operation keeps a class of worlds. -/
import Derived.WalkKit
import Derived.StillTail
import Derived.Deep.Quiet
namespace Go.Proofs.Ythacadbdncfocaa
open Go
section
variable {P : Program} {ops : Array Oper} {md : Region.Mode} {C : World → Prop} {T : FuncId → Array Value → Value → Prop}

/-- What one operation's run is asked to be: it keeps the class. -/
def safeRun (P : Program) (C : World → Prop) (T : FuncId → Array Value → Value → Prop) : Result Next → Prop
  | .ok (.value _) w' => C w'
  | .ok .skip w' => C w'
  | .ok (.enter f args) w' => Calls P f args w' (fun e w'' => ∃ u, e = .returned u ∧ T f args u ∧ C w'')
  | _ => False
/-- What one operation's run may hand back. -/
def givesRun (T : FuncId → Array Value → Value → Prop) (v : Value) : Result Next → Prop
  | .ok (.value u) _ => v = u
  | .ok .skip _ => v = undef
  | .ok (.enter f args) _ => T f args v
  | _ => False
def Safe (P : Program) (ops : Array Oper) (C : World → Prop) (T : FuncId → Array Value → Value → Prop) (o : Oper) (a : Act) : Prop :=
  Region.wanted o (yielded ops a.tmps) = true → ∀ w, C w → safeRun P C T ((execOp a.eval o).run P w)
def Gives (P : Program) (ops : Array Oper) (C : World → Prop) (T : FuncId → Array Value → Value → Prop) (o : Oper) (a : Act) (v : Value) : Prop :=
  (Region.wanted o (yielded ops a.tmps) = true ∧ ∃ w, C w ∧ givesRun T v ((execOp a.eval o).run P w)) ∨ (Region.wanted o (yielded ops a.tmps) = false ∧ v = undef)
theorem Safe.of_same {o : Oper} {a a' : Act} (h : Safe P ops C T o a) (he : execOp a'.eval o = execOp a.eval o)
    (hw : Region.wanted o (yielded ops a'.tmps) = Region.wanted o (yielded ops a.tmps)) : Safe P ops C T o a' := by
  unfold Safe at *
  rw [he, hw]
  exact h
theorem gives_same {o : Oper} {a a' : Act} {v : Value} (he : execOp a'.eval o = execOp a.eval o)
    (hw : Region.wanted o (yielded ops a'.tmps) = Region.wanted o (yielded ops a.tmps)) : Gives P ops C T o a' v ↔ Gives P ops C T o a v := by
  unfold Gives
  rw [he, hw]

/-- Operation number 'i' comes up in state 'a'. -/
def rOp (P : Program) (ops : Array Oper) (C : World → Prop) (T : FuncId → Array Value → Value → Prop) (i : Nat) (K : Act → Prop) (a : Act) : Prop :=
  match ops[i]? with
  | none => K a
  | some o => Safe P ops C T o a ∧ ∀ v, Gives P ops C T o a v → K (a.put o.dst v)
theorem rOp_mono {i : Nat} {a : Act} {K K' : Act → Prop} (h : ∀ a, K a → K' a) (hh : rOp P ops C T i K a) : rOp P ops C T i K' a := by
  unfold rOp at *
  split
  · exact h _ (by simpa [*] using hh)
  · rename_i o ho
    simp only [ho] at hh
    exact ⟨hh.1, fun v hv => h _ (hh.2 v hv)⟩
theorem wpOp_of_rOp {i : Nat} {a : Act} {K : Act → Prop} {K' : Act → World → Prop} {Q' : Exit → Act → World → Prop} {w : World} (hC : C w) (h : ∀ a w', C w' → K a → K' a w') (hh : rOp P ops C T i K a) : wpOp P ops Q' i K' a w := by
  unfold rOp at hh
  unfold wpOp
  split
  · rename_i ho; simp only [ho] at hh; exact h _ _ hC hh
  · rename_i o ho
    simp only [ho] at hh
    obtain ⟨h1, h2⟩ := hh
    split
    · rename_i hw
      refine .inl ?_
      have h3 := h1 hw w hC
      have h4 : ∀ v, givesRun T v ((execOp a.eval o).run P w) → K (a.put o.dst v) := fun v hv => h2 v (.inl ⟨hw, w, hC, hv⟩)
      unfold Oper.wp
      generalize (execOp a.eval o).run P w = r at h3 h4
      cases r with
      | ok n w' =>
        cases n <;> simp only [safeRun, givesRun] at h3 h4 <;> simp only [Oper.upon]
        case value u => exact h _ _ h3 (h4 u rfl)
        case skip => exact h _ _ h3 (h4 _ rfl)
        case enter f args =>
          exact h3.mono fun e w'' ⟨u, he, hT, hC'⟩ => by subst he; exact h _ _ hC' (h4 u hT)
      | halt x w' => simp only [safeRun] at h3
    · rename_i hw
      exact h _ _ hC (h2 _ (.inr ⟨by simpa using hw, rfl⟩))
/-- Two operations that are apart: one may come up ahead of the other. -/
theorem rOp_put {j : Nat} {oi oj : Oper} (hj : ops[j]? = some oj) (hap : oi.apart ops oj = true)
    (hsi : ∀ cs b, oi.op ≠ .select cs b) (hsj : ∀ cs b, oj.op ≠ .select cs b) {K : Act → Prop} {a : Act}
    (hs : Safe P ops C T oi a) (hn : ∃ v, Gives P ops C T oi a v) (h : ∀ v, Gives P ops C T oi a v → rOp P ops C T j K (a.put oi.dst v)) :
    rOp P ops C T j (fun a' => Safe P ops C T oi a' ∧ (∃ v, Gives P ops C T oi a' v) ∧ ∀ v, Gives P ops C T oi a' v → K (a'.put oi.dst v)) a := by
  obtain ⟨h1, h2, h3⟩ := Oper.apart_spec hap
  unfold rOp at *
  simp only [hj] at *
  have ej : ∀ v, execOp (a.put oi.dst v).eval oj = execOp a.eval oj := fun v => execOp_put oj hsj a oi.dst v h1
  have wj : ∀ v, Region.wanted oj (yielded ops (a.put oi.dst v).tmps) = Region.wanted oj (yielded ops a.tmps) := fun v => wanted_put oj a oi.dst v h1
  have ei : ∀ u, execOp (a.put oj.dst u).eval oi = execOp a.eval oi := fun u => execOp_put oi hsi a oj.dst u h3
  have wi : ∀ u, Region.wanted oi (yielded ops (a.put oj.dst u).tmps) = Region.wanted oi (yielded ops a.tmps) := fun u => wanted_put oi a oj.dst u h3
  obtain ⟨v0, hv0⟩ := hn
  refine ⟨(h v0 hv0).1.of_same (ej v0).symm (wj v0).symm, fun u hu => ⟨hs.of_same (ei u) (wi u), ⟨v0, (gives_same (ei u) (wi u)).2 hv0⟩, fun v hv => ?_⟩⟩
  have hv' := (gives_same (ei u) (wi u)).1 hv
  have := (h v hv').2 u ((gives_same (ej v) (wj v)).2 hu)
  rw [← Act.put_comm a v u h2]
  exact this

/-- The operations in the order of the text. -/
def wpRel (P : Program) (ops : Array Oper) (C : World → Prop) (T : FuncId → Array Value → Value → Prop) (Q : Act → Prop) : List Oper → Act → Prop
  | [], a => Q a
  | o :: rest, a => Safe P ops C T o a ∧ (∃ v, Gives P ops C T o a v) ∧ ∀ v, Gives P ops C T o a v → wpRel P ops C T Q rest (a.put o.dst v)

/-- Whatever order is picked, till 'n' operations have come up and 'L' holds. -/
def wpAnyR (P : Program) (md : Region.Mode) (ops : Array Oper) (C : World → Prop) (T : FuncId → Array Value → Value → Prop) (n : Nat) (L : Array Bool → Act → Prop) : Nat → Array Bool → Act → Prop
  | 0, listed, a => L listed a
  | f + 1, listed, a =>
    Region.ready md ops listed ≠ [] ∧ ∀ i ∈ Region.ready md ops listed, i < n ∧ rOp P ops C T i (wpAnyR P md ops C T n L f (listed.setIfInBounds i true)) a
theorem wpAny_of_headR {n g : Nat} {L : Array Bool → Act → Prop} {Q' : Exit → Act → World → Prop} (hL : ∀ listed a w, C w → L listed a → wpAny P md ops Q' g listed a w) :
    ∀ (f : Nat) (listed : Array Bool) (a : Act) (w : World), C w → wpAnyR P md ops C T n L f listed a → wpAny P md ops Q' (f + g) listed a w
  | 0, listed, a, w, hC, h => by rw [Nat.zero_add]; exact hL _ _ _ hC h
  | f + 1, listed, a, w, hC, h => by
    rw [show f + 1 + g = (f + g) + 1 by omega]
    exact ⟨fun h0 => absurd h0 h.1, fun i hi => wpOp_of_rOp hC (fun a' w' hC' h' => wpAny_of_headR hL f _ a' w' hC' h') (h.2 i hi).2⟩
/-- The first m operations have come up. -/
structure HInv (md : Region.Mode) (ops : Array Oper) (m n : Nat) (listed : Array Bool) : Prop where
  inv : HeadInv md ops n listed
  pulled : ∀ i, i < m → listed.getD i false = true
theorem HInv.set {m n i : Nat} {listed : Array Bool} (inv : HInv md ops m n listed) (hi : i ∈ Region.ready md ops listed) (hin : i < n) : HInv md ops m n (listed.setIfInBounds i true) :=
  ⟨inv.inv.set hi hin, fun j hj => getD_set_true (inv.pulled j hj)⟩
/-- No operation of the tail comes up as long as one of the head is left. -/
def Waits (md : Region.Mode) (ops : Array Oper) (m n : Nat) : Prop :=
  ∀ listed, HInv md ops m n listed → ∀ i, i < n → listed.getD i true = false → ∀ t, t ∈ Region.ready md ops listed → t < n
def sinkM (md : Region.Mode) (ops : Array Oper) (m n : Nat) : Bool :=
  (List.range n).all fun i => decide (i < m) || (List.range (n + 1)).any fun j => decide (i < j) && Region.waitsFor md ops j i
theorem tail_waitsM {m n : Nat} {listed : Array Bool} (hs : sinkM md ops m n = true) (hc : Region.chainB md ops n = true) (hn : n < ops.size) (hinv : HInv md ops m n listed) :
    ∀ (d i : Nat), n - i = d → i < n → listed.getD i true = false → ∀ t, n ≤ t → t ∉ Region.ready md ops listed := by
  intro d
  have inv := hinv.inv
  induction d using Nat.strongRecOn with
  | _ d ih =>
    intro i hd hi hun t ht hr
    obtain ⟨_, ot, hot, hall⟩ := mem_ready.1 hr
    have htlt : t < ops.size := (Array.getElem?_eq_some_iff.1 hot).1
    by_cases htn : t = n
    · subst htn
      have h1 := List.all_eq_true.1 hs i (List.mem_range.2 hi)
      rw [Bool.or_eq_true] at h1
      rcases h1 with h1 | h1
      · have h2 := hinv.pulled i (by simpa using h1)
        rw [getD_both hun] at h2
        cases h2
      · obtain ⟨j, hj, hj2⟩ := List.any_eq_true.1 h1
        simp only [Bool.and_eq_true, decide_eq_true_eq] at hj2
        obtain ⟨oj, hoj, e, he, hb, hon⟩ := Region.waitsFor_spec hj2.2
        have hjle : j ≤ t := by have := List.mem_range.1 hj; omega
        by_cases hjt : j = t
        · subst hjt
          have : oj = ot := Option.some.inj (hoj.symm.trans hot)
          subst this
          have h2 := hall e he hb
          rw [hon, getD_both hun] at h2
          cases h2
        · cases hl : listed.getD j false with
          | true =>
            have h2 := inv.closed j oj hoj hl e he hb
            rw [hon, getD_both hun] at h2
            cases h2
          | false =>
            have hjs : j < listed.size := by rw [inv.size]; omega
            exact ih (t - j) (by omega) j rfl (by omega) (getD_in hjs hl) t (Nat.le_refl _) hr
    · have h1 := List.all_eq_true.1 hc t (List.mem_range.2 htlt)
      simp only [Bool.or_eq_true, decide_eq_true_eq] at h1
      rcases h1 with h1 | h1
      · omega
      · obtain ⟨o', ho', e, he, hb, hon⟩ := Region.waitsFor_spec h1
        have : o' = ot := Option.some.inj (ho'.symm.trans hot)
        subst this
        have h2 := hall e he hb
        rw [hon, getD_both (inv.tail (t - 1) (by omega) (by omega))] at h2
        cases h2
theorem waits_sink {m n : Nat} (hs : sinkM md ops m n = true) (hc : Region.chainB md ops n = true) (hn : n < ops.size) : Waits md ops m n := by
  intro listed inv i hi hun t ht
  rcases Nat.lt_or_ge t n with h | h
  · exact h
  · exact absurd ht (tail_waitsM hs hc hn inv _ i rfl hi hun t h)
theorem waits_all {m n : Nat} (hn : ops.size ≤ n) : Waits md ops m n := by
  intro listed _ i _ _ t ht
  obtain ⟨_, ot, hot, _⟩ := mem_ready.1 ht
  have := (Array.getElem?_eq_some_iff.1 hot).1
  omega
theorem wpAnyR_first {m n i : Nat} {oi : Oper} {L : Array Bool → Act → Prop} (hi : ops[i]? = some oi) (hsel : ∀ (j : Nat) (o : Oper) cs b, ops[j]? = some o → o.op ≠ .select cs b)
    (hwait : Waits md ops m n) (hin : i < n)
    (hdone : ∀ listed a, L listed a → ∀ j ∈ Region.ready md ops listed, n ≤ j) :
    ∀ (f : Nat) (listed : Array Bool) (a : Act), HInv md ops m n listed →
      (∀ j oj, ops[j]? = some oj → j ≠ i → listed.getD j true = false → (∀ e ∈ oj.after, Region.binds md e = true → e.on ≠ i) → oi.apart ops oj = true) →
      i ∈ Region.ready md ops listed → Safe P ops C T oi a → (∃ v, Gives P ops C T oi a v) →
      (∀ v, Gives P ops C T oi a v → wpAnyR P md ops C T n L f (listed.setIfInBounds i true) (a.put oi.dst v)) → wpAnyR P md ops C T n L (f + 1) listed a := by
  intro f
  induction f with
  | zero =>
    intro listed a inv _ hr hs hn H
    have hun := (mem_ready.1 hr).1
    refine ⟨fun h => (by rw [h] at hr; cases hr), fun j hj => ?_⟩
    have hjn : j < n := hwait listed inv i hin hun j hj
    refine ⟨hjn, ?_⟩
    by_cases hji : j = i
    · subst hji; unfold rOp; simp only [hi]; exact ⟨hs, H⟩
    · obtain ⟨v, hv⟩ := hn
      have := hdone _ _ (H v hv) j (ready_mono hj hji)
      omega
  | succ f ih =>
    intro listed a inv hfree hr hs hn H
    have hun := (mem_ready.1 hr).1
    refine ⟨fun h => (by rw [h] at hr; cases hr), fun j hj => ?_⟩
    have hjn : j < n := hwait listed inv i hin hun j hj
    refine ⟨hjn, ?_⟩
    by_cases hji : j = i
    · subst hji; unfold rOp; simp only [hi]; exact ⟨hs, H⟩
    · obtain ⟨hjun, oj, hoj, hall⟩ := mem_ready.1 hj
      have hnot : ∀ e ∈ oj.after, Region.binds md e = true → e.on ≠ i := fun e he hb heq => by
        have h1 := hall e he hb
        rw [heq, getD_both hun] at h1
        cases h1
      have h2 := rOp_put (T := T) hoj (hfree j oj hoj hji hjun hnot) (fun cs b => hsel i oi cs b hi) (fun cs b => hsel j oj cs b hoj) hs hn
        (fun v hv => ((H v hv).2 j (ready_mono hj hji)).2)
      have hfree' : ∀ k ok, ops[k]? = some ok → k ≠ i → (listed.setIfInBounds j true).getD k true = false →
          (∀ e ∈ ok.after, Region.binds md e = true → e.on ≠ i) → oi.apart ops ok = true := fun k ok hk hki hun hno => by
        refine hfree k ok hk hki ?_ hno
        by_cases hjk : j = k
        · subst hjk; exact hjun
        · rw [getD_set_ne true hjk] at hun; exact hun
      refine rOp_mono (fun a' h3 => ih (listed.setIfInBounds j true) a' (inv.set hj hjn) hfree' (ready_mono hr (Ne.symm hji)) h3.1 h3.2.1 fun v hv => ?_) h2
      rw [Array.setIfInBounds_comm _ _ hji]
      exact h3.2.2 v hv
theorem wpAnyR_lex {m n g : Nat} {Lq : Act → Prop} (hsel : Region.noSelect ops = true) (hwait : Waits md ops m n) :
    ∀ (l : List Oper) (k : Nat) (listed : Array Bool) (a : Act), (∀ j, j < l.length → l[j]? = ops[k + j]?) → k + l.length = n → HInv md ops m n listed →
    Region.lexHead md ops g l.length k listed = true → wpRel P ops C T Lq l a →
    wpAnyR P md ops C T n (fun listed' a' => Region.seqB md ops g n listed' = true ∧ Lq a') l.length listed a
  | [], k, listed, a, _, hk, _, hB, h => by
    have : k = n := by simpa using hk
    subst this
    exact ⟨by simpa [Region.lexHead] using hB, h⟩
  | o :: l, k, listed, a, hl, hk, inv, hB, h => by
    have h0 : ops[k]? = some o := by simpa using (hl 0 (by simp)).symm
    simp only [List.length_cons, Region.lexHead, Bool.and_eq_true] at hB
    obtain ⟨⟨hr, hf⟩, hB'⟩ := hB
    have hkn : k < n := by simp only [List.length_cons] at hk; omega
    have hr' : k ∈ Region.ready md ops listed := by simpa using hr
    obtain ⟨hs, hn, hK⟩ := h
    exact wpAnyR_first h0 (Region.noSelect_spec hsel) hwait hkn (fun listed' a' hL => seqB_ready hL.1) l.length listed a inv (Region.free_spec h0 hf) hr' hs hn
      (fun v hv => wpAnyR_lex hsel hwait l (k + 1) _ _ (fun j hj => by have := hl (j + 1) (by simp; omega); simpa [Nat.add_assoc, Nat.add_comm 1 j] using this) (by simp only [List.length_cons] at hk; omega) (inv.set hr' hkn) hB' (hK v hv))
/-- What is left of a wish where nothing may panic. -/
def noPanic (Q : Exit → Act → World → Prop) : Exit → Act → World → Prop := fun e a w => match e with
  | .normal => Q .normal a w
  | _ => False
theorem wp_noPanic {o : Oper} {a : Act} {w : World} {K K' : Act → World → Prop} {Q : Exit → Act → World → Prop} (h : ∀ a w, K a w → K' a w) (hh : o.wp P a w K (noPanic Q)) : o.wp P a w K' Q := by
  unfold Oper.wp at *
  generalize (execOp a.eval o).run P w = r at *
  cases r with
  | ok n w' =>
    cases n <;> simp only [Oper.upon] at hh ⊢ <;>
      first
        | exact h _ _ hh
        | exact Calls.mono hh (fun e w'' he => by
            cases e with
            | returned v => exact h _ _ he
            | panicked c => exact he.elim
            | outgrown => obtain ⟨_, _, he⟩ := he; exact he.elim)
        | exact Rows.mono hh (fun _ _ he => h _ _ he)
  | halt x w' => cases x <;> simp only [Oper.upon] at hh ⊢ <;> exact hh.elim
theorem wpAny_noPanic {Q : Exit → Act → World → Prop} : ∀ (f : Nat) (listed : Array Bool) (a : Act) (w : World), wpAny P md ops (noPanic Q) f listed a w → wpAny P md ops Q f listed a w
  | 0, _, _, _, h => h
  | f + 1, listed, a, w, h => by
    refine ⟨h.1, fun i hi => ?_⟩
    have h1 := h.2 i hi
    unfold wpOp at *
    split
    · rename_i ho; simp only [ho] at h1; exact wpAny_noPanic f _ _ _ h1
    · rename_i o ho
      simp only [ho] at h1
      split
      · rename_i hw
        simp only [hw, if_true] at h1
        rcases h1 with h1 | ⟨_, _, _, h2⟩
        · exact .inl (wp_noPanic (fun a' w' h' => wpAny_noPanic f _ _ _ h') h1)
        · exact h2.elim
      · rename_i hw; simp only [hw] at h1; exact wpAny_noPanic f _ _ _ h1
/-- A plain move. -/
def isMove (o : Oper) : Bool := match o.op, o.guard with
  | .move _, none => true
  | _, _ => false
def marked (listed : Array Bool) : Nat → Nat → Array Bool
  | 0, _ => listed
  | m + 1, k => marked (listed.setIfInBounds k true) m (k + 1)
def lexPull (md : Region.Mode) (ops : Array Oper) : Nat → Nat → Array Bool → Bool
  | 0, _, _ => true
  | m + 1, k, listed => (Region.ready md ops listed).contains k && Region.free md ops listed k && ((ops[k]?).map isMove).getD false && lexPull md ops m (k + 1) (listed.setIfInBounds k true)
theorem wpAny_pull {Lq : Act → Prop} {Q : Exit → Act → World → Prop} (hsel : Region.noSelect ops = true) (hQ : ∀ c a w, ¬ Q (.panic c) a w) {l2 : List Oper} {f : Nat} {w : World} (hC : C w) :
    ∀ (l1 : List Oper) (k : Nat) (listed : Array Bool) (a : Act), (∀ j, j < l1.length → l1[j]? = ops[k + j]?) → lexPull md ops l1.length k listed = true →
    wpRel P ops C T Lq (l1 ++ l2) a → (∀ a', wpRel P ops C T Lq l2 a' → wpAny P md ops Q f (marked listed l1.length k) a' w) → wpAny P md ops Q (f + l1.length) listed a w
  | [], k, listed, a, _, _, h, hk => by simpa [marked] using hk a (by simpa using h)
  | o :: l1, k, listed, a, hl, hB, h, hk => by
    have h0 : ops[k]? = some o := by simpa using (hl 0 (by simp)).symm
    simp only [List.length_cons, lexPull, Bool.and_eq_true, h0, Option.map_some, Option.getD_some] at hB
    obtain ⟨⟨⟨hr, hf⟩, hmv⟩, hB'⟩ := hB
    obtain ⟨x, hx, hg⟩ : ∃ x, o.op = .move x ∧ o.guard = none := by
      unfold isMove at hmv
      split at hmv
      · rename_i x h1 h2; exact ⟨x, h1, h2⟩
      · cases hmv
    have hrun : ∀ w, (execOp a.eval o).run P w = .ok (.value (a.eval x)) w := fun w => by simp [execOp, hx]
    have hw : Region.wanted o (yielded ops a.tmps) = true := by simp [Region.wanted, hg]
    have hrest := h.2.2 (a.eval x) (.inl ⟨hw, w, hC, by rw [hrun]; rfl⟩)
    refine wpAny_take (v := a.eval x) h0 hsel hf hr (fun c a w h => (hQ _ _ _ h).elim) (.inl ⟨hw, hrun⟩) ?_
    exact wpAny_pull hsel hQ hC l1 (k + 1) _ _ (fun j hj => by have := hl (j + 1) (by simp; omega); simpa [Nat.add_assoc, Nat.add_comm 1 j] using this) hB' hrest hk
theorem region_rel {id : Nat} {Q : Exit → Act → World → Prop} {a : Act} {w : World} {l : List Oper} (n : Nat) (hm : P.follows .mixedOrders = true) (hsel : Region.noSelect l.toArray = true) (hn : n ≤ l.length)
    (hwait : Waits .any l.toArray 0 n) (hlex : Region.lexHead .any l.toArray (l.toArray.size - n) n 0 (Array.replicate l.toArray.size false) = true)
    (C : World → Prop) (T : FuncId → Array Value → Value → Prop) (hC : C w.drew)
    (h : wpRel P l.toArray C T (fun a' => ∀ w', C w' → wpList P l.toArray Q (l.drop n) a' w') (l.take n) a) : (Code.region id l.toArray true).wp P Q a w := by
  have htl : (l.take n).length = n := by simp; omega
  have hdl : (l.drop n).length = l.toArray.size - n := by simp
  have inv0 : HInv .any l.toArray 0 n (Array.replicate l.toArray.size false) :=
    ⟨⟨by simp, fun j oj _ hl => (by rw [getD_replicate_false] at hl; cases hl), fun t _ ht => getD_in (by simpa using ht) (getD_replicate_false _ _)⟩, fun i hi => (by cases hi)⟩
  have H := wpAnyR_lex (md := .any) (g := l.toArray.size - n) hsel hwait (l.take n) 0 _ a (fun j hj => by
    have hj' : j < n := by rw [htl] at hj; exact hj
    simp [hj']) (by simpa using htl) inv0 (by rw [htl]; exact hlex) h
  refine wp_region_any hm ?_
  have := wpAny_of_headR (Q' := Q) (g := l.toArray.size - n) (fun listed a' w' hC' hL => by
    have := wpAny_of_seq (md := .any) (Q' := Q) (l.drop n) n listed a' w' (fun j => by simp [List.getElem?_drop]) (by rw [hdl]; exact hL.1) (hL.2 w' hC')
    rwa [hdl] at this) _ _ _ w.drew hC H
  rw [htl, show n + (l.toArray.size - n) = l.toArray.size by simp; omega] at this
  exact this

/-- A region whose last operations, from number 'n' on, come up last, in their order: the others keep the class. -/
def relTailB (ops : Array Oper) (n : Nat) : Bool :=
  Region.noSelect ops && decide (n < ops.size) && sinkM .any ops 0 n && Region.chainB .any ops n && Region.lexHead .any ops (ops.size - n) n 0 (Array.replicate ops.size false)
theorem region_rel_tail {id : Nat} {Q : Exit → Act → World → Prop} {a : Act} {w : World} {l : List Oper} (n : Nat) (hm : P.follows .mixedOrders = true) (hB : relTailB l.toArray n = true)
    (C : World → Prop) (T : FuncId → Array Value → Value → Prop) (hC : C w.drew)
    (h : wpRel P l.toArray C T (fun a' => ∀ w', C w' → wpList P l.toArray Q (l.drop n) a' w') (l.take n) a) : (Code.region id l.toArray true).wp P Q a w := by
  simp only [relTailB, Bool.and_eq_true, decide_eq_true_eq] at hB
  obtain ⟨⟨⟨⟨hsel, hn⟩, hs⟩, hc⟩, hlex⟩ := hB
  exact region_rel n hm hsel (by simpa using Nat.le_of_lt hn) (waits_sink hs hc hn) hlex C T hC h
/-- A region all of whose operations keep the class. -/
def relAllB (ops : Array Oper) : Bool :=
  Region.noSelect ops && Region.lexHead .any ops 0 ops.size 0 (Array.replicate ops.size false)
theorem region_rel_all {id : Nat} {Q : Exit → Act → World → Prop} {a : Act} {w : World} {l : List Oper} (hm : P.follows .mixedOrders = true) (hB : relAllB l.toArray = true)
    (C : World → Prop) (T : FuncId → Array Value → Value → Prop) (hC : C w.drew)
    (h : wpRel P l.toArray C T (fun a' => ∀ w', C w' → Q .normal a' w') l a) : (Code.region id l.toArray true).wp P Q a w := by
  simp only [relAllB, Bool.and_eq_true] at hB
  refine region_rel l.length hm hB.1 (Nat.le_refl _) (waits_all (by simp)) (by simpa using hB.2) C T hC ?_
  simpa [wpList] using h
/-- A region whose first m operations are moves that may come up at any time, and whose last operations, from number 'n' on, wait for all others but these. Nothing in its tail may panic. -/
def relPullB (ops : Array Oper) (m n : Nat) : Bool :=
  Region.noSelect ops && decide (n < ops.size) && decide (m ≤ n) && sinkM .any ops m n && Region.chainB .any ops n && lexPull .any ops m 0 (Array.replicate ops.size false) && Region.lexHead .any ops (ops.size - n) (n - m) m (marked (Array.replicate ops.size false) m 0)
theorem marked_inv {m n : Nat} (hmn : m ≤ n) (hn : n ≤ ops.size) : ∀ (d k : Nat) (listed : Array Bool), k + d = m → HInv md ops k n listed → lexPull md ops d k listed = true → HInv md ops m n (marked listed d k)
  | 0, k, listed, hk, inv, _ => by
    obtain rfl : k = m := by omega
    exact inv
  | d + 1, k, listed, hk, inv, hB => by
    simp only [lexPull, Bool.and_eq_true] at hB
    obtain ⟨⟨⟨hr, _⟩, _⟩, hB'⟩ := hB
    have hr' : k ∈ Region.ready md ops listed := by simpa using hr
    have inv' := inv.inv.set hr' (by omega)
    refine marked_inv hmn hn d (k + 1) _ (by omega) ⟨inv', fun i hi => ?_⟩ hB'
    by_cases h : i = k
    · subst h
      have : i < listed.size := by rw [inv.inv.size]; omega
      simp [this]
    · exact getD_set_true (inv.pulled i (by omega))
theorem region_rel_pull {id : Nat} {Q : Exit → Act → World → Prop} {a : Act} {w : World} {l : List Oper} (m n : Nat) (hm : P.follows .mixedOrders = true) (hB : relPullB l.toArray m n = true)
    (C : World → Prop) (T : FuncId → Array Value → Value → Prop) (hC : C w.drew)
    (h : wpRel P l.toArray C T (fun a' => ∀ w', C w' → wpList P l.toArray (noPanic Q) (l.drop n) a' w') (l.take n) a) : (Code.region id l.toArray true).wp P Q a w := by
  simp only [relPullB, Bool.and_eq_true, decide_eq_true_eq] at hB
  obtain ⟨⟨⟨⟨⟨⟨hsel, hn⟩, hmn⟩, hs⟩, hc⟩, hpull⟩, hlex⟩ := hB
  have hn' : n < l.length := by simpa using hn
  have hdl : (l.drop n).length = l.toArray.size - n := by simp
  have inv0 : HInv .any l.toArray 0 n (Array.replicate l.toArray.size false) :=
    ⟨⟨by simp, fun j oj _ hl => (by rw [getD_replicate_false] at hl; cases hl), fun t _ ht => getD_in (by simpa using ht) (getD_replicate_false _ _)⟩, fun i hi => (by cases hi)⟩
  have inv1 := marked_inv hmn (by simpa using Nat.le_of_lt hn') m 0 _ (by omega) inv0 hpull
  refine wp_region_any hm (wpAny_noPanic _ _ _ _ ?_)
  have htl : (l.take m).length = m := by simp; omega
  have hsplit : l.take n = l.take m ++ (l.drop m).take (n - m) := by
    rw [show n = m + (n - m) by omega, List.take_add]
    simp
  rw [hsplit] at h
  have hd2 : ((l.drop m).take (n - m)).length = n - m := by simp; omega
  have hfuel : l.toArray.size = (n - m + (l.toArray.size - n)) + (l.take m).length := by rw [htl]; simp; omega
  have := wpAny_pull (P := P) (md := .any) (Q := noPanic Q) (f := n - m + (l.toArray.size - n)) (w := w.drew) hsel (fun _ _ _ h => h) hC (l.take m) 0 (Array.replicate l.toArray.size false) a (fun j hj => by
    have hj' : j < m := by rw [htl] at hj; exact hj
    simp [hj']) (by rw [htl]; exact hpull) h (fun a' h' => by
      rw [htl]
      have H := wpAnyR_lex (md := .any) (g := l.toArray.size - n) hsel (waits_sink hs hc hn) ((l.drop m).take (n - m)) m _ a' (fun j hj => by
        rw [hd2] at hj
        simp [List.getElem?_take, hj, List.getElem?_drop]) (by rw [hd2]; omega) inv1 (by rw [hd2]; exact hlex) h'
      have := wpAny_of_headR (Q' := noPanic Q) (g := l.toArray.size - n) (fun listed a' w' hC' hL => by
        have := wpAny_of_seq (md := .any) (Q' := noPanic Q) (l.drop n) n listed a' w' (fun j => by simp [List.getElem?_drop]) (by rw [hdl]; exact hL.1) (hL.2 w' hC')
        rwa [hdl] at this) _ _ _ w.drew hC H
      rw [hd2] at this
      exact this)
  rw [← hfuel] at this
  exact this
end
end Go.Proofs.Ythacadbdncfocaa
