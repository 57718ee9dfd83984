/- A region that leaves its order open is walked once, in the order of its text, where operations make memory: each is run in whatever world grew out of those behind the operations that it waits for. -/
import Derived.Test.YthacadbdncfocaaRelOp
import Derived.Test.YthacadbdncfocaaOwn
namespace Go.Proofs.Ythacadbdncfocaa
open Go Go.RowKit

/-- w' grew out of w: what stood in w stands in w'. -/
def Ext (w w' : World) : Prop := Below w.heap.size w w'
theorem Ext.refl (w : World) : Ext w w := Below.refl _ _
theorem Ext.trans {a b c : World} (h : Ext a b) (k : Ext b c) : Ext a c := Below.trans h (Below.mono k (Below.size h))
theorem Ext.drew (w : World) : Ext w w.drew := Below.drewN (Below.refl _ _) 1
def upd (κ : Nat → World) (k : Nat) (w : World) : Nat → World := fun i => if i = k then w else κ i
theorem upd_comm {κ : Nat → World} {i j : Nat} (h : i ≠ j) (x y : World) : upd (upd κ i x) j y = upd (upd κ j y) i x := by
  funext n
  unfold upd
  by_cases h1 : n = j
  · by_cases h2 : n = i
    · omega
    · simp [h1]; intro h; omega
  · simp [h1]
section
variable {P : Program} {ops : Array Oper} {md : Region.Mode} {W : World} {T : FuncId → Array Value → World → Value → World → Prop}

/-- THE CLASS of the worlds in which an operation comes up. -/
def Grw (md : Region.Mode) (W : World) (κ : Nat → World) (o : Oper) (w : World) : Prop := Ext W w ∧ ∀ e ∈ o.after, Region.binds md e = true → Ext (κ e.on) w
def safeRunK (P : Program) (T : FuncId → Array Value → World → Value → World → Prop) (w : World) : Result Next → Prop
  | .ok (.value _) w' => Ext w w'
  | .ok .skip w' => Ext w w'
  | .ok (.enter f args) w' => Calls P f args w' (fun e w'' => ∃ u, e = .returned u ∧ T f args w' u w'' ∧ Ext w w'') ∧ ∃ u w'', T f args w' u w'' ∧ Ext w w''
  | _ => False
def givesRunK (T : FuncId → Array Value → World → Value → World → Prop) (w : World) (v : Value) (wn : World) : Result Next → Prop
  | .ok (.value u) w' => v = u ∧ wn = w'
  | .ok .skip w' => v = undef ∧ wn = w'
  | .ok (.enter f args) w' => T f args w' v wn ∧ Ext w wn
  | _ => False
def SafeK (P : Program) (md : Region.Mode) (ops : Array Oper) (W : World) (T : FuncId → Array Value → World → Value → World → Prop) (κ : Nat → World) (o : Oper) (a : Act) : Prop :=
  Region.wanted o (yielded ops a.tmps) = true → ∀ w, Grw md W κ o w → safeRunK P T w ((execOp a.eval o).run P w)
def GivesK (P : Program) (md : Region.Mode) (ops : Array Oper) (W : World) (T : FuncId → Array Value → World → Value → World → Prop) (κ : Nat → World) (o : Oper) (a : Act) (v : Value) (wn : World) : Prop :=
  (Region.wanted o (yielded ops a.tmps) = true ∧ ∃ w, Grw md W κ o w ∧ givesRunK T w v wn ((execOp a.eval o).run P w)) ∨ (Region.wanted o (yielded ops a.tmps) = false ∧ v = undef ∧ Grw md W κ o wn)
theorem SafeK.of_same {κ κ' : Nat → World} {o : Oper} {a a' : Act} (h : SafeK P md ops W T κ o a) (he : execOp a'.eval o = execOp a.eval o)
    (hw : Region.wanted o (yielded ops a'.tmps) = Region.wanted o (yielded ops a.tmps)) (hc : ∀ w, Grw md W κ' o w → Grw md W κ o w) : SafeK P md ops W T κ' o a' := by
  unfold SafeK at *
  rw [he, hw]
  exact fun h1 w h2 => h h1 w (hc w h2)
theorem GivesK.same {κ κ' : Nat → World} {o : Oper} {a a' : Act} {v : Value} {wn : World} (h : GivesK P md ops W T κ o a v wn) (he : execOp a'.eval o = execOp a.eval o)
    (hw : Region.wanted o (yielded ops a'.tmps) = Region.wanted o (yielded ops a.tmps)) (hc : ∀ w, Grw md W κ o w → Grw md W κ' o w) : GivesK P md ops W T κ' o a' v wn := by
  unfold GivesK at *
  rw [he, hw]
  rcases h with ⟨h1, w, h2, h3⟩ | ⟨h1, h2, h3⟩
  · exact .inl ⟨h1, w, hc w h2, h3⟩
  · exact .inr ⟨h1, h2, hc _ h3⟩
theorem cls_upd {κ : Nat → World} {o : Oper} {i : Nat} {x w : World} (h : ∀ e ∈ o.after, Region.binds md e = true → e.on ≠ i) : Grw md W (upd κ i x) o w ↔ Grw md W κ o w := by
  unfold Grw
  constructor
  · exact fun ⟨h1, h2⟩ => ⟨h1, fun e he hb => by have := h2 e he hb; rwa [upd, if_neg (h e he hb)] at this⟩
  · exact fun ⟨h1, h2⟩ => ⟨h1, fun e he hb => by rw [upd, if_neg (h e he hb)]; exact h2 e he hb⟩

/-- A world in which all that has come up stands. -/
def Inv (W : World) (listed : Array Bool) (κ : Nat → World) (w : World) : Prop := Ext W w ∧ ∀ i, listed.getD i false = true → Ext (κ i) w
def Cons (W : World) (listed : Array Bool) (κ : Nat → World) : Prop := ∃ m, Inv W listed κ m
theorem Inv.cls {listed : Array Bool} {κ : Nat → World} {w : World} {i : Nat} {o : Oper} (h : Inv W listed κ w) (hi : i ∈ Region.ready md ops listed) (ho : ops[i]? = some o) : Grw md W κ o w := by
  obtain ⟨_, o', ho', hall⟩ := mem_ready.1 hi
  obtain rfl : o' = o := Option.some.inj (ho'.symm.trans ho)
  exact ⟨h.1, fun e he hb => h.2 _ (hall e he hb)⟩
theorem Inv.put {listed : Array Bool} {κ : Nat → World} {w w' : World} {i : Nat} (h : Inv W listed κ w) (he : Ext w w') : Inv W (listed.setIfInBounds i true) (upd κ i w') w' := by
  refine ⟨h.1.trans he, fun j hj => ?_⟩
  unfold upd
  by_cases hji : j = i
  · rw [if_pos hji]; exact Ext.refl _
  · rw [if_neg hji]
    rw [getD_set_ne false (Ne.symm hji)] at hj
    exact (h.2 j hj).trans he
/-- In a world in which all stands, an operation that is safe hands something back. -/
theorem some_gives {κ : Nat → World} {o : Oper} {a : Act} {listed : Array Bool} {i : Nat} (hs : SafeK P md ops W T κ o a) (hc : Cons W listed κ) (hi : i ∈ Region.ready md ops listed) (ho : ops[i]? = some o) :
    ∃ v wn, GivesK P md ops W T κ o a v wn ∧ Cons W (listed.setIfInBounds i true) (upd κ i wn) := by
  obtain ⟨m, hm⟩ := hc
  have hcl := hm.cls hi ho
  by_cases hw : Region.wanted o (yielded ops a.tmps) = true
  · have h1 := hs hw m hcl
    have h2 : ∀ v wn, givesRunK T m v wn ((execOp a.eval o).run P m) → GivesK P md ops W T κ o a v wn := fun v wn h => .inl ⟨hw, m, hcl, h⟩
    generalize (execOp a.eval o).run P m = r at h1 h2
    cases r with
    | ok n w' =>
      cases n <;> simp only [safeRunK] at h1
      case value u => exact ⟨u, w', h2 _ _ ⟨rfl, rfl⟩, w', hm.put h1⟩
      case skip => exact ⟨_, w', h2 _ _ ⟨rfl, rfl⟩, w', hm.put h1⟩
      case enter f args =>
        obtain ⟨_, u, w'', h3, h4⟩ := h1
        exact ⟨u, w'', h2 _ _ ⟨h3, h4⟩, w'', hm.put h4⟩
    | halt x w' => simp only [safeRunK] at h1
  · exact ⟨undef, m, .inr ⟨by simpa using hw, rfl, hcl⟩, m, hm.put (Ext.refl _)⟩

/-- Operation number 'i' comes up in state 'a'. -/
def kOp (P : Program) (md : Region.Mode) (ops : Array Oper) (W : World) (T : FuncId → Array Value → World → Value → World → Prop) (i : Nat) (listed : Array Bool) (K : Act → (Nat → World) → Prop) (a : Act) (κ : Nat → World) : Prop :=
  match ops[i]? with
  | none => K a κ
  | some o => SafeK P md ops W T κ o a ∧ ∀ v wn, GivesK P md ops W T κ o a v wn → Cons W (listed.setIfInBounds i true) (upd κ i wn) → K (a.put o.dst v) (upd κ i wn)
theorem kOp_mono {i : Nat} {listed : Array Bool} {a : Act} {κ : Nat → World} {K K' : Act → (Nat → World) → Prop} (h : ∀ a κ, Cons W (listed.setIfInBounds i true) κ ∨ ops[i]? = none → K a κ → K' a κ) (hh : kOp P md ops W T i listed K a κ) : kOp P md ops W T i listed K' a κ := by
  unfold kOp at *
  split
  · rename_i ho
    simp only [ho] at hh
    exact h _ _ (.inr ho) hh
  · rename_i o ho
    simp only [ho] at hh
    exact ⟨hh.1, fun v wn hv hc => h _ _ (.inl hc) (hh.2 v wn hv hc)⟩
theorem wpOp_of_kOp {i : Nat} {listed : Array Bool} {a : Act} {κ : Nat → World} {K : Act → (Nat → World) → Prop} {K' : Act → World → Prop} {Q' : Exit → Act → World → Prop} {w : World} (hC : Inv W listed κ w) (hi : i ∈ Region.ready md ops listed)
    (h : ∀ a κ' w', Inv W (listed.setIfInBounds i true) κ' w' → K a κ' → K' a w') (hh : kOp P md ops W T i listed K a κ) : wpOp P ops Q' i K' a w := by
  obtain ⟨_, o, ho, _⟩ := mem_ready.1 hi
  have hcl := hC.cls hi ho
  unfold kOp at hh
  unfold wpOp
  simp only [ho] at hh ⊢
  obtain ⟨h1, h2⟩ := hh
  split
  · rename_i hw
    refine .inl ?_
    have h3 := h1 hw w hcl
    have h4 : ∀ v wn, givesRunK T w v wn ((execOp a.eval o).run P w) → Ext w wn → K (a.put o.dst v) (upd κ i wn) := fun v wn hv he => h2 v wn (.inl ⟨hw, w, hcl, hv⟩) ⟨wn, hC.put he⟩
    unfold Oper.wp
    generalize (execOp a.eval o).run P w = r at h3 h4
    cases r with
    | ok n w' =>
      cases n <;> simp only [safeRunK, givesRunK] at h3 h4 <;> simp only [Oper.upon]
      case value u => exact h _ _ _ (hC.put h3) (h4 u w' ⟨rfl, rfl⟩ h3)
      case skip => exact h _ _ _ (hC.put h3) (h4 _ w' ⟨rfl, rfl⟩ h3)
      case enter f args =>
        exact h3.1.mono fun e w'' ⟨u, he, hT, hC'⟩ => by subst he; exact h _ _ _ (hC.put hC') (h4 u w'' ⟨hT, hC'⟩ hC')
    | halt x w' => simp only [safeRunK] at h3
  · rename_i hw
    exact h _ _ _ (hC.put (Ext.refl _)) (h2 _ w (.inr ⟨by simpa using hw, rfl, hcl⟩) ⟨w, hC.put (Ext.refl _)⟩)
theorem cons_less {listed : Array Bool} {κ : Nat → World} {i j : Nat} {x y : World} (hji : j ≠ i) (hju : listed.getD j false = false) (h : Cons W ((listed.setIfInBounds j true).setIfInBounds i true) (upd (upd κ j x) i y)) :
    Cons W (listed.setIfInBounds i true) (upd κ i y) := by
  obtain ⟨m, h1, h2⟩ := h
  refine ⟨m, h1, fun n hn => ?_⟩
  have hnj : n ≠ j := fun e => by
    subst e
    rw [getD_set_ne false (Ne.symm hji), hju] at hn
    cases hn
  have h3 := h2 n (by rw [Array.setIfInBounds_comm _ _ hji]; exact getD_set_true hn)
  unfold upd at h3 ⊢
  rwa [if_neg hnj] at h3
/-- Two operations that are apart: one may come up ahead of the other. -/
theorem kOp_put {i j : Nat} {oi oj : Oper} {listed : Array Bool} (hi : ops[i]? = some oi) (hj : ops[j]? = some oj) (hji : j ≠ i) (hir : i ∈ Region.ready md ops listed) (hjr : j ∈ Region.ready md ops listed) (hap : oi.apart ops oj = true)
    (hsi : ∀ cs b, oi.op ≠ .select cs b) (hsj : ∀ cs b, oj.op ≠ .select cs b) {K : Act → (Nat → World) → Prop} {a : Act} {κ : Nat → World}
    (hs : SafeK P md ops W T κ oi a) (hc : Cons W listed κ) (h : ∀ v wn, GivesK P md ops W T κ oi a v wn → Cons W (listed.setIfInBounds i true) (upd κ i wn) → kOp P md ops W T j (listed.setIfInBounds i true) K (a.put oi.dst v) (upd κ i wn)) :
    kOp P md ops W T j listed (fun a' κ' => SafeK P md ops W T κ' oi a' ∧ ∀ v wn, GivesK P md ops W T κ' oi a' v wn → Cons W ((listed.setIfInBounds j true).setIfInBounds i true) (upd κ' i wn) → K (a'.put oi.dst v) (upd κ' i wn)) a κ := by
  obtain ⟨h1, h2, h3⟩ := Oper.apart_spec hap
  have hju := getD_both (mem_ready.1 hjr).1
  have hiu := getD_both (mem_ready.1 hir).1
  have nji : ∀ e ∈ oj.after, Region.binds md e = true → e.on ≠ i := fun e he hb heq => by
    obtain ⟨_, o', ho', hall⟩ := mem_ready.1 hjr
    obtain rfl : o' = oj := Option.some.inj (ho'.symm.trans hj)
    have := hall e he hb
    rw [heq, hiu] at this
    cases this
  have nij : ∀ e ∈ oi.after, Region.binds md e = true → e.on ≠ j := fun e he hb heq => by
    obtain ⟨_, o', ho', hall⟩ := mem_ready.1 hir
    obtain rfl : o' = oi := Option.some.inj (ho'.symm.trans hi)
    have := hall e he hb
    rw [heq, hju] at this
    cases this
  unfold kOp at *
  simp only [hj] at *
  have ej : ∀ v, execOp (a.put oi.dst v).eval oj = execOp a.eval oj := fun v => execOp_put oj hsj a oi.dst v h1
  have wj : ∀ v, Region.wanted oj (yielded ops (a.put oi.dst v).tmps) = Region.wanted oj (yielded ops a.tmps) := fun v => wanted_put oj a oi.dst v h1
  have ei : ∀ u, execOp (a.put oj.dst u).eval oi = execOp a.eval oi := fun u => execOp_put oi hsi a oj.dst u h3
  have wi : ∀ u, Region.wanted oi (yielded ops (a.put oj.dst u).tmps) = Region.wanted oi (yielded ops a.tmps) := fun u => wanted_put oi a oj.dst u h3
  obtain ⟨v0, w0, hv0, hc0⟩ := some_gives hs hc hir hi
  refine ⟨(h v0 w0 hv0 hc0).1.of_same (ej v0).symm (wj v0).symm fun w hw => (cls_upd nji).2 hw, fun u wu hu hcu => ⟨hs.of_same (ei u) (wi u) fun w hw => (cls_upd nij).1 hw, fun v wn hv hcv => ?_⟩⟩
  have hv' : GivesK P md ops W T κ oi a v wn := hv.same (ei u).symm (wi u).symm fun w hw => (cls_upd nij).1 hw
  have := (h v wn hv' (cons_less hji hju hcv)).2 u wu (hu.same (ej v) (wj v) fun w hw => (cls_upd nji).2 hw) (by rw [upd_comm (Ne.symm hji), Array.setIfInBounds_comm _ _ (Ne.symm hji)]; exact hcv)
  rw [← Act.put_comm a v u h2, ← upd_comm (Ne.symm hji)]
  exact this

/-- The operations in the order of the text. -/
def wpRelK (P : Program) (md : Region.Mode) (ops : Array Oper) (W : World) (T : FuncId → Array Value → World → Value → World → Prop) (Q : Act → (Nat → World) → Prop) : List Oper → Nat → Act → (Nat → World) → Prop
  | [], _, a, κ => Q a κ
  | o :: rest, k, a, κ => SafeK P md ops W T κ o a ∧ ∀ v wn, GivesK P md ops W T κ o a v wn → wpRelK P md ops W T Q rest (k + 1) (a.put o.dst v) (upd κ k wn)

/-- Whatever order is picked, till 'n' operations have come up and 'L' holds. -/
def wpAnyK (P : Program) (md : Region.Mode) (ops : Array Oper) (W : World) (T : FuncId → Array Value → World → Value → World → Prop) (n : Nat) (L : Array Bool → Act → (Nat → World) → Prop) : Nat → Array Bool → Act → (Nat → World) → Prop
  | 0, listed, a, κ => L listed a κ
  | f + 1, listed, a, κ =>
    Region.ready md ops listed ≠ [] ∧ ∀ i ∈ Region.ready md ops listed, i < n ∧ kOp P md ops W T i listed (wpAnyK P md ops W T n L f (listed.setIfInBounds i true)) a κ
theorem wpAny_of_headK {n g : Nat} {L : Array Bool → Act → (Nat → World) → Prop} {Q' : Exit → Act → World → Prop} (hL : ∀ listed a κ w, Inv W listed κ w → L listed a κ → wpAny P md ops Q' g listed a w) :
    ∀ (f : Nat) (listed : Array Bool) (a : Act) (κ : Nat → World) (w : World), Inv W listed κ w → wpAnyK P md ops W T n L f listed a κ → wpAny P md ops Q' (f + g) listed a w
  | 0, listed, a, κ, w, hC, h => by rw [Nat.zero_add]; exact hL _ _ _ _ hC h
  | f + 1, listed, a, κ, w, hC, h => by
    rw [show f + 1 + g = (f + g) + 1 by omega]
    exact ⟨fun h0 => absurd h0 h.1, fun i hi => wpOp_of_kOp hC hi (fun a' κ' w' hC' h' => wpAny_of_headK hL f _ a' κ' w' hC' h') (h.2 i hi).2⟩
theorem wpAnyK_first {m n i : Nat} {oi : Oper} {L : Array Bool → Act → (Nat → World) → Prop} (hi : ops[i]? = some oi) (hsel : ∀ (j : Nat) (o : Oper) cs b, ops[j]? = some o → o.op ≠ .select cs b)
    (hwait : Waits md ops m n) (hin : i < n)
    (hdone : ∀ listed a κ, L listed a κ → ∀ j ∈ Region.ready md ops listed, n ≤ j) :
    ∀ (f : Nat) (listed : Array Bool) (a : Act) (κ : Nat → World), HInv md ops m n listed → Cons W listed κ →
      (∀ j oj, ops[j]? = some oj → j ≠ i → listed.getD j true = false → (∀ e ∈ oj.after, Region.binds md e = true → e.on ≠ i) → oi.apart ops oj = true) →
      i ∈ Region.ready md ops listed → SafeK P md ops W T κ oi a →
      (∀ v wn, GivesK P md ops W T κ oi a v wn → Cons W (listed.setIfInBounds i true) (upd κ i wn) → wpAnyK P md ops W T n L f (listed.setIfInBounds i true) (a.put oi.dst v) (upd κ i wn)) → wpAnyK P md ops W T n L (f + 1) listed a κ := by
  intro f
  induction f with
  | zero =>
    intro listed a κ inv hcs _ hr hs H
    have hun := (mem_ready.1 hr).1
    refine ⟨fun h => (by rw [h] at hr; cases hr), fun j hj => ?_⟩
    have hjn : j < n := hwait listed inv i hin hun j hj
    refine ⟨hjn, ?_⟩
    by_cases hji : j = i
    · subst hji; unfold kOp; simp only [hi]; exact ⟨hs, H⟩
    · obtain ⟨v, wn, hv, hc⟩ := some_gives hs hcs hr hi
      have := hdone _ _ _ (H v wn hv hc) j (ready_mono hj hji)
      omega
  | succ f ih =>
    intro listed a κ inv hcs hfree hr hs H
    have hun := (mem_ready.1 hr).1
    refine ⟨fun h => (by rw [h] at hr; cases hr), fun j hj => ?_⟩
    have hjn : j < n := hwait listed inv i hin hun j hj
    refine ⟨hjn, ?_⟩
    by_cases hji : j = i
    · subst hji; unfold kOp; simp only [hi]; exact ⟨hs, H⟩
    · obtain ⟨hjun, oj, hoj, hall⟩ := mem_ready.1 hj
      have hnot : ∀ e ∈ oj.after, Region.binds md e = true → e.on ≠ i := fun e he hb heq => by
        have h1 := hall e he hb
        rw [heq, getD_both hun] at h1
        cases h1
      have h2 := kOp_put (T := T) hi hoj hji hr hj (hfree j oj hoj hji hjun hnot) (fun cs b => hsel i oi cs b hi) (fun cs b => hsel j oj cs b hoj) hs hcs
        (fun v wn hv hc => ((H v wn hv hc).2 j (ready_mono hj hji)).2)
      have hfree' : ∀ k ok, ops[k]? = some ok → k ≠ i → (listed.setIfInBounds j true).getD k true = false →
          (∀ e ∈ ok.after, Region.binds md e = true → e.on ≠ i) → oi.apart ops ok = true := fun k ok hk hki hun hno => by
        refine hfree k ok hk hki ?_ hno
        by_cases hjk : j = k
        · subst hjk; exact hjun
        · rw [getD_set_ne true hjk] at hun; exact hun
      refine kOp_mono (fun a' κ' hc' h3 => ih (listed.setIfInBounds j true) a' κ' (inv.set hj hjn) (hc'.resolve_right (by rw [hoj]; intro e; cases e)) hfree' (ready_mono hr (Ne.symm hji)) h3.1 fun v wn hv hc => ?_) h2
      rw [Array.setIfInBounds_comm _ _ hji]
      exact h3.2 v wn hv hc
theorem wpAnyK_lex {m n g : Nat} {Lq : Act → (Nat → World) → Prop} (hsel : Region.noSelect ops = true) (hwait : Waits md ops m n) (hns : n ≤ ops.size) :
    ∀ (l : List Oper) (k : Nat) (listed : Array Bool) (a : Act) (κ : Nat → World), (∀ j, j < l.length → l[j]? = ops[k + j]?) → k + l.length = n → HInv md ops m n listed → Cons W listed κ → (∀ i, i < k → listed.getD i false = true) →
    Region.lexHead md ops g l.length k listed = true → wpRelK P md ops W T Lq l k a κ →
    wpAnyK P md ops W T n (fun listed' a' κ' => Region.seqB md ops g n listed' = true ∧ (∀ i, i < n → listed'.getD i false = true) ∧ Lq a' κ') l.length listed a κ
  | [], k, listed, a, κ, _, hk, _, _, hall, hB, h => by
    have : k = n := by simpa using hk
    subst this
    exact ⟨by simpa [Region.lexHead] using hB, hall, h⟩
  | o :: l, k, listed, a, κ, hl, hk, inv, hcs, hall, hB, h => by
    have h0 : ops[k]? = some o := by simpa using (hl 0 (by simp)).symm
    simp only [List.length_cons, Region.lexHead, Bool.and_eq_true] at hB
    obtain ⟨⟨hr, hf⟩, hB'⟩ := hB
    have hkn : k < n := by simp only [List.length_cons] at hk; omega
    have hr' : k ∈ Region.ready md ops listed := by simpa using hr
    obtain ⟨hs, hK⟩ := h
    exact wpAnyK_first h0 (Region.noSelect_spec hsel) hwait hkn (fun listed' a' κ' hL => seqB_ready hL.1) l.length listed a κ inv hcs (Region.free_spec h0 hf) hr' hs
      (fun v wn hv hc => wpAnyK_lex hsel hwait hns l (k + 1) _ _ _ (fun j hj => by have := hl (j + 1) (by simp; omega); simpa [Nat.add_assoc, Nat.add_comm 1 j] using this) (by simp only [List.length_cons] at hk; omega) (inv.set hr' hkn) hc
        (fun i hi => by
          by_cases h : i = k
          · subst h
            have : i < listed.size := by rw [inv.inv.size]; omega
            simp [this]
          · exact getD_set_true (hall i (by omega))) hB' (hK v wn hv))
theorem region_relK {id : Nat} {Q : Exit → Act → World → Prop} {a : Act} {w : World} {l : List Oper} (n : Nat) (hm : P.follows .mixedOrders = true) (hsel : Region.noSelect l.toArray = true) (hn : n ≤ l.length)
    (hwait : Waits .any l.toArray 0 n) (hlex : Region.lexHead .any l.toArray (l.toArray.size - n) n 0 (Array.replicate l.toArray.size false) = true)
    (T : FuncId → Array Value → World → Value → World → Prop)
    (h : wpRelK P .any l.toArray w.drew T (fun a' κ => ∀ w', Ext w.drew w' → (∀ i, i < n → Ext (κ i) w') → wpList P l.toArray Q (l.drop n) a' w') (l.take n) 0 a (fun _ => w.drew)) : (Code.region id l.toArray true).wp P Q a w := by
  have htl : (l.take n).length = n := by simp; omega
  have hdl : (l.drop n).length = l.toArray.size - n := by simp
  have inv0 : HInv .any l.toArray 0 n (Array.replicate l.toArray.size false) :=
    ⟨⟨by simp, fun j oj _ hl => (by rw [getD_replicate_false] at hl; cases hl), fun t _ ht => getD_in (by simpa using ht) (getD_replicate_false _ _)⟩, fun i hi => (by cases hi)⟩
  have hI : Inv w.drew (Array.replicate l.toArray.size false) (fun _ => w.drew) w.drew := ⟨Ext.refl _, fun _ _ => Ext.refl _⟩
  have H := wpAnyK_lex (md := .any) (g := l.toArray.size - n) hsel hwait (by simpa using hn) (l.take n) 0 _ a _ (fun j hj => by
    have hj' : j < n := by rw [htl] at hj; exact hj
    simp [hj']) (by simpa using htl) inv0 ⟨_, hI⟩ (fun i hi => by cases hi) (by rw [htl]; exact hlex) h
  refine wp_region_any hm ?_
  have := wpAny_of_headK (Q' := Q) (g := l.toArray.size - n) (fun listed a' κ w' hC' hL => by
    have := wpAny_of_seq (md := .any) (Q' := Q) (l.drop n) n listed a' w' (fun j => by simp [List.getElem?_drop]) (by rw [hdl]; exact hL.1) (hL.2.2 w' hC'.1 fun i hi => hC'.2 i (hL.2.1 i hi))
    rwa [hdl] at this) _ _ _ _ w.drew hI H
  rw [htl, show n + (l.toArray.size - n) = l.toArray.size by simp; omega] at this
  exact this
/-- A region whose last operations, from number 'n' on, come up last, in their order. -/
theorem region_grow_tail {id : Nat} {Q : Exit → Act → World → Prop} {a : Act} {w : World} {l : List Oper} (n : Nat) (hm : P.follows .mixedOrders = true) (hB : relTailB l.toArray n = true)
    (T : FuncId → Array Value → World → Value → World → Prop)
    (h : wpRelK P .any l.toArray w.drew T (fun a' κ => ∀ w', Ext w.drew w' → (∀ i, i < n → Ext (κ i) w') → wpList P l.toArray Q (l.drop n) a' w') (l.take n) 0 a (fun _ => w.drew)) : (Code.region id l.toArray true).wp P Q a w := by
  simp only [relTailB, Bool.and_eq_true, decide_eq_true_eq] at hB
  obtain ⟨⟨⟨⟨hsel, hn⟩, hs⟩, hc⟩, hlex⟩ := hB
  exact region_relK n hm hsel (by simpa using Nat.le_of_lt hn) (waits_sink hs hc hn) hlex T h
/-- A region all of whose operations let the world grow. -/
theorem region_grow_all {id : Nat} {Q : Exit → Act → World → Prop} {a : Act} {w : World} {l : List Oper} (hm : P.follows .mixedOrders = true) (hB : relAllB l.toArray = true)
    (T : FuncId → Array Value → World → Value → World → Prop)
    (h : wpRelK P .any l.toArray w.drew T (fun a' κ => ∀ w', Ext w.drew w' → (∀ i, i < l.length → Ext (κ i) w') → Q .normal a' w') l 0 a (fun _ => w.drew)) : (Code.region id l.toArray true).wp P Q a w := by
  simp only [relAllB, Bool.and_eq_true] at hB
  refine region_relK l.length hm hB.1 (Nat.le_refl _) (waits_all (by simp)) (by simpa using hB.2) T ?_
  simpa [wpList] using h

section
variable {Q : Act → (Nat → World) → Prop} {a : Act} {κ : Nat → World} {o : Oper} {rest : List Oper} {k : Nat}
theorem Grw.dep {w : World} (h : Grw md W κ o w) (i : Nat) (hi : (o.after.any fun e => Region.binds md e && e.on == i) = true) : Ext (κ i) w := by
  obtain ⟨e, he, h2⟩ := Array.any_eq_true'.1 hi
  simp only [Bool.and_eq_true, beq_iff_eq] at h2
  have := h.2 e he h2.1
  rwa [h2.2] at this
theorem wpRelK_nil (h : Q a κ) : wpRelK P md ops W T Q [] k a κ := h
/-- A plain operation. -/
theorem wpRelK_op (hp : plainOp o.op = true) (hg : Region.wanted o (yielded ops a.tmps) = true)
    (h : ∀ w, Grw md W κ o w → ∀ K : Act → World → Prop, (∀ a' w', Ext w w' → wpRelK P md ops W T Q rest (k + 1) a' (upd κ k w') → K a' w') → o.wp P a w K (fun _ _ _ => False)) : wpRelK P md ops W T Q (o :: rest) k a κ := by
  have key : ∀ w, Grw md W κ o w → (∃ u w', (execOp a.eval o).run P w = .ok (.value u) w' ∧ Ext w w' ∧ wpRelK P md ops W T Q rest (k + 1) (a.put o.dst u) (upd κ k w')) ∨
      (∃ w', (execOp a.eval o).run P w = .ok .skip w' ∧ Ext w w' ∧ wpRelK P md ops W T Q rest (k + 1) (a.put o.dst undef) (upd κ k w')) := by
    intro w hw
    have h1 := h w hw (fun a' w' => Ext w w' ∧ wpRelK P md ops W T Q rest (k + 1) a' (upd κ k w')) (fun _ _ h1 h2 => ⟨h1, h2⟩)
    have h2 := tame_of_plain (P := P) (ρ := a.eval) (w := w) hp
    unfold Oper.wp at h1
    generalize (execOp a.eval o).run P w = r at h1 h2
    cases r with
    | ok n w' =>
      cases n <;> simp only [Oper.upon, tame] at h1 h2
      case value u => exact .inl ⟨u, w', rfl, h1⟩
      case skip => exact .inr ⟨w', rfl, h1⟩
    | halt x w' =>
      cases x <;> simp only [Oper.upon] at h1
  refine ⟨fun _ w hw => ?_, ?_⟩
  · rcases key w hw with ⟨u, w', e, h1, _⟩ | ⟨w', e, h1, _⟩ <;> rw [e] <;> exact h1
  · intro v wn hv
    rcases hv with ⟨_, w, hw, hv⟩ | ⟨hn, _⟩
    · rcases key w hw with ⟨u, w', e, _, h2⟩ | ⟨w', e, _, h2⟩ <;> rw [e] at hv <;> simp only [givesRunK] at hv <;> obtain ⟨rfl, rfl⟩ := hv <;> exact h2
    · rw [hg] at hn; cases hn
/-- An operation that leaves the world as it is. -/
theorem wpRelK_still (hp : plainOp o.op = true) (hg : Region.wanted o (yielded ops a.tmps) = true)
    (h : ∀ w, Grw md W κ o w → ∀ K : Act → World → Prop, (∀ a', wpRelK P md ops W T Q rest (k + 1) a' (upd κ k w) → K a' w) → o.wp P a w K (fun _ _ _ => False)) : wpRelK P md ops W T Q (o :: rest) k a κ :=
  wpRelK_op hp hg fun w hw K hK => h w hw K fun a' h' => hK a' w (Ext.refl _) h'
theorem wpRelK_skip (hg : Region.wanted o (yielded ops a.tmps) = false) (h : ∀ w, Grw md W κ o w → wpRelK P md ops W T Q rest (k + 1) (a.put o.dst undef) (upd κ k w)) : wpRelK P md ops W T Q (o :: rest) k a κ := by
  refine ⟨fun hw => (by rw [hg] at hw; cases hw), ?_⟩
  rintro v wn (⟨hw, _⟩ | ⟨_, rfl, hc⟩)
  · rw [hg] at hw; cases hw
  · exact h wn hc
/-- A call of a function by its name. -/
theorem wpRelK_callF {dst : Option Tmp} {f : FuncId} {fn : Func} {xs : Array Operand} {ats : Array TypeId} {ty : TypeId} {pos : String} {after : Array Edge} {gd : Option (Nat × Bool)} (args : Array Value)
    (hg : Region.wanted ⟨dst, .call { callee := .value (.func f), args := xs, argTypes := ats }, ty, pos, after, gd⟩ (yielded ops a.tmps) = true)
    (hf : P.funcs[f]? = some fn) (hname : (fn.name == "runtime.NumGoroutine") = false) (hb : fn.body.isNone = false) (hargs : #[] ++ xs.map a.eval ++ #[] = args)
    (hc : ∀ w, Grw md W κ ⟨dst, .call { callee := .value (.func f), args := xs, argTypes := ats }, ty, pos, after, gd⟩ w → Calls P f args w (fun e w'' => ∃ u, e = .returned u ∧ T f args w u w'' ∧ Ext w w''))
    (hT : ∀ w, Grw md W κ ⟨dst, .call { callee := .value (.func f), args := xs, argTypes := ats }, ty, pos, after, gd⟩ w → ∃ u w'', T f args w u w'' ∧ Ext w w'')
    (h : ∀ w, Grw md W κ ⟨dst, .call { callee := .value (.func f), args := xs, argTypes := ats }, ty, pos, after, gd⟩ w → ∀ u w'', T f args w u w'' → Ext w w'' → wpRelK P md ops W T Q rest (k + 1) (a.put dst u) (upd κ k w'')) :
    wpRelK P md ops W T Q (⟨dst, .call { callee := .value (.func f), args := xs, argTypes := ats }, ty, pos, after, gd⟩ :: rest) k a κ := by
  have hrun : ∀ w, (execOp a.eval ⟨dst, .call { callee := .value (.func f), args := xs, argTypes := ats }, ty, pos, after, gd⟩).run P w = .ok (.enter f args) w := fun w => by
    rw [execOp_call_go, hargs, run_enter hf hname hb]
  refine ⟨fun _ w hw => ?_, ?_⟩
  · rw [hrun w]; exact ⟨hc w hw, hT w hw⟩
  · rintro v wn (⟨_, w, hw, hv⟩ | ⟨hn, _⟩)
    · rw [hrun w] at hv; exact h w hw v wn hv.1 hv.2
    · rw [hg] at hn; cases hn
end
end
end Go.Proofs.Ythacadbdncfocaa
