/- The steps by which a region that leaves its order open is walked in the order of its text. -/
import Derived.Test.YthacadbdncfocaaRel
import Derived.Deep.Draws
namespace Go.Proofs.Ythacadbdncfocaa
open Go

/-- The operation hands back a value, or nothing; it enters no function. -/
def tame : Result Next → Prop
  | .ok (.value _) _ => True
  | .ok .skip _ => True
  | .halt _ _ => True
  | _ => False
def plainOp : Op → Bool
  | .move _ | .assign _ | .pick .. | .alloc _ | .box .. | .build .. | .buildSlice .. | .load .. | .store .. | .nilCheck _ | .binOp .. | .unOp .. | .convert .. | .makeInterface .. | .makeFunc .. | .makeMap .. | .makeSlice .. | .slice ..
  | .fieldAddr .. | .field .. | .indexAddr .. | .index .. | .lookup .. | .extract .. => true
  | .call { callee := .builtin b, .. } => match b with
    | .len | .cap | .append | .copy | .max | .min | .complex | .real | .imag => true
    | _ => false
  | _ => false
theorem tame_value (P : Program) (s : Sem Value) (w : World) : tame ((do pure (.value (← s)) : Sem Next).run P w) := by
  rw [Sem.run_bind]
  cases s.run P w <;> simp [Result.andThen, tame]
theorem tame_unit (P : Program) (s : Sem Unit) (w : World) : tame ((do s; pure .skip : Sem Next).run P w) := by
  rw [Sem.run_bind]
  cases s.run P w <;> simp [Result.andThen, tame]
theorem tame_of_plain {P : Program} {ρ : Operand → Value} {o : Oper} {w : World} (h : plainOp o.op = true) : tame ((execOp ρ o).run P w) := by
  obtain ⟨dst, op, type, pos, after, guard⟩ := o
  cases op
  case call c =>
    obtain ⟨callee, args, argTypes⟩ := c
    cases callee
    case builtin b =>
      simp only [BigFrame.execOp_builtin]
      cases b <;> simp only [plainOp, Bool.false_eq_true] at h
      all_goals exact tame_value P _ w
    all_goals simp [plainOp] at h
  case nilCheck x =>
    simp only [execOp]
    (repeat' split) <;> first | (simp [runtimePanic, tame]; done) | skip
    · rw [Sem.run_bind]; simp [Sem.run, tame]
      generalize Sem.run P (nilAhead _ _ _ _) w = r
      cases r with
      | halt _ _ => simp [Result.andThen]
      | ok b w' =>
        simp only [Result.andThen]
        by_cases hb : b = some false <;> simp [hb]
  case pick c a b =>
    simp only [execOp]
    rw [Sem.run_bind]
    cases (asBool (ρ c)).run P w <;> simp [Result.andThen, tame]
  all_goals first
    | exact tame_value P _ w
    | exact tame_unit P _ w
    | (simp [plainOp] at h; done)
    | (simp [execOp, tame]; done)

section
variable {P : Program} {ops : Array Oper} {C : World → Prop} {T : FuncId → Array Value → Value → Prop} {Q : Act → Prop} {a : Act} {o : Oper} {rest : List Oper}
theorem wpRel_nil (h : Q a) : wpRel P ops C T Q [] a := h
/-- A plain operation, run in whatever world of the class. -/
theorem wpRel_op (hp : plainOp o.op = true) (hg : Region.wanted o (yielded ops a.tmps) = true) (hC : ∃ w, C w)
    (h : ∀ w, C w → ∀ K : Act → World → Prop, (∀ a' w', C w' ∧ wpRel P ops C T Q rest a' → K a' w') → o.wp P a w K (fun _ _ _ => False)) : wpRel P ops C T Q (o :: rest) a := by
  have key : ∀ w, C w → (∃ u w', (execOp a.eval o).run P w = .ok (.value u) w' ∧ C w' ∧ wpRel P ops C T Q rest (a.put o.dst u)) ∨
      (∃ w', (execOp a.eval o).run P w = .ok .skip w' ∧ C w' ∧ wpRel P ops C T Q rest (a.put o.dst undef)) := by
    intro w hw
    have h1 := h w hw (fun a' w' => C w' ∧ wpRel P ops C T Q rest a') (fun _ _ h => h)
    have h2 := tame_of_plain (P := P) (ρ := a.eval) (w := w) hp
    unfold Oper.wp at h1
    generalize (execOp a.eval o).run P w = r at h1 h2
    cases r with
    | ok n w' =>
      cases n <;> simp only [Oper.upon, tame] at h1 h2
      case value u => exact .inl ⟨u, w', rfl, h1⟩
      case skip => exact .inr ⟨w', rfl, h1⟩
    | halt x w' =>
      cases x <;> simp only [Oper.upon] at h1
  refine ⟨fun _ w hw => ?_, ?_, ?_⟩
  · rcases key w hw with ⟨u, w', e, h1, _⟩ | ⟨w', e, h1, _⟩ <;> rw [e] <;> exact h1
  · obtain ⟨w, hw⟩ := hC
    rcases key w hw with ⟨u, w', e, _, _⟩ | ⟨w', e, _, _⟩
    · exact ⟨u, .inl ⟨hg, w, hw, by rw [e]; rfl⟩⟩
    · exact ⟨undef, .inl ⟨hg, w, hw, by rw [e]; rfl⟩⟩
  · intro v hv
    rcases hv with ⟨_, w, hw, hv⟩ | ⟨hn, _⟩
    · rcases key w hw with ⟨u, w', e, _, h2⟩ | ⟨w', e, _, h2⟩ <;> rw [e] at hv <;> simp only [givesRun] at hv <;> subst hv <;> exact h2
    · rw [hg] at hn; cases hn
theorem wpRel_skip (hg : Region.wanted o (yielded ops a.tmps) = false) (h : wpRel P ops C T Q rest (a.put o.dst undef)) : wpRel P ops C T Q (o :: rest) a := by
  refine ⟨fun hw => (by rw [hg] at hw; cases hw), ⟨undef, .inr ⟨hg, rfl⟩⟩, ?_⟩
  rintro v (⟨hw, _⟩ | ⟨_, rfl⟩)
  · rw [hg] at hw; cases hw
  · exact h
/-- A call: its contract says 'T' of what it hands back, and that it keeps the class. -/
theorem wpRel_call {f : FuncId} {args : Array Value} (hg : Region.wanted o (yielded ops a.tmps) = true) (hC : ∃ w, C w) (hT : ∃ v, T f args v) (hrun : ∀ w, C w → (execOp a.eval o).run P w = .ok (.enter f args) w)
    (hc : ∀ w, C w → Calls P f args w (fun e w'' => ∃ u, e = .returned u ∧ T f args u ∧ C w''))
    (h : ∀ v, T f args v → wpRel P ops C T Q rest (a.put o.dst v)) : wpRel P ops C T Q (o :: rest) a := by
  refine ⟨fun _ w hw => ?_, ?_, ?_⟩
  · rw [hrun w hw]; exact hc w hw
  · obtain ⟨w, hw⟩ := hC
    obtain ⟨v, hv⟩ := hT
    exact ⟨v, .inl ⟨hg, w, hw, by rw [hrun w hw]; exact hv⟩⟩
  · rintro v (⟨_, w, hw, hv⟩ | ⟨hn, _⟩)
    · rw [hrun w hw] at hv; exact h v hv
    · rw [hg] at hn; cases hn
theorem run_enter {P : Program} {f : FuncId} {fn : Func} (hf : P.funcs[f]? = some fn) (hname : (fn.name == "runtime.NumGoroutine") = false) (hb : fn.body.isNone = false) (args : Array Value) (w : World) : (callFunc f args).run P w = .ok (.enter f args) w := by
  have h1 : fn.name ≠ "runtime.NumGoroutine" := by simpa using hname
  have h2 : fn.body ≠ none := by intro h; rw [h] at hb; cases hb
  simp [callFunc, hf, h1, h2]
/-- A call of a function by its name. -/
theorem wpRel_callF {dst : Option Tmp} {f : FuncId} {fn : Func} {xs : Array Operand} {ats : Array TypeId} {ty : TypeId} {pos : String} {after : Array Edge} (args : Array Value)
    (hf : P.funcs[f]? = some fn) (hname : (fn.name == "runtime.NumGoroutine") = false) (hb : fn.body.isNone = false) (hargs : #[] ++ xs.map a.eval ++ #[] = args)
    (hC : ∃ w, C w) (hT : ∃ v, T f args v) (hc : ∀ w, C w → Calls P f args w (fun e w'' => ∃ u, e = .returned u ∧ T f args u ∧ C w''))
    (h : ∀ v, T f args v → wpRel P ops C T Q rest (a.put dst v)) : wpRel P ops C T Q (⟨dst, .call { callee := .value (.func f), args := xs, argTypes := ats }, ty, pos, after, none⟩ :: rest) a := by
  refine wpRel_call (f := f) (args := args) rfl hC hT (fun w _ => ?_) hc h
  rw [execOp_call_go, hargs, run_enter hf hname hb]
/-- A call that is guarded. -/
theorem wpRel_callG {dst : Option Tmp} {f : FuncId} {fn : Func} {xs : Array Operand} {ats : Array TypeId} {ty : TypeId} {pos : String} {after : Array Edge} {gd : Option (Nat × Bool)} (args : Array Value)
    (hg : Region.wanted ⟨dst, .call { callee := .value (.func f), args := xs, argTypes := ats }, ty, pos, after, gd⟩ (yielded ops a.tmps) = true)
    (hf : P.funcs[f]? = some fn) (hname : (fn.name == "runtime.NumGoroutine") = false) (hb : fn.body.isNone = false) (hargs : #[] ++ xs.map a.eval ++ #[] = args)
    (hC : ∃ w, C w) (hT : ∃ v, T f args v) (hc : ∀ w, C w → Calls P f args w (fun e w'' => ∃ u, e = .returned u ∧ T f args u ∧ C w''))
    (h : ∀ v, T f args v → wpRel P ops C T Q rest (a.put dst v)) : wpRel P ops C T Q (⟨dst, .call { callee := .value (.func f), args := xs, argTypes := ats }, ty, pos, after, gd⟩ :: rest) a := by
  refine wpRel_call (f := f) (args := args) hg hC hT (fun w _ => ?_) hc h
  rw [execOp_call_go, hargs, run_enter hf hname hb]
/-- THE CLASS 'w after some draws'. -/
def Drawn (W : World) (w : World) : Prop := ∃ n, w = W.drewN n
theorem wpRel_draw {W : World} (hp : plainOp o.op = true) (hg : Region.wanted o (yielded ops a.tmps) = true)
    (h : ∀ n, ∀ K : Act → World → Prop, (∀ a' n', wpRel P ops (Drawn W) T Q rest a' → K a' (W.drewN n')) → o.wp P a (W.drewN n) K (fun _ _ _ => False)) : wpRel P ops (Drawn W) T Q (o :: rest) a :=
  wpRel_op hp hg ⟨W, 0, rfl⟩ fun w hw K hK => by
    obtain ⟨n, rfl⟩ := hw
    exact h n K fun a' n' hr => hK a' _ ⟨⟨n', rfl⟩, hr⟩
end
end Go.Proofs.Ythacadbdncfocaa
