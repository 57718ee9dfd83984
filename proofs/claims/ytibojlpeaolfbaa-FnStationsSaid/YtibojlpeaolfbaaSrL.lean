/- Walks: frames put in order by the program. -/
import Derived.Test.YtibojlpeaolfbaaSrI
namespace Go.Proofs.Ytibojlpeaolfbaa
open Go Go.RowKit

def sortFn : Value := .func (.func 109) #[] #[]
set_option maxRecDepth 100000 in
theorem insSort_nil (w : World) :
    Calls Try.prog 147 #[.slice none 0 0, .int .i64 0, .int .i64 0, .func (.func 109) #[] #[]] w fun e w' => e = .returned (.tuple #[]) ∧ w' = w := by
  go_enter Try.func147, Try.ntmps147
  go_wp2
  refine wp_loop_rounds 1 ?_
  rw [rounds_succ]
  go_wp2
  go_end0
  exact ⟨rfl, rfl⟩
theorem insSortV_any (w : World) (B : Nat) (v : Value) (Es : List FE) (h : OwnR w B v Es) (hl : Es.length ≤ 1000) :
    Calls Try.prog 147 #[v, .int .i64 0, .int .i64 Es.length, .func (.func 109) #[] #[]] w fun e w' =>
      e = .returned (.tuple #[]) ∧ OwnR w' B v (insAll ltE [] Es) ∧ Chg w w' (fun k => v.ownBlock = some k) := by
  rcases h.form with ⟨rfl, rfl⟩ | ⟨g, cap, rfl, -⟩
  · refine (insSort_nil w).mono fun e w' ⟨he, hw⟩ => ?_
    subst he hw
    exact ⟨rfl, h, Chg.refl _ _⟩
  · refine (insSortE_any w B g cap Es h hl).mono fun e w' ⟨he, h1, h2⟩ => ⟨he, h1, h2.wide fun k hk => ?_⟩
    subst hk; rfl
theorem OwnR.slice {w : World} {B : Nat} {v : Value} {Es : List FE} (h : OwnR w B v Es) : ∃ a c, v = .slice a Es.length c := by
  rcases h.form with ⟨rfl, rfl⟩ | ⟨g, cap, rfl, -⟩
  · exact ⟨none, 0, rfl⟩
  · exact ⟨_, _, rfl⟩
set_option maxRecDepth 100000 in
set_option maxHeartbeats 800000 in
theorem stableCmp_any (w : World) (B : Nat) (v : Value) (Es : List FE) (h : OwnR w B v Es) (hl : Es.length ≤ 12) :
    Calls Try.prog 135 #[v, .int .i64 Es.length, .func (.func 109) #[] #[]] w fun e w' =>
      e = .returned (.tuple #[]) ∧ OwnR w' B v (insAll ltE [] Es) ∧ Chg w w' (fun k => v.ownBlock = some k) := by
  have HK := Lib.hid (insSortV_any w B v Es h (by omega))
  obtain ⟨a, c, rfl⟩ := h.slice
  clear h
  have hz : ¬ ((20 : Int) ≤ (Es.length : Int)) := by omega
  have hz2 : ¬ ((20 : Int) < (Es.length : Int)) := by omega
  go_enter Try.func135, Try.ntmps135
  go_wp2_with fail
  refine wp_loop_rounds 1 ?_
  rw [rounds_succ]
  go_wp2_with fail
  refine HK.out.mono ?_
  clear HK
  rintro e w1 ⟨rfl, o1, g1⟩
  have O1 := Lib.hid o1
  clear o1
  go_wp2_with fail
  refine wp_loop_rounds 1 ?_
  rw [rounds_succ]
  go_wp2
  go_end0
  exact ⟨rfl, O1.out, g1⟩
set_option maxRecDepth 100000 in
set_option maxHeartbeats 800000 in
theorem sortStable_any (w : World) (B : Nat) (v : Value) (Es : List FE) (h : OwnR w B v Es) (hl : Es.length ≤ 12) :
    Calls Try.prog 108 #[v, .func (.func 109) #[] #[]] w fun e w' =>
      e = .returned (.tuple #[]) ∧ OwnR w' B v (insAll ltE [] Es) ∧ Chg w w' (fun k => v.ownBlock = some k) := by
  have HK := Lib.hid (stableCmp_any w B v Es h hl)
  obtain ⟨a, c, rfl⟩ := h.slice
  clear h
  go_enter Try.func108, Try.ntmps108
  go_wp2_with fail
  refine HK.out.mono ?_
  clear HK
  rintro e w1 ⟨rfl, o1, g1⟩
  have O1 := Lib.hid o1
  clear o1
  go_wp2
  go_end0
  exact ⟨rfl, O1.out, g1⟩
end Go.Proofs.Ytibojlpeaolfbaa
