/- Frames: lists of them that are read and owned; sizes, copies, equal ones, marks. -/
import Derived.Test.YtpijiidbjcbdhaaGen
namespace Go.Proofs.Ytpijiidbjcbdhaa
open Go Go.RowKit

/-- A frame. -/
structure FM where
  st : Int
  sa : Int
  L : List Nat
instance : Inhabited FM := ⟨⟨0, 0, []⟩⟩
def frAt (Fs : List FM) (j : Nat) : FM := Fs.getD j default
def frD (f : FM) : List D1 := [.i .i64 f.st, .i .i64 f.sa, .fs f.L]
def dsF : List FM → List D1
  | [] => []
  | f :: Fs => frD f ++ dsF Fs
theorem dsF_length (Fs : List FM) : (dsF Fs).length = Fs.length * 3 := by
  induction Fs with
  | nil => rfl
  | cons f Fs ih => simp only [dsF, frD, List.length_append, List.length_cons, List.length_nil, ih]; omega
theorem dsF_at (Fs : List FM) (j i : Nat) (hj : j < Fs.length) (hi : i < 3) : (dsF Fs).getD (j * 3 + i) default = (frD (frAt Fs j)).getD i default := by
  induction Fs generalizing j with
  | nil => cases hj
  | cons f Fs ih =>
    cases j with
    | zero =>
      rw [Nat.zero_mul, Nat.zero_add]
      simp only [dsF, List.getD_eq_getElem?_getD]
      rw [List.getElem?_append_left (by simp [frD]; omega)]
      rfl
    | succ j =>
      have e : (j + 1) * 3 + i = 3 + (j * 3 + i) := by omega
      rw [e]
      simp only [dsF, List.getD_eq_getElem?_getD]
      rw [List.getElem?_append_right (by simp [frD])]
      have e2 : 3 + (j * 3 + i) - (frD f).length = j * 3 + i := by simp [frD]
      rw [e2]
      have := ih j (by simpa using hj)
      rw [List.getD_eq_getElem?_getD] at this
      rw [this]
      rfl
def RdFr (w : World) (v : Value) (Fs : List FM) : Prop := RdC w v Fs.length (dsF Fs)
theorem RdFr.mono {w w' : World} {v : Value} {Fs : List FM} (h : RdFr w v Fs) (hb : Below w.heap.size w w') : RdFr w' v Fs := RdC.mono h hb
theorem RdFr.opened {w : World} {v : Value} {Fs : List FM} (h : RdFr w v Fs) :
    ∃ a c, v = .slice a Fs.length c ∧ Fs.length ≤ c ∧ (a = none → c = 0) ∧ ∀ j, j < Fs.length → ∃ b o a' c', a = some ⟨b, o, none⟩ ∧ b < w.heap.size ∧ w.cell? ⟨b, o + j * 3, none⟩ = some (.int .i64 (frAt Fs j).st) ∧ w.cell? ⟨b, o + j * 3 + 1, none⟩ = some (.int .i64 (frAt Fs j).sa) ∧
      w.cell? ⟨b, o + j * 3 + 2, none⟩ = some (.slice a' (frAt Fs j).L.length c') ∧ RdF w (.slice a' (frAt Fs j).L.length c') (frAt Fs j).L := by
  obtain ⟨a, c, hv, hc, hz, hr⟩ := h
  refine ⟨a, c, hv, hc, hz, fun j hj => ?_⟩
  have hl := dsF_length Fs
  obtain ⟨b, o, u0, ha, c0, r0⟩ := hr (j * 3 + 0) (by omega)
  obtain ⟨b1, o1, u1, ha1, c1, r1⟩ := hr (j * 3 + 1) (by omega)
  obtain ⟨b2, o2, u2, ha2, c2, r2⟩ := hr (j * 3 + 2) (by omega)
  rw [ha] at ha1 ha2
  cases ha1; cases ha2
  rw [dsF_at Fs j 0 hj (by decide)] at r0
  rw [dsF_at Fs j 1 hj (by decide)] at r1
  rw [dsF_at Fs j 2 hj (by decide)] at r2
  have r0 : u0 = .int .i64 (frAt Fs j).st := r0
  have r1 : u1 = .int .i64 (frAt Fs j).sa := r1
  have r2 : RdF w u2 (frAt Fs j).L := r2
  obtain ⟨a', c', rfl, -⟩ := r2.opened
  subst r0 r1
  exact ⟨b, o, a', c', ha, block_lt c0, c0, c1, c2, r2⟩
def Fsmall (Fs : List FM) : Prop := Fs.length ≤ 1048576 ∧ ∀ j, j < Fs.length → (frAt Fs j).L.length ≤ 1048576

set_option maxRecDepth 100000 in
set_option maxHeartbeats 1600000 in
theorem szFrame_any (w : World) (st sa : Int) (v : Value) (L : List Nat) (left : Int) (h : RdF w v L) (h0 : 0 ≤ left) (hl : left ≤ 1048576) (hn : L.length ≤ maxLen) :
    Calls Try.prog 31 #[.agg #[.int .i64 st, .int .i64 sa, v], .int .i64 left] w fun e w' => ∃ m, e = .returned (.int .i64 m) ∧ Left left (L.length ≤ 1048576) m ∧ Below w.heap.size w w' := by
  obtain ⟨a, c, rfl, hc, -, -⟩ := h.opened
  have K : ∀ wq, RdF wq (.slice a L.length c) L → Calls Try.prog 49 #[.slice a L.length c, .int .i64 left] wq fun e w' => ∃ m, e = .returned (.int .i64 m) ∧ Left left (L.length ≤ 1048576) m ∧ w' = wq := fun wq hq => szFloat32S_any wq _ L left hq h0 hl hn
  have R := Lib.hid h
  clear h
  go_enter Try.func31, Try.ntmps31
  go_wp2_with fail
  refine (K _ (R.out.mono (by (repeat (first | exact Below.refl _ _ | (refine Below.drewN ?_ _) | (refine Below.alloc ?_ (by first | exact Nat.le_refl _ | (simp; done) | (simp; omega)) _)))))).mono ?_
  rintro e w1 ⟨m, rfl, hm, rfl⟩
  have hM := Lib.hid hm
  by_cases hlt : m < 0
  · obtain rfl : m = -1 := by rcases hm with h | h <;> omega
    clear hm
    go_wp2
    go_ret
    exact ⟨_, rfl, .inl rfl, by (repeat (first | exact Below.refl _ _ | (refine Below.drewN ?_ _) | (refine Below.alloc ?_ (by first | exact Nat.le_refl _ | (simp; done) | (simp; omega)) _)))⟩
  · clear hm
    go_wp2
    go_ret
    exact ⟨_, rfl, hM.out, by (repeat (first | exact Below.refl _ _ | (refine Below.drewN ?_ _) | (refine Below.alloc ?_ (by first | exact Nat.le_refl _ | (simp; done) | (simp; omega)) _)))⟩
set_option maxRecDepth 100000 in
set_option maxHeartbeats 1600000 in
theorem szFrameS_any (w : World) (v : Value) (Fs : List FM) (left : Int) (h : RdFr w v Fs) (h0 : 0 ≤ left) (hl : left ≤ 1048576) (hn : Fs.length ≤ maxLen) (hm : ∀ j, j < Fs.length → (frAt Fs j).L.length ≤ maxLen) :
    Calls Try.prog 7 #[v, .int .i64 left] w fun e w' => ∃ m, e = .returned (.int .i64 m) ∧ Left left (Fsmall Fs) m ∧ Below w.heap.size w w' := by
  obtain ⟨a, c, rfl, hc, -, hcell⟩ := h.opened
  have hw : IntKind.i64.wrap (left - (Fs.length : Int)) = left - (Fs.length : Int) := IntWalk.i64_in _ (by unfold maxLen at hn; omega)
  by_cases hlt : left - (Fs.length : Int) < 0
  · go_enter Try.func7, Try.ntmps7
    go_wp2
    go_ret
    exact ⟨_, rfl, .inl rfl, Below.refl _ _⟩
  · go_enter Try.func7, Try.ntmps7
    go_wp2
    clear hw
    have hlen : Fs.length ≤ 1048576 := by omega
    go_loopw [1, 5] (fun q i wr => ∃ (j : Nat) (m : Int), j ≤ Fs.length ∧ i = .int .i64 j ∧ q = .int .i64 m ∧ 0 ≤ m ∧ m ≤ left ∧ (∀ t, t < j → (frAt Fs t).L.length ≤ 1048576) ∧ Below w.heap.size w wr) (fun _ i _ => Fs.length - (intOf i).toNat)
    case atStart => exact ⟨0, _, Nat.zero_le _, rfl, rfl, by omega, by omega, (fun t ht => by omega), Below.refl _ _⟩
    case round =>
      obtain ⟨wi, rfl⟩ : ∃ wi : World, wi = wr := ⟨_, rfl⟩
      obtain ⟨j, m, hj, rfl, rfl, h1, h2, h3, hb⟩ := hrel
      by_cases hlj : j < Fs.length
      · obtain ⟨b, o, a', c', rfl, hlb, d0, d1, d2, R0⟩ := hcell j hlj
        have q0 := ((bcell hb).1 _ _ hlb).trans d0
        have q1 := ((bcell hb).1 _ _ hlb).trans d1
        have q2 := ((bcell hb).1 _ _ hlb).trans d2
        have hK := szFrame_any wi (frAt Fs j).st (frAt Fs j).sa _ (frAt Fs j).L m (R0.mono hb) h1 (by omega) (hm j hlj)
        have HK := Lib.hid hK
        have H3 := Lib.hid h3
        clear hcell d0 d1 d2 R0 hK h3 hm
        go_wp2_with fail
        refine HK.out.mono ?_
        clear HK
        rintro e w2 ⟨m2, rfl, hm2, b2⟩
        have HM := Lib.hid hm2
        have hb2 := hb.trans (b2.mono hb.size)
        by_cases hneg : m2 < 0
        · obtain rfl : m2 = -1 := by rcases hm2 with h | h <;> omega
          clear hm2
          go_wp2
          go_ret
          exact ⟨_, rfl, .inl rfl, hb2⟩
        · obtain ⟨p0, p1, p2⟩ := hm2.resolve_left (by omega)
          clear hm2
          go_wp2
          refine ⟨⟨j + 1, _, by omega, by go_num, rfl, by omega, by omega, (fun t ht => ?_), hb2⟩, by simp [intOf]; omega⟩
          rcases Nat.lt_or_ge t j with h4 | h4
          · exact H3.out t h4
          · obtain rfl : t = j := by omega
            exact p2
      · obtain rfl : j = Fs.length := by omega
        have H3 := Lib.hid h3
        clear h3 hcell
        go_wp2
        go_ret
        exact ⟨_, rfl, .inr ⟨h1, h2, hlen, H3.out⟩, hb⟩
end Go.Proofs.Ytpijiidbjcbdhaa
