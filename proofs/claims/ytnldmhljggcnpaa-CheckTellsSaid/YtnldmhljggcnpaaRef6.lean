/- What the kit's print printed for functions of this seat (laws that it does not take whole). -/
import Derived.Test.YtnldmhljggcnpaaRef0
import Derived.Test.YtnldmhljggcnpaaRef3
import Derived.Test.YtnldmhljggcnpaaRef5
namespace Go.Proofs.Ytnldmhljggcnpaa.Ref
open Go.RowKit Go.Proofs.YtnldmhljggcnpaaW.PrintWords Go.Proofs.YtnldmhljggcnpaaW.PrintLast Go.Proofs.YtnldmhljggcnpaaW.PrintMore
attribute [local go_sem] max2_int min2_int max_two min_two max_three min_three max_four min_four   -- for this text's walks alone
set_option linter.unusedVariables false
set_option linter.unusedSimpArgs false

/-! ### cantleref07_in: function 110 -/
def cantleref07_in.l0 : Nat → List Int → Int → Int → Int → Option (Int)
  | 0, _, _, _, _ => none
  | k + 1, x0, x1, x5, x6 => if x6 < (x0.length : Int) then (if 0 ≤ x6 then (if (rd x0 x6) = x1 then (cantleref07_in.l0 k x0 x1 (wrap64 (x5 + 1)) (wrap64 (x6 + 1))) else (cantleref07_in.l0 k x0 x1 x5 (wrap64 (x6 + 1)))) else (none)) else (some x5)
def cantleref07_in.f (k : Nat) (l0 : List Int) (a1 : Int) : Option (Int) := cantleref07_in.l0 k l0 a1 0 0
theorem cantleref07_in.mono_l : ∀ k, (∀ y0 y1 y2 y3, LeO (cantleref07_in.l0 k y0 y1 y2 y3) (cantleref07_in.l0 (k + 1) y0 y1 y2 y3))
  | 0 => fun _ _ _ _ r h => by simp [cantleref07_in.l0] at h
  | k + 1 => by
    have ih0 := cantleref07_in.mono_l k
    · intro y0 y1 y2 y3
      unfold cantleref07_in.l0
      repeat' first
      | (with_reducible exact ih0 _ _ _ _)
      | (with_reducible exact LeO.refl _)
      | (with_reducible exact LeO.none _)
      | (with_reducible refine LeO.ite ?_ ?_)
      | (with_reducible refine LeO.bind ?_ (fun _ => ?_))
      | exact ih0 _ _ _ _
      | exact LeO.none _
      | refine LeO.ite ?_ ?_
      | refine LeO.bind ?_ (fun _ => ?_)
theorem cantleref07_in.mono : ∀ a0 a1 k, LeO (cantleref07_in.f k a0 a1) (cantleref07_in.f (k + 1) a0 a1) := by
  intro a0 a1 k
  have ih0 := cantleref07_in.mono_l k
  unfold cantleref07_in.f
  repeat' first
      | (with_reducible exact ih0 _ _ _ _)
      | (with_reducible exact LeO.refl _)
      | (with_reducible exact LeO.none _)
      | (with_reducible refine LeO.ite ?_ ?_)
      | (with_reducible refine LeO.bind ?_ (fun _ => ?_))
      | exact ih0 _ _ _ _
      | exact LeO.none _
      | refine LeO.ite ?_ ?_
      | refine LeO.bind ?_ (fun _ => ?_)
set_option maxHeartbeats 8000000 in
set_option maxRecDepth 100000 in
theorem cantleref07_in.calls (k : Nat) (A0 : Option Addr) (c0 : Nat) (l0 : List Int) (a1 : Int) (r : Int) (w : World) (hr0 : Kd.C (Kd.int .i64) w A0 l0.length l0) (hc0 : l0.length ≤ c0) (h : cantleref07_in.f k l0 a1 = some r) :
    Calls Try.prog 110 #[.slice A0 l0.length c0, .int .i64 a1] w fun e w' => e = .returned (.int .i64 r) ∧ Drawn0 w w' := by
  have HR0 := Aside0.mk hr0
  have HC0 := Aside0.mk hc0
  clear hr0 hc0
  have H : (cantleref07_in.l0 k l0 a1 0 0) = some r := h
  clear h
  have H' := Aside0.mk H
  clear H
  go_enter Try.func110, Try.ntmps110
  go_wp2
  go_loopg [5, 6] k (fun kq v5 v6 w' => ∃ (x5_1 : Int) (x6_1 : Int), v5 = .int .i64 x5_1 ∧ v6 = .int .i64 x6_1 ∧ Aside0 (cantleref07_in.l0 kq l0 a1 x5_1 x6_1 = some r) ∧ Aside0 (kq ≤ k) ∧ Drawn0 w w')
  case atStart => exact ⟨(0), (0), (by first | rfl | (simp; done) | (simp [*]; done)), (by first | rfl | (simp; done) | (simp [*]; done)), H', ⟨Nat.le_refl _⟩, by repeat (first | exact Drawn0.refl _ | apply Drawn0.step)⟩
  case round =>
    clear H'
    try clear c1
    try clear p2
    obtain ⟨x5_1, x6_1, rfl, rfl, HA, HK1, ⟨m1, rfl⟩⟩ := hrel
    cases gk with
    | zero => exact absurd HA.out (by simp [cantleref07_in.l0])
    | succ k1 =>
      have H := HA.out
      clear HA
      simp only [cantleref07_in.l0] at H
      by_cases c3 : x6_1 < (l0.length : Int)
      · rw [if_pos c3] at H
        have c3b0 : decide (x6_1 < (l0.length : Int)) = true := decide_eq_true c3
        clear c3
        by_cases c4 : 0 ≤ x6_1
        · rw [if_pos c4] at H
          have c4b0 : decide (0 ≤ x6_1) = true := decide_eq_true c4
          clear c4
          by_cases c5 : (rd l0 x6_1) = a1
          · rw [if_pos c5] at H
            have c5b0 : ((rd l0 x6_1) == a1) = true := beq_iff_eq.mpr c5
            have c5b1 : ((rd l0 x6_1) != a1) = false := bne_eq_false_iff_eq.mpr c5
            clear c5
            have H' := Aside0.mk H
            clear H
            have p259 : 0 ≤ (x6_1 : Int) := of_decide_eq_true (by first | (with_reducible assumption) | assumption)
            have q259 : x6_1 < (l0.length : Int) := of_decide_eq_true (by first | (with_reducible assumption) | assumption)
            obtain ⟨ad259, e259, hx259_0⟩ := Kd.at_int HR0.out x6_1 p259 q259
            cases e259
            replace p259 := eq_true p259
            replace q259 := eq_true q259
            go_wp2
            go_roundg k1
            case measure => have := HK1.out; omega
            case rel => exact ⟨(wrap64 (x5_1 + 1)), (wrap64 (x6_1 + 1)), (by first | rfl | (simp; done) | (simp [*]; done)), (by first | rfl | (simp; done) | (simp [*]; done)), H', ⟨by have := HK1.out; omega⟩, by repeat (first | exact Drawn0.refl _ | apply Drawn0.step)⟩
          · rw [if_neg c5] at H
            have c5b0 : ((rd l0 x6_1) == a1) = false := beq_eq_false_iff_ne.mpr c5
            have c5b1 : ((rd l0 x6_1) != a1) = true := bne_iff_ne.mpr c5
            have H' := Aside0.mk H
            clear H
            have p259 : 0 ≤ (x6_1 : Int) := of_decide_eq_true (by first | (with_reducible assumption) | assumption)
            have q259 : x6_1 < (l0.length : Int) := of_decide_eq_true (by first | (with_reducible assumption) | assumption)
            obtain ⟨ad259, e259, hx259_0⟩ := Kd.at_int HR0.out x6_1 p259 q259
            cases e259
            replace p259 := eq_true p259
            replace q259 := eq_true q259
            go_wp2
            go_roundg k1
            case measure => have := HK1.out; omega
            case rel => exact ⟨(x5_1), (wrap64 (x6_1 + 1)), (by first | rfl | (simp; done) | (simp [*]; done)), (by first | rfl | (simp; done) | (simp [*]; done)), H', ⟨by have := HK1.out; omega⟩, by repeat (first | exact Drawn0.refl _ | apply Drawn0.step)⟩
        · rw [if_neg c4] at H
          exact absurd H (by simp)
      · rw [if_neg c3] at H
        have c3b0 : decide (x6_1 < (l0.length : Int)) = false := decide_eq_false c3
        clear c3
        obtain rfl := Option.some.inj H
        go_wp2
        go_ret
        exact ⟨by first | rfl | (simp; done) | (simp [*]; done), by repeat (first | exact Drawn0.refl _ | apply Drawn0.step)⟩

/-! ### cantleref07_Check: function 30 -/
mutual
def cantleref07_Check.j0 : Nat → List Int → List (S57) → Bool → Option (Bool)
  | 0, _, _, _ => none
  | k + 1, x0, x3, x24 => if x24 = true then (some false) else (cantleref07_Check.l0 k x0 x3 0 0)
def cantleref07_Check.l0 : Nat → List Int → List (S57) → Int → Int → Option (Bool)
  | 0, _, _, _, _ => none
  | k + 1, x0, x3, x5, x6 => if x6 < (x3.length : Int) then (if 0 ≤ x6 then (if ((rd_T57 x3 x6).f2 = true) then (if x6 > 0 then (cantleref07_Check.l0 k x0 x3 x5 (wrap64 (x6 + 1))) else (cantleref07_Check.l0 k x0 x3 x5 (wrap64 (x6 + 1)))) else (if x6 > 0 then (if 0 ≤ (wrap64 (x6 - 1)) then (if (wrap64 (x6 - 1)) < (x3.length : Int) then (if ((rd_T57 x3 (wrap64 (x6 - 1))).f2 = true) then (cantleref07_Check.l0 k x0 x3 (wrap64 (x5 + 1)) (wrap64 (x6 + 1))) else (some false)) else (none)) else (none)) else (cantleref07_Check.l0 k x0 x3 (wrap64 (x5 + 1)) (wrap64 (x6 + 1))))) else (none)) else (cantleref07_Check.l1 k x0 x3 x5 0)
def cantleref07_Check.l1 : Nat → List Int → List (S57) → Int → Int → Option (Bool)
  | 0, _, _, _, _ => none
  | k + 1, x0, x3, x5, x7 => if x7 < 22 then ((cantleref07_All.f k x0 x7).bind fun bt269 => (if bt269.2 = true then (cantleref07_Check.l2 k x0 x3 (wrap64 (x5 - (bt269.1.length : Int))) x7 bt269.1 0) else (some false))) else (some (x5 == 0))
def cantleref07_Check.l2 : Nat → List Int → List (S57) → Int → Int → List Int → Int → Option (Bool)
  | 0, _, _, _, _, _, _ => none
  | k + 1, x0, x3, x5, x7, x8, x10 => if x10 < (x8.length : Int) then (cantleref07_Check.l3 k x0 x3 x5 x7 x8 x10 false 0) else (cantleref07_Check.l1 k x0 x3 x5 (wrap64 (x7 + 1)))
def cantleref07_Check.l3 : Nat → List Int → List (S57) → Int → Int → List Int → Int → Bool → Int → Option (Bool)
  | 0, _, _, _, _, _, _, _, _ => none
  | k + 1, x0, x3, x5, x7, x8, x10, x11, x12 => if x12 < (x3.length : Int) then (if x11 = true then (cantleref07_Check.l3 k x0 x3 x5 x7 x8 x10 true (wrap64 (x12 + 1))) else (if 0 ≤ x12 then (if 0 ≤ x10 then (if x10 < (x8.length : Int) then (if ((rd_T57 x3 x12).f0) = (rd x8 x10) then (cantleref07_Check.l3 k x0 x3 x5 x7 x8 x10 (!((rd_T57 x3 x12).f2)) (wrap64 (x12 + 1))) else (cantleref07_Check.l3 k x0 x3 x5 x7 x8 x10 false (wrap64 (x12 + 1)))) else (none)) else (none)) else (none))) else (if x11 = true then (if 0 ≤ x10 then (if x10 < (x8.length : Int) then ((cantleref07_in.f k x8 (rd x8 x10)).bind fun t277 => (if t277 = 1 then (cantleref07_Check.l2 k x0 x3 x5 x7 x8 (wrap64 (x10 + 1))) else (some false))) else (none)) else (none)) else (some false))
end
def cantleref07_Check.f (k : Nat) (l0 : List Int) : Option (Bool) := (cantleref07_Walk.f k l0).bind fun bt260 => (if bt260.2 = true then ((cantleref07_num.f k l0 0).bind fun t264 => (cantleref07_Check.j0 k l0 bt260.1 (decide (t264 ≥ 4194304)))) else (cantleref07_Check.j0 k l0 bt260.1 true))
theorem cantleref07_Check.mono_l : ∀ k, (∀ y0 y1 y2, LeO (cantleref07_Check.j0 k y0 y1 y2) (cantleref07_Check.j0 (k + 1) y0 y1 y2)) ∧ (∀ y0 y1 y2 y3, LeO (cantleref07_Check.l0 k y0 y1 y2 y3) (cantleref07_Check.l0 (k + 1) y0 y1 y2 y3)) ∧ (∀ y0 y1 y2 y3, LeO (cantleref07_Check.l1 k y0 y1 y2 y3) (cantleref07_Check.l1 (k + 1) y0 y1 y2 y3)) ∧ (∀ y0 y1 y2 y3 y4 y5, LeO (cantleref07_Check.l2 k y0 y1 y2 y3 y4 y5) (cantleref07_Check.l2 (k + 1) y0 y1 y2 y3 y4 y5)) ∧ (∀ y0 y1 y2 y3 y4 y5 y6 y7, LeO (cantleref07_Check.l3 k y0 y1 y2 y3 y4 y5 y6 y7) (cantleref07_Check.l3 (k + 1) y0 y1 y2 y3 y4 y5 y6 y7))
  | 0 => ⟨fun _ _ _ r h => by simp [cantleref07_Check.j0] at h, fun _ _ _ _ r h => by simp [cantleref07_Check.l0] at h, fun _ _ _ _ r h => by simp [cantleref07_Check.l1] at h, fun _ _ _ _ _ _ r h => by simp [cantleref07_Check.l2] at h, fun _ _ _ _ _ _ _ _ r h => by simp [cantleref07_Check.l3] at h⟩
  | k + 1 => by
    obtain ⟨ih0, ih1, ih2, ih3, ih4⟩ := cantleref07_Check.mono_l k
    refine ⟨?_, ?_, ?_, ?_, ?_⟩
    · intro y0 y1 y2
      unfold cantleref07_Check.j0
      repeat' first
      | (with_reducible exact ih0 _ _ _)
      | (with_reducible exact ih1 _ _ _ _)
      | (with_reducible exact ih2 _ _ _ _)
      | (with_reducible exact ih3 _ _ _ _ _ _)
      | (with_reducible exact ih4 _ _ _ _ _ _ _ _)
      | (with_reducible exact cantleref07_All.mono _ _ _)
      | (with_reducible exact cantleref07_Walk.mono _ _)
      | (with_reducible exact cantleref07_in.mono _ _ _)
      | (with_reducible exact cantleref07_num.mono _ _ _)
      | (with_reducible exact LeO.refl _)
      | (with_reducible exact LeO.none _)
      | (with_reducible refine LeO.ite ?_ ?_)
      | (with_reducible refine LeO.bind ?_ (fun _ => ?_))
      | exact ih0 _ _ _
      | exact ih1 _ _ _ _
      | exact ih2 _ _ _ _
      | exact ih3 _ _ _ _ _ _
      | exact ih4 _ _ _ _ _ _ _ _
      | exact cantleref07_All.mono _ _ _
      | exact cantleref07_Walk.mono _ _
      | exact cantleref07_in.mono _ _ _
      | exact cantleref07_num.mono _ _ _
      | exact LeO.none _
      | refine LeO.ite ?_ ?_
      | refine LeO.bind ?_ (fun _ => ?_)
    · intro y0 y1 y2 y3
      unfold cantleref07_Check.l0
      repeat' first
      | (with_reducible exact ih0 _ _ _)
      | (with_reducible exact ih1 _ _ _ _)
      | (with_reducible exact ih2 _ _ _ _)
      | (with_reducible exact ih3 _ _ _ _ _ _)
      | (with_reducible exact ih4 _ _ _ _ _ _ _ _)
      | (with_reducible exact cantleref07_All.mono _ _ _)
      | (with_reducible exact cantleref07_Walk.mono _ _)
      | (with_reducible exact cantleref07_in.mono _ _ _)
      | (with_reducible exact cantleref07_num.mono _ _ _)
      | (with_reducible exact LeO.refl _)
      | (with_reducible exact LeO.none _)
      | (with_reducible refine LeO.ite ?_ ?_)
      | (with_reducible refine LeO.bind ?_ (fun _ => ?_))
      | exact ih0 _ _ _
      | exact ih1 _ _ _ _
      | exact ih2 _ _ _ _
      | exact ih3 _ _ _ _ _ _
      | exact ih4 _ _ _ _ _ _ _ _
      | exact cantleref07_All.mono _ _ _
      | exact cantleref07_Walk.mono _ _
      | exact cantleref07_in.mono _ _ _
      | exact cantleref07_num.mono _ _ _
      | exact LeO.none _
      | refine LeO.ite ?_ ?_
      | refine LeO.bind ?_ (fun _ => ?_)
    · intro y0 y1 y2 y3
      unfold cantleref07_Check.l1
      repeat' first
      | (with_reducible exact ih0 _ _ _)
      | (with_reducible exact ih1 _ _ _ _)
      | (with_reducible exact ih2 _ _ _ _)
      | (with_reducible exact ih3 _ _ _ _ _ _)
      | (with_reducible exact ih4 _ _ _ _ _ _ _ _)
      | (with_reducible exact cantleref07_All.mono _ _ _)
      | (with_reducible exact cantleref07_Walk.mono _ _)
      | (with_reducible exact cantleref07_in.mono _ _ _)
      | (with_reducible exact cantleref07_num.mono _ _ _)
      | (with_reducible exact LeO.refl _)
      | (with_reducible exact LeO.none _)
      | (with_reducible refine LeO.ite ?_ ?_)
      | (with_reducible refine LeO.bind ?_ (fun _ => ?_))
      | exact ih0 _ _ _
      | exact ih1 _ _ _ _
      | exact ih2 _ _ _ _
      | exact ih3 _ _ _ _ _ _
      | exact ih4 _ _ _ _ _ _ _ _
      | exact cantleref07_All.mono _ _ _
      | exact cantleref07_Walk.mono _ _
      | exact cantleref07_in.mono _ _ _
      | exact cantleref07_num.mono _ _ _
      | exact LeO.none _
      | refine LeO.ite ?_ ?_
      | refine LeO.bind ?_ (fun _ => ?_)
    · intro y0 y1 y2 y3 y4 y5
      unfold cantleref07_Check.l2
      repeat' first
      | (with_reducible exact ih0 _ _ _)
      | (with_reducible exact ih1 _ _ _ _)
      | (with_reducible exact ih2 _ _ _ _)
      | (with_reducible exact ih3 _ _ _ _ _ _)
      | (with_reducible exact ih4 _ _ _ _ _ _ _ _)
      | (with_reducible exact cantleref07_All.mono _ _ _)
      | (with_reducible exact cantleref07_Walk.mono _ _)
      | (with_reducible exact cantleref07_in.mono _ _ _)
      | (with_reducible exact cantleref07_num.mono _ _ _)
      | (with_reducible exact LeO.refl _)
      | (with_reducible exact LeO.none _)
      | (with_reducible refine LeO.ite ?_ ?_)
      | (with_reducible refine LeO.bind ?_ (fun _ => ?_))
      | exact ih0 _ _ _
      | exact ih1 _ _ _ _
      | exact ih2 _ _ _ _
      | exact ih3 _ _ _ _ _ _
      | exact ih4 _ _ _ _ _ _ _ _
      | exact cantleref07_All.mono _ _ _
      | exact cantleref07_Walk.mono _ _
      | exact cantleref07_in.mono _ _ _
      | exact cantleref07_num.mono _ _ _
      | exact LeO.none _
      | refine LeO.ite ?_ ?_
      | refine LeO.bind ?_ (fun _ => ?_)
    · intro y0 y1 y2 y3 y4 y5 y6 y7
      unfold cantleref07_Check.l3
      repeat' first
      | (with_reducible exact ih0 _ _ _)
      | (with_reducible exact ih1 _ _ _ _)
      | (with_reducible exact ih2 _ _ _ _)
      | (with_reducible exact ih3 _ _ _ _ _ _)
      | (with_reducible exact ih4 _ _ _ _ _ _ _ _)
      | (with_reducible exact cantleref07_All.mono _ _ _)
      | (with_reducible exact cantleref07_Walk.mono _ _)
      | (with_reducible exact cantleref07_in.mono _ _ _)
      | (with_reducible exact cantleref07_num.mono _ _ _)
      | (with_reducible exact LeO.refl _)
      | (with_reducible exact LeO.none _)
      | (with_reducible refine LeO.ite ?_ ?_)
      | (with_reducible refine LeO.bind ?_ (fun _ => ?_))
      | exact ih0 _ _ _
      | exact ih1 _ _ _ _
      | exact ih2 _ _ _ _
      | exact ih3 _ _ _ _ _ _
      | exact ih4 _ _ _ _ _ _ _ _
      | exact cantleref07_All.mono _ _ _
      | exact cantleref07_Walk.mono _ _
      | exact cantleref07_in.mono _ _ _
      | exact cantleref07_num.mono _ _ _
      | exact LeO.none _
      | refine LeO.ite ?_ ?_
      | refine LeO.bind ?_ (fun _ => ?_)
theorem cantleref07_Check.mono : ∀ a0 k, LeO (cantleref07_Check.f k a0) (cantleref07_Check.f (k + 1) a0) := by
  intro a0 k
  obtain ⟨ih0, ih1, ih2, ih3, ih4⟩ := cantleref07_Check.mono_l k
  unfold cantleref07_Check.f
  repeat' first
      | (with_reducible exact ih0 _ _ _)
      | (with_reducible exact ih1 _ _ _ _)
      | (with_reducible exact ih2 _ _ _ _)
      | (with_reducible exact ih3 _ _ _ _ _ _)
      | (with_reducible exact ih4 _ _ _ _ _ _ _ _)
      | (with_reducible exact cantleref07_All.mono _ _ _)
      | (with_reducible exact cantleref07_Walk.mono _ _)
      | (with_reducible exact cantleref07_in.mono _ _ _)
      | (with_reducible exact cantleref07_num.mono _ _ _)
      | (with_reducible exact LeO.refl _)
      | (with_reducible exact LeO.none _)
      | (with_reducible refine LeO.ite ?_ ?_)
      | (with_reducible refine LeO.bind ?_ (fun _ => ?_))
      | exact ih0 _ _ _
      | exact ih1 _ _ _ _
      | exact ih2 _ _ _ _
      | exact ih3 _ _ _ _ _ _
      | exact ih4 _ _ _ _ _ _ _ _
      | exact cantleref07_All.mono _ _ _
      | exact cantleref07_Walk.mono _ _
      | exact cantleref07_in.mono _ _ _
      | exact cantleref07_num.mono _ _ _
      | exact LeO.none _
      | refine LeO.ite ?_ ?_
      | refine LeO.bind ?_ (fun _ => ?_)
set_option maxHeartbeats 8000000 in
set_option maxRecDepth 100000 in
theorem cantleref07_Check.calls (k : Nat) (A0 : Option Addr) (c0 : Nat) (l0 : List Int) (r : Bool) (w : World) (hr0 : Kd.C (Kd.int .u8) w A0 l0.length l0) (hc0 : l0.length ≤ c0) (h : cantleref07_Check.f k l0 = some r) :
    Calls Try.prog 30 #[.slice A0 l0.length c0] w fun e w' => e = .returned (.bool r) ∧ Below w.heap.size w w' := by
  have HR0 := Aside0.mk hr0
  have HC0 := Aside0.mk hc0
  clear hr0 hc0
  have HB := Aside0.mk (Below.refl w.heap.size w)
  have H : ((cantleref07_Walk.f k l0).bind fun bt260 => (if bt260.2 = true then ((cantleref07_num.f k l0 0).bind fun t264 => (cantleref07_Check.j0 k l0 bt260.1 (decide (t264 ≥ 4194304)))) else (cantleref07_Check.j0 k l0 bt260.1 true))) = some r := h
  clear h
  replace H := Option.bind_eq_some_iff.mp H
  obtain ⟨⟨t260, t261⟩, A20, H⟩ := H
  replace H : (if t261 = true then ((cantleref07_num.f k l0 0).bind fun t264 => (cantleref07_Check.j0 k l0 t260 (decide (t264 ≥ 4194304)))) else (cantleref07_Check.j0 k l0 t260 true)) = some r := H
  have A2 := Aside0.mk A20
  clear A20
  have HC3 := Aside0.mk H
  clear H
  go_enter Try.func30, Try.ntmps30
  go_upto_region 2 with (first | (go_at_call 108; (with_reducible refine (cantleref07_Walk.calls k _ _ l0 t260 t261 _ ?side1 ?side2 A2.out).mono ?_); (case side1 => repeat (first | exact HR0.out | (with_reducible refine Kd.C_alloc ?_ _) | (with_reducible refine Kd.C_drewN ?_ _) | (with_reducible refine Kd.C_drew ?_))); (case side2 => exact HC0.out); rintro e w4 ⟨v262, rfl, ho0, hb⟩; have n0_ := Aside0.mk (Kd.R_lower ho0 (below_size (by repeat (first | (with_reducible first | exact HB.out | apply below_alloc | apply pw_below_drewN | apply below_drew1) | exact HB.out)))); have n1_ := Aside0.mk (below_step (by repeat (first | (with_reducible first | exact HB.out | apply below_alloc | apply pw_below_drewN | apply below_drew1) | exact HB.out)) hb); clear HB; have HO263 := n0_; have HB := n1_; clear n0_ n1_; (try clear hb); (try clear hb2); (try clear hk); (try clear hi); (try clear ho0)))
  repeat (go_quiet (first | (go_at_call 108; (with_reducible refine (cantleref07_Walk.calls k _ _ l0 t260 t261 _ ?side1 ?side2 A2.out).mono ?_); (case side1 => repeat (first | exact HR0.out | (with_reducible refine Kd.C_alloc ?_ _) | (with_reducible refine Kd.C_drewN ?_ _) | (with_reducible refine Kd.C_drew ?_))); (case side2 => exact HC0.out); rintro e w4 ⟨v262, rfl, ho0, hb⟩; have n0_ := Aside0.mk (Kd.R_lower ho0 (below_size (by repeat (first | (with_reducible first | exact HB.out | apply below_alloc | apply pw_below_drewN | apply below_drew1) | exact HB.out)))); have n1_ := Aside0.mk (below_step (by repeat (first | (with_reducible first | exact HB.out | apply below_alloc | apply pw_below_drewN | apply below_drew1) | exact HB.out)) hb); clear HB; have HO263 := n0_; have HB := n1_; clear n0_ n1_; (try clear hb); (try clear hb2); (try clear hk); (try clear hi); (try clear ho0))); go_upto_region 2 with (first | (go_at_call 108; (with_reducible refine (cantleref07_Walk.calls k _ _ l0 t260 t261 _ ?side1 ?side2 A2.out).mono ?_); (case side1 => repeat (first | exact HR0.out | (with_reducible refine Kd.C_alloc ?_ _) | (with_reducible refine Kd.C_drewN ?_ _) | (with_reducible refine Kd.C_drew ?_))); (case side2 => exact HC0.out); rintro e w4 ⟨v262, rfl, ho0, hb⟩; have n0_ := Aside0.mk (Kd.R_lower ho0 (below_size (by repeat (first | (with_reducible first | exact HB.out | apply below_alloc | apply pw_below_drewN | apply below_drew1) | exact HB.out)))); have n1_ := Aside0.mk (below_step (by repeat (first | (with_reducible first | exact HB.out | apply below_alloc | apply pw_below_drewN | apply below_drew1) | exact HB.out)) hb); clear HB; have HO263 := n0_; have HB := n1_; clear n0_ n1_; (try clear hb); (try clear hb2); (try clear hk); (try clear hi); (try clear ho0))))
  (try simp only [Act.put, List.setIfInBounds_toArray, List.set_cons_zero, List.set_cons_succ])
  go_cut [24] (fun v24 wc => ∃ (kq : Nat) (x24_2 : Bool), v24 = .bool x24_2 ∧ Aside0 (cantleref07_Check.j0 kq l0 t260 x24_2 = some r) ∧ Aside0 (kq ≤ k) ∧ Aside0 (Kd.R k57 57 wc w.heap.size (fun _ => True) v262 t260) ∧ Aside0 (Below w.heap.size w wc))
  case first =>
    have H := HC3.out
    clear HC3
    by_cases c5 : t261 = true
    · subst c5
      have H1 : ((cantleref07_num.f k l0 0).bind fun t264 => (cantleref07_Check.j0 k l0 t260 (decide (t264 ≥ 4194304)))) = some r := by rw [if_pos rfl] at H; exact H
      clear H
      have H := H1
      clear H1
      replace H := Option.bind_eq_some_iff.mp H
      obtain ⟨t264, A60, H⟩ := H
      replace H : (cantleref07_Check.j0 k l0 t260 (decide (t264 ≥ 4194304))) = some r := H
      have A6 := Aside0.mk A60
      clear A60
      have H' := Aside0.mk H
      clear H
      go_wp2_with (first | (go_at_call 100; (with_reducible refine (cantleref07_num.calls k _ _ l0 0 t264 _ ?side1 ?side2 A6.out).mono ?_); (case side1 => repeat (first | exact (Kd.C_below HR0.out HB.out) | (with_reducible refine Kd.C_alloc ?_ _) | (with_reducible refine Kd.C_drewN ?_ _) | (with_reducible refine Kd.C_drew ?_))); (case side2 => exact HC0.out); rintro e w' ⟨rfl, ⟨nd, rfl⟩⟩; (try first | exact ⟨rfl, _, World.drewN_drewN _ _ _⟩ | exact ⟨rfl, _, Eq.trans (World.drewN_drewN _ _ _) (congrArg (World.drewN _) (Nat.add_assoc _ _ _))⟩)))
      repeat (go_quiet (first | (go_at_call 100; (with_reducible refine (cantleref07_num.calls k _ _ l0 0 t264 _ ?side1 ?side2 A6.out).mono ?_); (case side1 => repeat (first | exact (Kd.C_below HR0.out HB.out) | (with_reducible refine Kd.C_alloc ?_ _) | (with_reducible refine Kd.C_drewN ?_ _) | (with_reducible refine Kd.C_drew ?_))); (case side2 => exact HC0.out); rintro e w' ⟨rfl, ⟨nd, rfl⟩⟩; (try first | exact ⟨rfl, _, World.drewN_drewN _ _ _⟩ | exact ⟨rfl, _, Eq.trans (World.drewN_drewN _ _ _) (congrArg (World.drewN _) (Nat.add_assoc _ _ _))⟩))); try go_wp2_with (first | (go_at_call 100; (with_reducible refine (cantleref07_num.calls k _ _ l0 0 t264 _ ?side1 ?side2 A6.out).mono ?_); (case side1 => repeat (first | exact (Kd.C_below HR0.out HB.out) | (with_reducible refine Kd.C_alloc ?_ _) | (with_reducible refine Kd.C_drewN ?_ _) | (with_reducible refine Kd.C_drew ?_))); (case side2 => exact HC0.out); rintro e w' ⟨rfl, ⟨nd, rfl⟩⟩; (try first | exact ⟨rfl, _, World.drewN_drewN _ _ _⟩ | exact ⟨rfl, _, Eq.trans (World.drewN_drewN _ _ _) (congrArg (World.drewN _) (Nat.add_assoc _ _ _))⟩))))
      go_meet
      case rel => exact ⟨_, (decide (t264 ≥ 4194304)), (by first | rfl | (simp; done) | (simp [*]; done)), H', ⟨by first | omega | exact Nat.le_refl _⟩, ⟨by (with_reducible repeat (first | apply Kd.R_alloc | apply Kd.R_drewN | apply Kd.R_drew)); exact HO263.out⟩, ⟨by repeat (first | (with_reducible first | exact HB.out | apply below_alloc | apply pw_below_drewN | apply below_drew1) | exact HB.out)⟩⟩
    · replace c5 := Bool.eq_false_iff.mpr c5
      subst c5
      have H1 : (cantleref07_Check.j0 k l0 t260 true) = some r := by rw [if_neg (show ¬ (false = true) by decide)] at H; exact H
      clear H
      have H := H1
      clear H1
      have H' := Aside0.mk H
      clear H
      go_wp2
      repeat (go_quiet (fail); try go_wp2)
      go_meet
      case rel => exact ⟨_, (true), (by first | rfl | (simp; done) | (simp [*]; done)), H', ⟨by first | omega | exact Nat.le_refl _⟩, ⟨by (with_reducible repeat (first | apply Kd.R_alloc | apply Kd.R_drewN | apply Kd.R_drew)); exact HO263.out⟩, ⟨by repeat (first | (with_reducible first | exact HB.out | apply below_alloc | apply pw_below_drewN | apply below_drew1) | exact HB.out)⟩⟩
  case rest =>
    clear HC3
    try clear p2
    try clear c3
    try clear c5
    obtain ⟨kq, x24_2, rfl, HA, HJ2, HO_3, HB⟩ := hcut
    cases kq with
    | zero => exact absurd HA.out (by simp [cantleref07_Check.j0])
    | succ kj2 =>
      have H := HA.out
      clear HA
      simp only [cantleref07_Check.j0] at H
      by_cases c7 : x24_2 = true
      · subst c7
        have H1 : (some false) = some r := by rw [if_pos rfl] at H; exact H
        clear H
        have H := H1
        clear H1
        obtain rfl := Option.some.inj H
        go_wp2
        repeat (go_quiet (fail); try go_wp2)
        go_ret
        exact ⟨by first | rfl | (simp [errW_none, errW_some] <;> rfl) | (simp [*, errW_none, errW_some] <;> rfl), by repeat (first | (with_reducible first | exact HB.out | apply below_alloc | apply pw_below_drewN | apply below_drew1) | exact HB.out)⟩
      · replace c7 := Bool.eq_false_iff.mpr c7
        subst c7
        have H1 : (cantleref07_Check.l0 kj2 l0 t260 0 0) = some r := by rw [if_neg (show ¬ (false = true) by decide)] at H; exact H
        clear H
        have H := H1
        clear H1
        have H' := Aside0.mk H
        clear H
        go_wp2
        repeat (go_quiet (fail); try go_wp2)
        go_loopg [5, 6] kj2 (fun kq v5 v6 w' => ∃ (x5_2 : Int) (x6_2 : Int), v5 = .int .i64 x5_2 ∧ v6 = .int .i64 x6_2 ∧ Aside0 (cantleref07_Check.l0 kq l0 t260 x5_2 x6_2 = some r) ∧ Aside0 (kq ≤ kj2) ∧ Aside0 (Kd.R k57 57 w' w.heap.size (fun _ => True) v262 t260) ∧ Aside0 (Below w.heap.size w w'))
        case atStart => exact ⟨(0), (0), (by first | rfl | (simp; done) | (simp [*]; done)), (by first | rfl | (simp; done) | (simp [*]; done)), H', ⟨Nat.le_refl _⟩, ⟨by (with_reducible repeat (first | apply Kd.R_alloc | apply Kd.R_drewN | apply Kd.R_drew)); exact HO_3.out⟩, ⟨by repeat (first | (with_reducible first | exact HB.out | apply below_alloc | apply pw_below_drewN | apply below_drew1) | exact HB.out)⟩⟩
        case round =>
          clear H'
          try clear p2
          try clear c3
          try clear c5
          try clear c7
          try clear p2
          obtain ⟨x5_2, x6_2, rfl, rfl, HA, HK2, HO_3, HB⟩ := hrel
          cases gk with
          | zero => exact absurd HA.out (by simp [cantleref07_Check.l0])
          | succ k2 =>
            have H := HA.out
            clear HA
            simp only [cantleref07_Check.l0] at H
            by_cases c8 : x6_2 < (t260.length : Int)
            · rw [if_pos c8] at H
              have c8b0 : decide (x6_2 < (t260.length : Int)) = true := decide_eq_true c8
              clear c8
              by_cases c9 : 0 ≤ x6_2
              · rw [if_pos c9] at H
                have c9b0 : decide (0 ≤ x6_2) = true := decide_eq_true c9
                clear c9
                obtain ⟨bq10, hbq10⟩ : ∃ b_ : Bool, b_ = ((rd_T57 t260 x6_2).f2) := ⟨_, rfl⟩
                replace H : (if (bq10 = true) then (if x6_2 > 0 then (cantleref07_Check.l0 k2 l0 t260 x5_2 (wrap64 (x6_2 + 1))) else (cantleref07_Check.l0 k2 l0 t260 x5_2 (wrap64 (x6_2 + 1)))) else (if x6_2 > 0 then (if 0 ≤ (wrap64 (x6_2 - 1)) then (if (wrap64 (x6_2 - 1)) < (t260.length : Int) then (if ((rd_T57 t260 (wrap64 (x6_2 - 1))).f2 = true) then (cantleref07_Check.l0 k2 l0 t260 (wrap64 (x5_2 + 1)) (wrap64 (x6_2 + 1))) else (some false)) else (none)) else (none)) else (cantleref07_Check.l0 k2 l0 t260 (wrap64 (x5_2 + 1)) (wrap64 (x6_2 + 1))))) = some r := by rw [← hbq10] at H; exact H
                have Nbq10 := Aside0.mk hbq10
                clear hbq10
                by_cases c11 : (bq10 = true)
                · subst c11
                  have H1 : (if x6_2 > 0 then (cantleref07_Check.l0 k2 l0 t260 x5_2 (wrap64 (x6_2 + 1))) else (cantleref07_Check.l0 k2 l0 t260 x5_2 (wrap64 (x6_2 + 1)))) = some r := by rw [if_pos rfl] at H; exact H
                  clear H
                  have H := H1
                  clear H1
                  by_cases c12 : x6_2 > 0
                  · rw [if_pos c12] at H
                    have c12b0 : decide (0 < x6_2) = true := decide_eq_true c12
                    clear c12
                    have H' := Aside0.mk H
                    clear H
                    obtain ⟨Ao13, co13, eo13⟩ := Kd.R_slice HO_3.out
                    subst eo13
                    have p265 : 0 ≤ (x6_2 : Int) := of_decide_eq_true (by first | (with_reducible assumption) | assumption)
                    have q265 : x6_2 < (t260.length : Int) := of_decide_eq_true (by first | (with_reducible assumption) | assumption)
                    obtain ⟨ad265, e265, hx265_0, hx265_1, hx265_2⟩ := at_T57 (Kd.R_reads' HO_3.out).2.2 x6_2 p265 q265
                    (try rw [← Nbq10.out] at hx265_2)
                    cases e265
                    replace p265 := eq_true p265
                    replace q265 := eq_true q265
                    have p266 : 0 ≤ (x6_2 : Int) := of_decide_eq_true (by first | (with_reducible assumption) | assumption)
                    have q266 : x6_2 < (t260.length : Int) := of_decide_eq_true (by first | (with_reducible assumption) | assumption)
                    obtain ⟨ad266, e266, hx266_0, hx266_1, hx266_2⟩ := at_T57 (Kd.R_reads' HO_3.out).2.2 x6_2 p266 q266
                    (try rw [← Nbq10.out] at hx266_2)
                    obtain rfl : ad265 = ad266 := (by injection e266)
                    replace p266 := eq_true p266
                    replace q266 := eq_true q266
                    go_wp2
                    repeat (go_quiet (fail); try go_wp2)
                    go_roundg k2
                    case measure => have := HJ2.out; have := HK2.out; omega
                    case rel => exact ⟨(x5_2), (wrap64 (x6_2 + 1)), (by first | rfl | (simp; done) | (simp [*]; done)), (by first | rfl | (simp; done) | (simp [*]; done)), H', ⟨by have := HJ2.out; have := HK2.out; omega⟩, ⟨by (with_reducible repeat (first | apply Kd.R_alloc | apply Kd.R_drewN | apply Kd.R_drew)); exact HO_3.out⟩, ⟨by repeat (first | (with_reducible first | exact HB.out | apply below_alloc | apply pw_below_drewN | apply below_drew1) | exact HB.out)⟩⟩
                  · rw [if_neg c12] at H
                    have c12b0 : decide (0 < x6_2) = false := decide_eq_false c12
                    clear c12
                    have H' := Aside0.mk H
                    clear H
                    obtain ⟨Ao14, co14, eo14⟩ := Kd.R_slice HO_3.out
                    subst eo14
                    have p265 : 0 ≤ (x6_2 : Int) := of_decide_eq_true (by first | (with_reducible assumption) | assumption)
                    have q265 : x6_2 < (t260.length : Int) := of_decide_eq_true (by first | (with_reducible assumption) | assumption)
                    obtain ⟨ad265, e265, hx265_0, hx265_1, hx265_2⟩ := at_T57 (Kd.R_reads' HO_3.out).2.2 x6_2 p265 q265
                    (try rw [← Nbq10.out] at hx265_2)
                    cases e265
                    replace p265 := eq_true p265
                    replace q265 := eq_true q265
                    go_wp2
                    repeat (go_quiet (fail); try go_wp2)
                    go_roundg k2
                    case measure => have := HJ2.out; have := HK2.out; omega
                    case rel => exact ⟨(x5_2), (wrap64 (x6_2 + 1)), (by first | rfl | (simp; done) | (simp [*]; done)), (by first | rfl | (simp; done) | (simp [*]; done)), H', ⟨by have := HJ2.out; have := HK2.out; omega⟩, ⟨by (with_reducible repeat (first | apply Kd.R_alloc | apply Kd.R_drewN | apply Kd.R_drew)); exact HO_3.out⟩, ⟨by repeat (first | (with_reducible first | exact HB.out | apply below_alloc | apply pw_below_drewN | apply below_drew1) | exact HB.out)⟩⟩
                · replace c11 := Bool.eq_false_iff.mpr c11
                  subst c11
                  have H1 : (if x6_2 > 0 then (if 0 ≤ (wrap64 (x6_2 - 1)) then (if (wrap64 (x6_2 - 1)) < (t260.length : Int) then (if ((rd_T57 t260 (wrap64 (x6_2 - 1))).f2 = true) then (cantleref07_Check.l0 k2 l0 t260 (wrap64 (x5_2 + 1)) (wrap64 (x6_2 + 1))) else (some false)) else (none)) else (none)) else (cantleref07_Check.l0 k2 l0 t260 (wrap64 (x5_2 + 1)) (wrap64 (x6_2 + 1)))) = some r := by rw [if_neg (show ¬ (false = true) by decide)] at H; exact H
                  clear H
                  have H := H1
                  clear H1
                  by_cases c15 : x6_2 > 0
                  · rw [if_pos c15] at H
                    have c15b0 : decide (0 < x6_2) = true := decide_eq_true c15
                    clear c15
                    obtain ⟨ji16, hji16⟩ : ∃ j_ : Int, (wrap64 (x6_2 - 1)) = j_ := ⟨_, rfl⟩
                    replace H : (if 0 ≤ (ji16) then (if (ji16) < (t260.length : Int) then (if ((rd_T57 t260 (ji16)).f2 = true) then (cantleref07_Check.l0 k2 l0 t260 (wrap64 (x5_2 + 1)) (wrap64 (x6_2 + 1))) else (some false)) else (none)) else (none)) = some r := by first | (rw [hji16] at H; exact H) | (simp only [hji16] at H ⊢; exact H)
                    have hji16w : (IntKind.i64.wrap (x6_2 - 1)) = ji16 := (i64_w _).trans hji16
                    by_cases c17 : 0 ≤ (ji16)
                    · rw [if_pos c17] at H
                      have c17b0 : decide (0 ≤ (ji16)) = true := decide_eq_true c17
                      clear c17
                      by_cases c18 : (ji16) < (t260.length : Int)
                      · rw [if_pos c18] at H
                        have c18b0 : decide ((ji16) < (t260.length : Int)) = true := decide_eq_true c18
                        clear c18
                        obtain ⟨bq19, hbq19⟩ : ∃ b_ : Bool, b_ = ((rd_T57 t260 (ji16)).f2) := ⟨_, rfl⟩
                        replace H : (if (bq19 = true) then (cantleref07_Check.l0 k2 l0 t260 (wrap64 (x5_2 + 1)) (wrap64 (x6_2 + 1))) else (some false)) = some r := by rw [← hbq19] at H; exact H
                        have Nbq19 := Aside0.mk hbq19
                        clear hbq19
                        by_cases c20 : (bq19 = true)
                        · subst c20
                          have H1 : (cantleref07_Check.l0 k2 l0 t260 (wrap64 (x5_2 + 1)) (wrap64 (x6_2 + 1))) = some r := by rw [if_pos rfl] at H; exact H
                          clear H
                          have H := H1
                          clear H1
                          have H' := Aside0.mk H
                          clear H
                          obtain ⟨Ao21, co21, eo21⟩ := Kd.R_slice HO_3.out
                          subst eo21
                          have p265 : 0 ≤ (x6_2 : Int) := of_decide_eq_true (by first | (with_reducible assumption) | assumption)
                          have q265 : x6_2 < (t260.length : Int) := of_decide_eq_true (by first | (with_reducible assumption) | assumption)
                          obtain ⟨ad265, e265, hx265_0, hx265_1, hx265_2⟩ := at_T57 (Kd.R_reads' HO_3.out).2.2 x6_2 p265 q265
                          (try rw [← Nbq10.out] at hx265_2)
                          (try rw [← Nbq19.out] at hx265_2)
                          cases e265
                          replace p265 := eq_true p265
                          replace q265 := eq_true q265
                          have p267 : 0 ≤ (x6_2 : Int) := of_decide_eq_true (by first | (with_reducible assumption) | assumption)
                          have q267 : x6_2 < (t260.length : Int) := of_decide_eq_true (by first | (with_reducible assumption) | assumption)
                          obtain ⟨ad267, e267, hx267_0, hx267_1, hx267_2⟩ := at_T57 (Kd.R_reads' HO_3.out).2.2 x6_2 p267 q267
                          (try rw [← Nbq10.out] at hx267_2)
                          (try rw [← Nbq19.out] at hx267_2)
                          obtain rfl : ad265 = ad267 := (by injection e267)
                          replace p267 := eq_true p267
                          replace q267 := eq_true q267
                          have p268 : 0 ≤ ((ji16) : Int) := of_decide_eq_true (by first | (with_reducible assumption) | assumption)
                          have q268 : (ji16) < (t260.length : Int) := of_decide_eq_true (by first | (with_reducible assumption) | assumption)
                          obtain ⟨ad268, e268, hx268_0, hx268_1, hx268_2⟩ := at_T57 (Kd.R_reads' HO_3.out).2.2 (ji16) p268 q268
                          (try rw [← Nbq10.out] at hx268_2)
                          (try rw [← Nbq19.out] at hx268_2)
                          obtain rfl : ad265 = ad268 := (by injection e268)
                          replace p268 := eq_true p268
                          replace q268 := eq_true q268
                          go_wp2
                          repeat (go_quiet (fail); try go_wp2)
                          go_roundg k2
                          case measure => have := HJ2.out; have := HK2.out; omega
                          case rel => exact ⟨(wrap64 (x5_2 + 1)), (wrap64 (x6_2 + 1)), (by first | rfl | (simp; done) | (simp [*]; done)), (by first | rfl | (simp; done) | (simp [*]; done)), H', ⟨by have := HJ2.out; have := HK2.out; omega⟩, ⟨by (with_reducible repeat (first | apply Kd.R_alloc | apply Kd.R_drewN | apply Kd.R_drew)); exact HO_3.out⟩, ⟨by repeat (first | (with_reducible first | exact HB.out | apply below_alloc | apply pw_below_drewN | apply below_drew1) | exact HB.out)⟩⟩
                        · replace c20 := Bool.eq_false_iff.mpr c20
                          subst c20
                          have H1 : (some false) = some r := by rw [if_neg (show ¬ (false = true) by decide)] at H; exact H
                          clear H
                          have H := H1
                          clear H1
                          obtain rfl := Option.some.inj H
                          obtain ⟨Ao22, co22, eo22⟩ := Kd.R_slice HO_3.out
                          subst eo22
                          have p265 : 0 ≤ (x6_2 : Int) := of_decide_eq_true (by first | (with_reducible assumption) | assumption)
                          have q265 : x6_2 < (t260.length : Int) := of_decide_eq_true (by first | (with_reducible assumption) | assumption)
                          obtain ⟨ad265, e265, hx265_0, hx265_1, hx265_2⟩ := at_T57 (Kd.R_reads' HO_3.out).2.2 x6_2 p265 q265
                          (try rw [← Nbq10.out] at hx265_2)
                          (try rw [← Nbq19.out] at hx265_2)
                          cases e265
                          replace p265 := eq_true p265
                          replace q265 := eq_true q265
                          have p267 : 0 ≤ (x6_2 : Int) := of_decide_eq_true (by first | (with_reducible assumption) | assumption)
                          have q267 : x6_2 < (t260.length : Int) := of_decide_eq_true (by first | (with_reducible assumption) | assumption)
                          obtain ⟨ad267, e267, hx267_0, hx267_1, hx267_2⟩ := at_T57 (Kd.R_reads' HO_3.out).2.2 x6_2 p267 q267
                          (try rw [← Nbq10.out] at hx267_2)
                          (try rw [← Nbq19.out] at hx267_2)
                          obtain rfl : ad265 = ad267 := (by injection e267)
                          replace p267 := eq_true p267
                          replace q267 := eq_true q267
                          have p268 : 0 ≤ ((ji16) : Int) := of_decide_eq_true (by first | (with_reducible assumption) | assumption)
                          have q268 : (ji16) < (t260.length : Int) := of_decide_eq_true (by first | (with_reducible assumption) | assumption)
                          obtain ⟨ad268, e268, hx268_0, hx268_1, hx268_2⟩ := at_T57 (Kd.R_reads' HO_3.out).2.2 (ji16) p268 q268
                          (try rw [← Nbq10.out] at hx268_2)
                          (try rw [← Nbq19.out] at hx268_2)
                          obtain rfl : ad265 = ad268 := (by injection e268)
                          replace p268 := eq_true p268
                          replace q268 := eq_true q268
                          go_wp2
                          repeat (go_quiet (fail); try go_wp2)
                          go_ret
                          exact ⟨by first | rfl | (simp [errW_none, errW_some] <;> rfl) | (simp only [← hji16]; first | rfl | (simp [errW_none, errW_some] <;> rfl)) | (simp [*, errW_none, errW_some] <;> rfl), by repeat (first | (with_reducible first | exact HB.out | apply below_alloc | apply pw_below_drewN | apply below_drew1) | exact HB.out)⟩
                      · rw [if_neg c18] at H
                        exact absurd H (by simp)
                    · rw [if_neg c17] at H
                      exact absurd H (by simp)
                  · rw [if_neg c15] at H
                    have c15b0 : decide (0 < x6_2) = false := decide_eq_false c15
                    clear c15
                    have H' := Aside0.mk H
                    clear H
                    obtain ⟨Ao23, co23, eo23⟩ := Kd.R_slice HO_3.out
                    subst eo23
                    have p265 : 0 ≤ (x6_2 : Int) := of_decide_eq_true (by first | (with_reducible assumption) | assumption)
                    have q265 : x6_2 < (t260.length : Int) := of_decide_eq_true (by first | (with_reducible assumption) | assumption)
                    obtain ⟨ad265, e265, hx265_0, hx265_1, hx265_2⟩ := at_T57 (Kd.R_reads' HO_3.out).2.2 x6_2 p265 q265
                    (try rw [← Nbq10.out] at hx265_2)
                    cases e265
                    replace p265 := eq_true p265
                    replace q265 := eq_true q265
                    go_wp2
                    repeat (go_quiet (fail); try go_wp2)
                    go_roundg k2
                    case measure => have := HJ2.out; have := HK2.out; omega
                    case rel => exact ⟨(wrap64 (x5_2 + 1)), (wrap64 (x6_2 + 1)), (by first | rfl | (simp; done) | (simp [*]; done)), (by first | rfl | (simp; done) | (simp [*]; done)), H', ⟨by have := HJ2.out; have := HK2.out; omega⟩, ⟨by (with_reducible repeat (first | apply Kd.R_alloc | apply Kd.R_drewN | apply Kd.R_drew)); exact HO_3.out⟩, ⟨by repeat (first | (with_reducible first | exact HB.out | apply below_alloc | apply pw_below_drewN | apply below_drew1) | exact HB.out)⟩⟩
              · rw [if_neg c9] at H
                exact absurd H (by simp)
            · rw [if_neg c8] at H
              have c8b0 : decide (x6_2 < (t260.length : Int)) = false := decide_eq_false c8
              clear c8
              have H' := Aside0.mk H
              clear H
              obtain ⟨Ao24, co24, eo24⟩ := Kd.R_slice HO_3.out
              subst eo24
              go_wp2
              repeat (go_quiet (fail); try go_wp2)
              go_loopg [5, 7] k2 (fun kq v5 v7 w' => ∃ (x5_3 : Int) (x7_3 : Int), v5 = .int .i64 x5_3 ∧ v7 = .int .i64 x7_3 ∧ Aside0 (cantleref07_Check.l1 kq l0 t260 x5_3 x7_3 = some r) ∧ Aside0 (kq ≤ k2) ∧ Aside0 (Kd.R k57 57 w' w.heap.size (fun _ => True) (.slice Ao24 t260.length co24) t260) ∧ Aside0 (Below w.heap.size w w'))
              case atStart => exact ⟨(x5_2), (0), (by first | rfl | (simp; done) | (simp [*]; done)), (by first | rfl | (simp; done) | (simp [*]; done)), H', ⟨Nat.le_refl _⟩, ⟨by (with_reducible repeat (first | apply Kd.R_alloc | apply Kd.R_drewN | apply Kd.R_drew)); exact HO_3.out⟩, ⟨by repeat (first | (with_reducible first | exact HB.out | apply below_alloc | apply pw_below_drewN | apply below_drew1) | exact HB.out)⟩⟩
              case round =>
                clear H'
                try clear c1
                try clear q1
                try clear c2
                try clear p2
                try clear q2
                try clear hx2
                try clear c3
                try clear c5
                try clear p6
                try clear c7
                try clear c8
                try clear c8b0
                try clear c9
                try clear c9b0
                try clear q10
                try clear c11
                try clear c12
                try clear c12b0
                try clear c15
                try clear c15b0
                try clear c17
                try clear c17b0
                try clear c18
                try clear c18b0
                try clear q19
                try clear c20
                try clear hx265_0
                try clear hx265_1
                try clear hx265_2
                try clear hx266_0
                try clear hx266_1
                try clear hx266_2
                try clear hx267_0
                try clear hx267_1
                try clear hx267_2
                try clear hx268_0
                try clear hx268_1
                try clear hx268_2
                try clear p2
                try clear p265
                try clear p266
                try clear p267
                try clear p268
                try clear q265
                try clear q266
                try clear q267
                try clear q268
                obtain ⟨x5_3, x7_3, rfl, rfl, HA, HK3, HO_3, HB⟩ := hrel
                cases gk with
                | zero => exact absurd HA.out (by simp [cantleref07_Check.l1])
                | succ k3 =>
                  have H := HA.out
                  clear HA
                  simp only [cantleref07_Check.l1] at H
                  by_cases c25 : x7_3 < 22
                  · rw [if_pos c25] at H
                    have c25b0 : decide (x7_3 < 22) = true := decide_eq_true c25
                    clear c25
                    replace H := Option.bind_eq_some_iff.mp H
                    obtain ⟨⟨t269, t270⟩, A260, H⟩ := H
                    replace H : (if t270 = true then (cantleref07_Check.l2 k3 l0 t260 (wrap64 (x5_3 - (t269.length : Int))) x7_3 t269 0) else (some false)) = some r := H
                    have A26 := Aside0.mk A260
                    clear A260
                    by_cases c27 : t270 = true
                    · subst c27
                      have H1 : (cantleref07_Check.l2 k3 l0 t260 (wrap64 (x5_3 - (t269.length : Int))) x7_3 t269 0) = some r := by rw [if_pos rfl] at H; exact H
                      clear H
                      have H := H1
                      clear H1
                      have H' := Aside0.mk H
                      clear H
                      go_wp2_with (first | (go_at_call 109; (with_reducible refine (cantleref07_All.calls k3 _ _ l0 x7_3 t269 true _ ?side1 ?side2 A26.out).mono ?_); (case side1 => repeat (first | exact (Kd.C_below HR0.out HB.out) | (with_reducible refine Kd.C_alloc ?_ _) | (with_reducible refine Kd.C_drewN ?_ _) | (with_reducible refine Kd.C_drew ?_))); (case side2 => exact HC0.out); rintro e w28 ⟨v271, rfl, ho0, hb⟩; have n0_ := Aside0.mk (Kd.R_below (by (with_reducible repeat (first | apply Kd.R_alloc | apply Kd.R_drewN | apply Kd.R_drew)); exact HO_3.out) hb); have n1_ := Aside0.mk (Kd.R_lower ho0 (below_size (by repeat (first | (with_reducible first | exact HB.out | apply below_alloc | apply pw_below_drewN | apply below_drew1) | exact HB.out)))); have n2_ := Aside0.mk (below_step (by repeat (first | (with_reducible first | exact HB.out | apply below_alloc | apply pw_below_drewN | apply below_drew1) | exact HB.out)) hb); clear HO_3; clear HB; have HO_3 := n0_; have HO272 := n1_; have HB := n2_; clear n0_ n1_ n2_; (try clear hb); (try clear hb2); (try clear hk); (try clear hi); (try clear ho0); obtain ⟨Ao29, co29, eo29⟩ := Kd.R_slice HO272.out; subst eo29))
                      repeat (go_quiet (first | (go_at_call 109; (with_reducible refine (cantleref07_All.calls k3 _ _ l0 x7_3 t269 true _ ?side1 ?side2 A26.out).mono ?_); (case side1 => repeat (first | exact (Kd.C_below HR0.out HB.out) | (with_reducible refine Kd.C_alloc ?_ _) | (with_reducible refine Kd.C_drewN ?_ _) | (with_reducible refine Kd.C_drew ?_))); (case side2 => exact HC0.out); rintro e w28 ⟨v271, rfl, ho0, hb⟩; have n0_ := Aside0.mk (Kd.R_below (by (with_reducible repeat (first | apply Kd.R_alloc | apply Kd.R_drewN | apply Kd.R_drew)); exact HO_3.out) hb); have n1_ := Aside0.mk (Kd.R_lower ho0 (below_size (by repeat (first | (with_reducible first | exact HB.out | apply below_alloc | apply pw_below_drewN | apply below_drew1) | exact HB.out)))); have n2_ := Aside0.mk (below_step (by repeat (first | (with_reducible first | exact HB.out | apply below_alloc | apply pw_below_drewN | apply below_drew1) | exact HB.out)) hb); clear HO_3; clear HB; have HO_3 := n0_; have HO272 := n1_; have HB := n2_; clear n0_ n1_ n2_; (try clear hb); (try clear hb2); (try clear hk); (try clear hi); (try clear ho0); obtain ⟨Ao29, co29, eo29⟩ := Kd.R_slice HO272.out; subst eo29)); try go_wp2_with (first | (go_at_call 109; (with_reducible refine (cantleref07_All.calls k3 _ _ l0 x7_3 t269 true _ ?side1 ?side2 A26.out).mono ?_); (case side1 => repeat (first | exact (Kd.C_below HR0.out HB.out) | (with_reducible refine Kd.C_alloc ?_ _) | (with_reducible refine Kd.C_drewN ?_ _) | (with_reducible refine Kd.C_drew ?_))); (case side2 => exact HC0.out); rintro e w28 ⟨v271, rfl, ho0, hb⟩; have n0_ := Aside0.mk (Kd.R_below (by (with_reducible repeat (first | apply Kd.R_alloc | apply Kd.R_drewN | apply Kd.R_drew)); exact HO_3.out) hb); have n1_ := Aside0.mk (Kd.R_lower ho0 (below_size (by repeat (first | (with_reducible first | exact HB.out | apply below_alloc | apply pw_below_drewN | apply below_drew1) | exact HB.out)))); have n2_ := Aside0.mk (below_step (by repeat (first | (with_reducible first | exact HB.out | apply below_alloc | apply pw_below_drewN | apply below_drew1) | exact HB.out)) hb); clear HO_3; clear HB; have HO_3 := n0_; have HO272 := n1_; have HB := n2_; clear n0_ n1_ n2_; (try clear hb); (try clear hb2); (try clear hk); (try clear hi); (try clear ho0); obtain ⟨Ao29, co29, eo29⟩ := Kd.R_slice HO272.out; subst eo29)))
                      go_loopg [10] k3 (fun kq v10 w' => ∃ (x10_4 : Int), v10 = .int .i64 x10_4 ∧ Aside0 (cantleref07_Check.l2 kq l0 t260 (wrap64 (x5_3 - (t269.length : Int))) x7_3 t269 x10_4 = some r) ∧ Aside0 (kq ≤ k3) ∧ Aside0 (Kd.R k57 57 w' w.heap.size (fun _ => True) (.slice Ao24 t260.length co24) t260) ∧ Aside0 (Kd.R (Kd.int .i64) 3 w' w.heap.size (fun _ => True) (.slice Ao29 t269.length co29) t269) ∧ Aside0 (Below w.heap.size w w'))
                      case atStart => exact ⟨(0), (by first | rfl | (simp; done) | (simp [*]; done)), H', ⟨Nat.le_refl _⟩, ⟨by (with_reducible repeat (first | apply Kd.R_alloc | apply Kd.R_drewN | apply Kd.R_drew)); exact HO_3.out⟩, ⟨by (with_reducible repeat (first | apply Kd.R_alloc | apply Kd.R_drewN | apply Kd.R_drew)); exact HO272.out⟩, ⟨by repeat (first | (with_reducible first | exact HB.out | apply below_alloc | apply pw_below_drewN | apply below_drew1) | exact HB.out)⟩⟩
                      case round =>
                        clear H'
                        try clear c1
                        try clear q1
                        try clear c2
                        try clear p2
                        try clear q2
                        try clear hx2
                        try clear c3
                        try clear c5
                        try clear p6
                        try clear c7
                        try clear c8
                        try clear c8b0
                        try clear c9
                        try clear c9b0
                        try clear q10
                        try clear c11
                        try clear c12
                        try clear c12b0
                        try clear c15
                        try clear c15b0
                        try clear c17
                        try clear c17b0
                        try clear c18
                        try clear c18b0
                        try clear q19
                        try clear c20
                        try clear c25
                        try clear c25b0
                        try clear p26
                        try clear q26
                        try clear hx26
                        try clear c27
                        try clear hx265_0
                        try clear hx265_1
                        try clear hx265_2
                        try clear hx266_0
                        try clear hx266_1
                        try clear hx266_2
                        try clear hx267_0
                        try clear hx267_1
                        try clear hx267_2
                        try clear hx268_0
                        try clear hx268_1
                        try clear hx268_2
                        try clear p2
                        try clear p265
                        try clear p266
                        try clear p267
                        try clear p268
                        try clear p6
                        try clear q1
                        try clear q10
                        try clear q19
                        try clear q2
                        try clear q265
                        try clear q266
                        try clear q267
                        try clear q268
                        obtain ⟨x10_4, rfl, HA, HK4, HO_3, HO_8, HB⟩ := hrel
                        cases gk with
                        | zero => exact absurd HA.out (by simp [cantleref07_Check.l2])
                        | succ k4 =>
                          have H := HA.out
                          clear HA
                          simp only [cantleref07_Check.l2] at H
                          by_cases c30 : x10_4 < (t269.length : Int)
                          · rw [if_pos c30] at H
                            have c30b0 : decide (x10_4 < (t269.length : Int)) = true := decide_eq_true c30
                            clear c30
                            have H' := Aside0.mk H
                            clear H
                            go_wp2
                            repeat (go_quiet (fail); try go_wp2)
                            go_loopg [11, 12] k4 (fun kq v11 v12 w' => ∃ (x11_5 : Bool) (x12_5 : Int), v11 = .bool x11_5 ∧ v12 = .int .i64 x12_5 ∧ Aside0 (cantleref07_Check.l3 kq l0 t260 (wrap64 (x5_3 - (t269.length : Int))) x7_3 t269 x10_4 x11_5 x12_5 = some r) ∧ Aside0 (kq ≤ k4) ∧ Aside0 (Kd.R k57 57 w' w.heap.size (fun _ => True) (.slice Ao24 t260.length co24) t260) ∧ Aside0 (Kd.R (Kd.int .i64) 3 w' w.heap.size (fun _ => True) (.slice Ao29 t269.length co29) t269) ∧ Aside0 (Below w.heap.size w w'))
                            case atStart => exact ⟨(false), (0), (by first | rfl | (simp; done) | (simp [*]; done)), (by first | rfl | (simp; done) | (simp [*]; done)), H', ⟨Nat.le_refl _⟩, ⟨by (with_reducible repeat (first | apply Kd.R_alloc | apply Kd.R_drewN | apply Kd.R_drew)); exact HO_3.out⟩, ⟨by (with_reducible repeat (first | apply Kd.R_alloc | apply Kd.R_drewN | apply Kd.R_drew)); exact HO_8.out⟩, ⟨by repeat (first | (with_reducible first | exact HB.out | apply below_alloc | apply pw_below_drewN | apply below_drew1) | exact HB.out)⟩⟩
                            case round =>
                              clear H'
                              try clear c1
                              try clear q1
                              try clear c2
                              try clear p2
                              try clear q2
                              try clear hx2
                              try clear c3
                              try clear c5
                              try clear p6
                              try clear c7
                              try clear c8
                              try clear c8b0
                              try clear c9
                              try clear c9b0
                              try clear q10
                              try clear c11
                              try clear c12
                              try clear c12b0
                              try clear c15
                              try clear c15b0
                              try clear c17
                              try clear c17b0
                              try clear c18
                              try clear c18b0
                              try clear q19
                              try clear c20
                              try clear c25
                              try clear c25b0
                              try clear p26
                              try clear q26
                              try clear hx26
                              try clear c27
                              try clear c30
                              try clear c30b0
                              try clear hx265_0
                              try clear hx265_1
                              try clear hx265_2
                              try clear hx266_0
                              try clear hx266_1
                              try clear hx266_2
                              try clear hx267_0
                              try clear hx267_1
                              try clear hx267_2
                              try clear hx268_0
                              try clear hx268_1
                              try clear hx268_2
                              try clear p2
                              try clear p26
                              try clear p265
                              try clear p266
                              try clear p267
                              try clear p268
                              try clear p6
                              try clear q1
                              try clear q10
                              try clear q19
                              try clear q2
                              try clear q26
                              try clear q265
                              try clear q266
                              try clear q267
                              try clear q268
                              obtain ⟨x11_5, x12_5, rfl, rfl, HA, HK5, HO_3, HO_8, HB⟩ := hrel
                              cases gk with
                              | zero => exact absurd HA.out (by simp [cantleref07_Check.l3])
                              | succ k5 =>
                                have H := HA.out
                                clear HA
                                simp only [cantleref07_Check.l3] at H
                                by_cases c31 : x12_5 < (t260.length : Int)
                                · rw [if_pos c31] at H
                                  have c31b0 : decide (x12_5 < (t260.length : Int)) = true := decide_eq_true c31
                                  clear c31
                                  by_cases c32 : x11_5 = true
                                  · subst c32
                                    have H1 : (cantleref07_Check.l3 k5 l0 t260 (wrap64 (x5_3 - (t269.length : Int))) x7_3 t269 x10_4 true (wrap64 (x12_5 + 1))) = some r := by rw [if_pos rfl] at H; exact H
                                    clear H
                                    have H := H1
                                    clear H1
                                    have H' := Aside0.mk H
                                    clear H
                                    go_wp2
                                    repeat (go_quiet (fail); try go_wp2)
                                    go_roundg k5
                                    case measure => have := HJ2.out; have := HK2.out; have := HK3.out; have := HK4.out; have := HK5.out; omega
                                    case rel => exact ⟨(true), (wrap64 (x12_5 + 1)), (by first | rfl | (simp; done) | (simp [*]; done)), (by first | rfl | (simp; done) | (simp [*]; done)), H', ⟨by have := HJ2.out; have := HK2.out; have := HK3.out; have := HK4.out; have := HK5.out; omega⟩, ⟨by (with_reducible repeat (first | apply Kd.R_alloc | apply Kd.R_drewN | apply Kd.R_drew)); exact HO_3.out⟩, ⟨by (with_reducible repeat (first | apply Kd.R_alloc | apply Kd.R_drewN | apply Kd.R_drew)); exact HO_8.out⟩, ⟨by repeat (first | (with_reducible first | exact HB.out | apply below_alloc | apply pw_below_drewN | apply below_drew1) | exact HB.out)⟩⟩
                                  · replace c32 := Bool.eq_false_iff.mpr c32
                                    subst c32
                                    have H1 : (if 0 ≤ x12_5 then (if 0 ≤ x10_4 then (if x10_4 < (t269.length : Int) then (if ((rd_T57 t260 x12_5).f0) = (rd t269 x10_4) then (cantleref07_Check.l3 k5 l0 t260 (wrap64 (x5_3 - (t269.length : Int))) x7_3 t269 x10_4 (!((rd_T57 t260 x12_5).f2)) (wrap64 (x12_5 + 1))) else (cantleref07_Check.l3 k5 l0 t260 (wrap64 (x5_3 - (t269.length : Int))) x7_3 t269 x10_4 false (wrap64 (x12_5 + 1)))) else (none)) else (none)) else (none)) = some r := by rw [if_neg (show ¬ (false = true) by decide)] at H; exact H
                                    clear H
                                    have H := H1
                                    clear H1
                                    by_cases c33 : 0 ≤ x12_5
                                    · rw [if_pos c33] at H
                                      have c33b0 : decide (0 ≤ x12_5) = true := decide_eq_true c33
                                      clear c33
                                      by_cases c34 : 0 ≤ x10_4
                                      · rw [if_pos c34] at H
                                        have c34b0 : decide (0 ≤ x10_4) = true := decide_eq_true c34
                                        clear c34
                                        by_cases c35 : x10_4 < (t269.length : Int)
                                        · rw [if_pos c35] at H
                                          have c35b0 : decide (x10_4 < (t269.length : Int)) = true := decide_eq_true c35
                                          clear c35
                                          by_cases c36 : ((rd_T57 t260 x12_5).f0) = (rd t269 x10_4)
                                          · rw [if_pos c36] at H
                                            have c36b0 : (((rd_T57 t260 x12_5).f0) == (rd t269 x10_4)) = true := beq_iff_eq.mpr c36
                                            have c36b1 : (((rd_T57 t260 x12_5).f0) != (rd t269 x10_4)) = false := bne_eq_false_iff_eq.mpr c36
                                            clear c36
                                            have H' := Aside0.mk H
                                            clear H
                                            have p273 : 0 ≤ (x12_5 : Int) := of_decide_eq_true (by first | (with_reducible assumption) | assumption)
                                            have q273 : x12_5 < (t260.length : Int) := of_decide_eq_true (by first | (with_reducible assumption) | assumption)
                                            obtain ⟨ad273, e273, hx273_0, hx273_1, hx273_2⟩ := at_T57 (Kd.R_reads' HO_3.out).2.2 x12_5 p273 q273
                                            cases e273
                                            replace p273 := eq_true p273
                                            replace q273 := eq_true q273
                                            have p274 : 0 ≤ (x10_4 : Int) := of_decide_eq_true (by first | (with_reducible assumption) | assumption)
                                            have q274 : x10_4 < (t269.length : Int) := of_decide_eq_true (by first | (with_reducible assumption) | assumption)
                                            obtain ⟨ad274, e274, hx274_0⟩ := Kd.at_int (Kd.R_reads' HO_8.out).2.2 x10_4 p274 q274
                                            cases e274
                                            replace p274 := eq_true p274
                                            replace q274 := eq_true q274
                                            have p275 : 0 ≤ (x12_5 : Int) := of_decide_eq_true (by first | (with_reducible assumption) | assumption)
                                            have q275 : x12_5 < (t260.length : Int) := of_decide_eq_true (by first | (with_reducible assumption) | assumption)
                                            obtain ⟨ad275, e275, hx275_0, hx275_1, hx275_2⟩ := at_T57 (Kd.R_reads' HO_3.out).2.2 x12_5 p275 q275
                                            obtain rfl : ad273 = ad275 := (by injection e275)
                                            replace p275 := eq_true p275
                                            replace q275 := eq_true q275
                                            go_wp2
                                            repeat (go_quiet (fail); try go_wp2)
                                            go_roundg k5
                                            case measure => have := HJ2.out; have := HK2.out; have := HK3.out; have := HK4.out; have := HK5.out; omega
                                            case rel => exact ⟨(!((rd_T57 t260 x12_5).f2)), (wrap64 (x12_5 + 1)), (by first | rfl | (simp; done) | (simp [*]; done)), (by first | rfl | (simp; done) | (simp [*]; done)), H', ⟨by have := HJ2.out; have := HK2.out; have := HK3.out; have := HK4.out; have := HK5.out; omega⟩, ⟨by (with_reducible repeat (first | apply Kd.R_alloc | apply Kd.R_drewN | apply Kd.R_drew)); exact HO_3.out⟩, ⟨by (with_reducible repeat (first | apply Kd.R_alloc | apply Kd.R_drewN | apply Kd.R_drew)); exact HO_8.out⟩, ⟨by repeat (first | (with_reducible first | exact HB.out | apply below_alloc | apply pw_below_drewN | apply below_drew1) | exact HB.out)⟩⟩
                                          · rw [if_neg c36] at H
                                            have c36b0 : (((rd_T57 t260 x12_5).f0) == (rd t269 x10_4)) = false := beq_eq_false_iff_ne.mpr c36
                                            have c36b1 : (((rd_T57 t260 x12_5).f0) != (rd t269 x10_4)) = true := bne_iff_ne.mpr c36
                                            have H' := Aside0.mk H
                                            clear H
                                            have p273 : 0 ≤ (x12_5 : Int) := of_decide_eq_true (by first | (with_reducible assumption) | assumption)
                                            have q273 : x12_5 < (t260.length : Int) := of_decide_eq_true (by first | (with_reducible assumption) | assumption)
                                            obtain ⟨ad273, e273, hx273_0, hx273_1, hx273_2⟩ := at_T57 (Kd.R_reads' HO_3.out).2.2 x12_5 p273 q273
                                            cases e273
                                            replace p273 := eq_true p273
                                            replace q273 := eq_true q273
                                            have p274 : 0 ≤ (x10_4 : Int) := of_decide_eq_true (by first | (with_reducible assumption) | assumption)
                                            have q274 : x10_4 < (t269.length : Int) := of_decide_eq_true (by first | (with_reducible assumption) | assumption)
                                            obtain ⟨ad274, e274, hx274_0⟩ := Kd.at_int (Kd.R_reads' HO_8.out).2.2 x10_4 p274 q274
                                            cases e274
                                            replace p274 := eq_true p274
                                            replace q274 := eq_true q274
                                            go_wp2
                                            repeat (go_quiet (fail); try go_wp2)
                                            go_roundg k5
                                            case measure => have := HJ2.out; have := HK2.out; have := HK3.out; have := HK4.out; have := HK5.out; omega
                                            case rel => exact ⟨(false), (wrap64 (x12_5 + 1)), (by first | rfl | (simp; done) | (simp [*]; done)), (by first | rfl | (simp; done) | (simp [*]; done)), H', ⟨by have := HJ2.out; have := HK2.out; have := HK3.out; have := HK4.out; have := HK5.out; omega⟩, ⟨by (with_reducible repeat (first | apply Kd.R_alloc | apply Kd.R_drewN | apply Kd.R_drew)); exact HO_3.out⟩, ⟨by (with_reducible repeat (first | apply Kd.R_alloc | apply Kd.R_drewN | apply Kd.R_drew)); exact HO_8.out⟩, ⟨by repeat (first | (with_reducible first | exact HB.out | apply below_alloc | apply pw_below_drewN | apply below_drew1) | exact HB.out)⟩⟩
                                        · rw [if_neg c35] at H
                                          exact absurd H (by simp)
                                      · rw [if_neg c34] at H
                                        exact absurd H (by simp)
                                    · rw [if_neg c33] at H
                                      exact absurd H (by simp)
                                · rw [if_neg c31] at H
                                  have c31b0 : decide (x12_5 < (t260.length : Int)) = false := decide_eq_false c31
                                  clear c31
                                  by_cases c37 : x11_5 = true
                                  · subst c37
                                    have H1 : (if 0 ≤ x10_4 then (if x10_4 < (t269.length : Int) then ((cantleref07_in.f k5 t269 (rd t269 x10_4)).bind fun t277 => (if t277 = 1 then (cantleref07_Check.l2 k5 l0 t260 (wrap64 (x5_3 - (t269.length : Int))) x7_3 t269 (wrap64 (x10_4 + 1))) else (some false))) else (none)) else (none)) = some r := by rw [if_pos rfl] at H; exact H
                                    clear H
                                    have H := H1
                                    clear H1
                                    by_cases c38 : 0 ≤ x10_4
                                    · rw [if_pos c38] at H
                                      have c38b0 : decide (0 ≤ x10_4) = true := decide_eq_true c38
                                      clear c38
                                      by_cases c39 : x10_4 < (t269.length : Int)
                                      · rw [if_pos c39] at H
                                        have c39b0 : decide (x10_4 < (t269.length : Int)) = true := decide_eq_true c39
                                        clear c39
                                        replace H := Option.bind_eq_some_iff.mp H
                                        obtain ⟨t277, A400, H⟩ := H
                                        replace H : (if t277 = 1 then (cantleref07_Check.l2 k5 l0 t260 (wrap64 (x5_3 - (t269.length : Int))) x7_3 t269 (wrap64 (x10_4 + 1))) else (some false)) = some r := H
                                        have A40 := Aside0.mk A400
                                        clear A400
                                        by_cases c41 : t277 = 1
                                        · rw [if_pos c41] at H
                                          have c41b0 : (t277 == 1) = true := beq_iff_eq.mpr c41
                                          have c41b1 : (t277 != 1) = false := bne_eq_false_iff_eq.mpr c41
                                          clear c41
                                          have H' := Aside0.mk H
                                          clear H
                                          have p276 : 0 ≤ (x10_4 : Int) := of_decide_eq_true (by first | (with_reducible assumption) | assumption)
                                          have q276 : x10_4 < (t269.length : Int) := of_decide_eq_true (by first | (with_reducible assumption) | assumption)
                                          obtain ⟨ad276, e276, hx276_0⟩ := Kd.at_int (Kd.R_reads' HO_8.out).2.2 x10_4 p276 q276
                                          cases e276
                                          replace p276 := eq_true p276
                                          replace q276 := eq_true q276
                                          go_wp2_with (first | (go_at_call 110; (with_reducible refine (cantleref07_in.calls k5 _ _ t269 (rd t269 x10_4) t277 _ ?side1 ?side2 A40.out).mono ?_); (case side1 => repeat (first | exact (Kd.R_reads' HO_8.out).2.2 | (with_reducible refine Kd.C_alloc ?_ _) | (with_reducible refine Kd.C_drewN ?_ _) | (with_reducible refine Kd.C_drew ?_))); (case side2 => exact (Kd.R_reads' HO_8.out).2.1); rintro e w' ⟨rfl, ⟨nd, rfl⟩⟩; (try first | exact ⟨rfl, _, World.drewN_drewN _ _ _⟩ | exact ⟨rfl, _, Eq.trans (World.drewN_drewN _ _ _) (congrArg (World.drewN _) (Nat.add_assoc _ _ _))⟩)))
                                          repeat (go_quiet (first | (go_at_call 110; (with_reducible refine (cantleref07_in.calls k5 _ _ t269 (rd t269 x10_4) t277 _ ?side1 ?side2 A40.out).mono ?_); (case side1 => repeat (first | exact (Kd.R_reads' HO_8.out).2.2 | (with_reducible refine Kd.C_alloc ?_ _) | (with_reducible refine Kd.C_drewN ?_ _) | (with_reducible refine Kd.C_drew ?_))); (case side2 => exact (Kd.R_reads' HO_8.out).2.1); rintro e w' ⟨rfl, ⟨nd, rfl⟩⟩; (try first | exact ⟨rfl, _, World.drewN_drewN _ _ _⟩ | exact ⟨rfl, _, Eq.trans (World.drewN_drewN _ _ _) (congrArg (World.drewN _) (Nat.add_assoc _ _ _))⟩))); try go_wp2_with (first | (go_at_call 110; (with_reducible refine (cantleref07_in.calls k5 _ _ t269 (rd t269 x10_4) t277 _ ?side1 ?side2 A40.out).mono ?_); (case side1 => repeat (first | exact (Kd.R_reads' HO_8.out).2.2 | (with_reducible refine Kd.C_alloc ?_ _) | (with_reducible refine Kd.C_drewN ?_ _) | (with_reducible refine Kd.C_drew ?_))); (case side2 => exact (Kd.R_reads' HO_8.out).2.1); rintro e w' ⟨rfl, ⟨nd, rfl⟩⟩; (try first | exact ⟨rfl, _, World.drewN_drewN _ _ _⟩ | exact ⟨rfl, _, Eq.trans (World.drewN_drewN _ _ _) (congrArg (World.drewN _) (Nat.add_assoc _ _ _))⟩))))
                                          go_roundg k5
                                          case measure => have := HJ2.out; have := HK2.out; have := HK3.out; have := HK4.out; have := HK5.out; omega
                                          case rel => exact ⟨(wrap64 (x10_4 + 1)), (by first | rfl | (simp; done) | (simp [*]; done)), H', ⟨by have := HJ2.out; have := HK2.out; have := HK3.out; have := HK4.out; have := HK5.out; omega⟩, ⟨by (with_reducible repeat (first | apply Kd.R_alloc | apply Kd.R_drewN | apply Kd.R_drew)); exact HO_3.out⟩, ⟨by (with_reducible repeat (first | apply Kd.R_alloc | apply Kd.R_drewN | apply Kd.R_drew)); exact HO_8.out⟩, ⟨by repeat (first | (with_reducible first | exact HB.out | apply below_alloc | apply pw_below_drewN | apply below_drew1) | exact HB.out)⟩⟩
                                        · rw [if_neg c41] at H
                                          have c41b0 : (t277 == 1) = false := beq_eq_false_iff_ne.mpr c41
                                          have c41b1 : (t277 != 1) = true := bne_iff_ne.mpr c41
                                          obtain rfl := Option.some.inj H
                                          have p276 : 0 ≤ (x10_4 : Int) := of_decide_eq_true (by first | (with_reducible assumption) | assumption)
                                          have q276 : x10_4 < (t269.length : Int) := of_decide_eq_true (by first | (with_reducible assumption) | assumption)
                                          obtain ⟨ad276, e276, hx276_0⟩ := Kd.at_int (Kd.R_reads' HO_8.out).2.2 x10_4 p276 q276
                                          cases e276
                                          replace p276 := eq_true p276
                                          replace q276 := eq_true q276
                                          go_wp2_with (first | (go_at_call 110; (with_reducible refine (cantleref07_in.calls k5 _ _ t269 (rd t269 x10_4) t277 _ ?side1 ?side2 A40.out).mono ?_); (case side1 => repeat (first | exact (Kd.R_reads' HO_8.out).2.2 | (with_reducible refine Kd.C_alloc ?_ _) | (with_reducible refine Kd.C_drewN ?_ _) | (with_reducible refine Kd.C_drew ?_))); (case side2 => exact (Kd.R_reads' HO_8.out).2.1); rintro e w' ⟨rfl, ⟨nd, rfl⟩⟩; (try first | exact ⟨rfl, _, World.drewN_drewN _ _ _⟩ | exact ⟨rfl, _, Eq.trans (World.drewN_drewN _ _ _) (congrArg (World.drewN _) (Nat.add_assoc _ _ _))⟩)))
                                          repeat (go_quiet (first | (go_at_call 110; (with_reducible refine (cantleref07_in.calls k5 _ _ t269 (rd t269 x10_4) t277 _ ?side1 ?side2 A40.out).mono ?_); (case side1 => repeat (first | exact (Kd.R_reads' HO_8.out).2.2 | (with_reducible refine Kd.C_alloc ?_ _) | (with_reducible refine Kd.C_drewN ?_ _) | (with_reducible refine Kd.C_drew ?_))); (case side2 => exact (Kd.R_reads' HO_8.out).2.1); rintro e w' ⟨rfl, ⟨nd, rfl⟩⟩; (try first | exact ⟨rfl, _, World.drewN_drewN _ _ _⟩ | exact ⟨rfl, _, Eq.trans (World.drewN_drewN _ _ _) (congrArg (World.drewN _) (Nat.add_assoc _ _ _))⟩))); try go_wp2_with (first | (go_at_call 110; (with_reducible refine (cantleref07_in.calls k5 _ _ t269 (rd t269 x10_4) t277 _ ?side1 ?side2 A40.out).mono ?_); (case side1 => repeat (first | exact (Kd.R_reads' HO_8.out).2.2 | (with_reducible refine Kd.C_alloc ?_ _) | (with_reducible refine Kd.C_drewN ?_ _) | (with_reducible refine Kd.C_drew ?_))); (case side2 => exact (Kd.R_reads' HO_8.out).2.1); rintro e w' ⟨rfl, ⟨nd, rfl⟩⟩; (try first | exact ⟨rfl, _, World.drewN_drewN _ _ _⟩ | exact ⟨rfl, _, Eq.trans (World.drewN_drewN _ _ _) (congrArg (World.drewN _) (Nat.add_assoc _ _ _))⟩))))
                                          go_ret
                                          exact ⟨by first | rfl | (simp [errW_none, errW_some] <;> rfl) | (simp [*, errW_none, errW_some] <;> rfl), by repeat (first | (with_reducible first | exact HB.out | apply below_alloc | apply pw_below_drewN | apply below_drew1) | exact HB.out)⟩
                                      · rw [if_neg c39] at H
                                        exact absurd H (by simp)
                                    · rw [if_neg c38] at H
                                      exact absurd H (by simp)
                                  · replace c37 := Bool.eq_false_iff.mpr c37
                                    subst c37
                                    have H1 : (some false) = some r := by rw [if_neg (show ¬ (false = true) by decide)] at H; exact H
                                    clear H
                                    have H := H1
                                    clear H1
                                    obtain rfl := Option.some.inj H
                                    go_wp2
                                    repeat (go_quiet (fail); try go_wp2)
                                    go_ret
                                    exact ⟨by first | rfl | (simp [errW_none, errW_some] <;> rfl) | (simp [*, errW_none, errW_some] <;> rfl), by repeat (first | (with_reducible first | exact HB.out | apply below_alloc | apply pw_below_drewN | apply below_drew1) | exact HB.out)⟩
                          · rw [if_neg c30] at H
                            have c30b0 : decide (x10_4 < (t269.length : Int)) = false := decide_eq_false c30
                            clear c30
                            have H' := Aside0.mk H
                            clear H
                            go_wp2
                            repeat (go_quiet (fail); try go_wp2)
                            go_roundg k4
                            case measure => have := HJ2.out; have := HK2.out; have := HK3.out; have := HK4.out; omega
                            case rel => exact ⟨((wrap64 (x5_3 - (t269.length : Int)))), (wrap64 (x7_3 + 1)), (by first | rfl | (simp; done) | (simp [*]; done)), (by first | rfl | (simp; done) | (simp [*]; done)), H', ⟨by have := HJ2.out; have := HK2.out; have := HK3.out; have := HK4.out; omega⟩, ⟨by (with_reducible repeat (first | apply Kd.R_alloc | apply Kd.R_drewN | apply Kd.R_drew)); exact HO_3.out⟩, ⟨by repeat (first | (with_reducible first | exact HB.out | apply below_alloc | apply pw_below_drewN | apply below_drew1) | exact HB.out)⟩⟩
                    · replace c27 := Bool.eq_false_iff.mpr c27
                      subst c27
                      have H1 : (some false) = some r := by rw [if_neg (show ¬ (false = true) by decide)] at H; exact H
                      clear H
                      have H := H1
                      clear H1
                      obtain rfl := Option.some.inj H
                      go_wp2_with (first | (go_at_call 109; (with_reducible refine (cantleref07_All.calls k3 _ _ l0 x7_3 t269 false _ ?side1 ?side2 A26.out).mono ?_); (case side1 => repeat (first | exact (Kd.C_below HR0.out HB.out) | (with_reducible refine Kd.C_alloc ?_ _) | (with_reducible refine Kd.C_drewN ?_ _) | (with_reducible refine Kd.C_drew ?_))); (case side2 => exact HC0.out); rintro e w42 ⟨v271, rfl, ho0, hb⟩; have n0_ := Aside0.mk (Kd.R_below (by (with_reducible repeat (first | apply Kd.R_alloc | apply Kd.R_drewN | apply Kd.R_drew)); exact HO_3.out) hb); have n1_ := Aside0.mk (Kd.R_lower ho0 (below_size (by repeat (first | (with_reducible first | exact HB.out | apply below_alloc | apply pw_below_drewN | apply below_drew1) | exact HB.out)))); have n2_ := Aside0.mk (below_step (by repeat (first | (with_reducible first | exact HB.out | apply below_alloc | apply pw_below_drewN | apply below_drew1) | exact HB.out)) hb); clear HO_3; clear HB; have HO_3 := n0_; have HO272 := n1_; have HB := n2_; clear n0_ n1_ n2_; (try clear hb); (try clear hb2); (try clear hk); (try clear hi); (try clear ho0)))
                      repeat (go_quiet (first | (go_at_call 109; (with_reducible refine (cantleref07_All.calls k3 _ _ l0 x7_3 t269 false _ ?side1 ?side2 A26.out).mono ?_); (case side1 => repeat (first | exact (Kd.C_below HR0.out HB.out) | (with_reducible refine Kd.C_alloc ?_ _) | (with_reducible refine Kd.C_drewN ?_ _) | (with_reducible refine Kd.C_drew ?_))); (case side2 => exact HC0.out); rintro e w42 ⟨v271, rfl, ho0, hb⟩; have n0_ := Aside0.mk (Kd.R_below (by (with_reducible repeat (first | apply Kd.R_alloc | apply Kd.R_drewN | apply Kd.R_drew)); exact HO_3.out) hb); have n1_ := Aside0.mk (Kd.R_lower ho0 (below_size (by repeat (first | (with_reducible first | exact HB.out | apply below_alloc | apply pw_below_drewN | apply below_drew1) | exact HB.out)))); have n2_ := Aside0.mk (below_step (by repeat (first | (with_reducible first | exact HB.out | apply below_alloc | apply pw_below_drewN | apply below_drew1) | exact HB.out)) hb); clear HO_3; clear HB; have HO_3 := n0_; have HO272 := n1_; have HB := n2_; clear n0_ n1_ n2_; (try clear hb); (try clear hb2); (try clear hk); (try clear hi); (try clear ho0))); try go_wp2_with (first | (go_at_call 109; (with_reducible refine (cantleref07_All.calls k3 _ _ l0 x7_3 t269 false _ ?side1 ?side2 A26.out).mono ?_); (case side1 => repeat (first | exact (Kd.C_below HR0.out HB.out) | (with_reducible refine Kd.C_alloc ?_ _) | (with_reducible refine Kd.C_drewN ?_ _) | (with_reducible refine Kd.C_drew ?_))); (case side2 => exact HC0.out); rintro e w42 ⟨v271, rfl, ho0, hb⟩; have n0_ := Aside0.mk (Kd.R_below (by (with_reducible repeat (first | apply Kd.R_alloc | apply Kd.R_drewN | apply Kd.R_drew)); exact HO_3.out) hb); have n1_ := Aside0.mk (Kd.R_lower ho0 (below_size (by repeat (first | (with_reducible first | exact HB.out | apply below_alloc | apply pw_below_drewN | apply below_drew1) | exact HB.out)))); have n2_ := Aside0.mk (below_step (by repeat (first | (with_reducible first | exact HB.out | apply below_alloc | apply pw_below_drewN | apply below_drew1) | exact HB.out)) hb); clear HO_3; clear HB; have HO_3 := n0_; have HO272 := n1_; have HB := n2_; clear n0_ n1_ n2_; (try clear hb); (try clear hb2); (try clear hk); (try clear hi); (try clear ho0))))
                      go_ret
                      exact ⟨by first | rfl | (simp [errW_none, errW_some] <;> rfl) | (simp [*, errW_none, errW_some] <;> rfl), by repeat (first | (with_reducible first | exact HB.out | apply below_alloc | apply pw_below_drewN | apply below_drew1) | exact HB.out)⟩
                  · rw [if_neg c25] at H
                    have c25b0 : decide (x7_3 < 22) = false := decide_eq_false c25
                    clear c25
                    obtain rfl := Option.some.inj H
                    go_wp2
                    repeat (go_quiet (fail); try go_wp2)
                    go_ret
                    exact ⟨by first | rfl | (simp [errW_none, errW_some] <;> rfl) | (simp [*, errW_none, errW_some] <;> rfl), by repeat (first | (with_reducible first | exact HB.out | apply below_alloc | apply pw_below_drewN | apply below_drew1) | exact HB.out)⟩

end Go.Proofs.Ytnldmhljggcnpaa.Ref
