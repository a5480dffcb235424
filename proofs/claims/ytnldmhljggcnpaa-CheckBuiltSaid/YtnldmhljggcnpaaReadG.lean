import Derived.Test.YtnldmhljggcnpaaList5
import Derived.ProofKit
import Derived.OpenShut
import Derived.ChangeSlices
import Derived.Deep.Slices
import Derived.Deep.Grids
/-! How slices of whole numbers and of bools read, handed in. -/
namespace Go.Proofs.Ytnldmhljggcnpaa
set_option linter.unusedSimpArgs false
set_option linter.unusedVariables false
open Go.RowKit Go.Deep Cantle
set_option maxRecDepth 100000

theorem wf_i64 {n : Int} (h : (Lit.int .i64 n).wf = true) : -9223372036854775808 ≤ n ∧ n ≤ 9223372036854775807 := by
  unfold Lit.wf at h
  rw [Bool.and_eq_true, decide_eq_true_eq, decide_eq_true_eq] at h
  have e1 : IntKind.i64.min = -9223372036854775808 := by decide
  have e2 : IntKind.i64.max = 9223372036854775807 := by decide
  have := h.1
  have := h.2
  omega
theorem rd_of {w : World} {ad : Addr} {n cap : Nat} {cs : List Value} (h1 : n ≤ cap) (h2 : cap ≤ maxLen) (h : ∀ j u, cs[j]? = some u → w.cell? (ad.add j) = some u) : Rd w (fun _ => True) (.slice (some ad) n cap) n cs := by
  refine ⟨_, cap, rfl, h1, by unfold maxLen at h2; omega, fun hn => ?_⟩
  cases cs with
  | nil => exact absurd rfl hn
  | cons u0 r =>
    have h0 := h 0 u0 rfl
    obtain ⟨b, o, s⟩ := ad
    cases s with
    | none =>
      rw [addr_add] at h0
      exact ⟨b, o, rfl, trivial, World.block_lt_of_cell? w _ h0, fun j u hj => by have := h j u hj; rwa [addr_add] at this⟩
    | some p => exfalso; revert h0; simp only [World.cell?, Addr.add]; split <;> simp
theorem read_ints {H : Type} {enc : TypeId × Value → H} {W : World} {a : Option Addr} {len cap : Nat} {d : DataW H} {ps : List MemPlace} (h : DataW.Trod enc Try.prog W 0 (fun _ => true) true 43 (.slice a len cap) d ps) :
    ∃ l : List Int, l.length = len ∧ Rd W (fun _ => True) (.slice a len cap) len (iv l) ∧ ∀ x ∈ l, -9223372036854775808 ≤ x ∧ x ≤ 9223372036854775807 := by
  obtain ⟨fuel, hf⟩ := h
  rcases Go.ChangeShapes.open_ints Try.underlying43 Try.underlying3 (by kernel_rfl) hf with ⟨hcs, _⟩ | ⟨ad, len', cap', zs, hcs, _, hl, hm, hzs, _, hx, hwf⟩
  · simp [Value.cells] at hcs
    obtain ⟨rfl, rfl, rfl⟩ := hcs
    exact ⟨[], rfl, ⟨_, _, rfl, Nat.le_refl _, by omega, fun h => absurd rfl h⟩, fun y hy => by cases hy⟩
  · simp [Value.cells] at hcs
    obtain ⟨rfl, rfl, rfl⟩ := hcs
    simp only [if_true] at hzs
    have hlz : len ≤ zs.length := by omega
    refine ⟨zs.take len, by rw [List.length_take]; omega, rd_of hl hm fun j u hj => ?_, fun x hx => wf_i64 (hwf x (List.mem_of_mem_take hx))⟩
    have hjl : j < len := by
      have := (List.getElem?_eq_some_iff.1 hj).1
      rw [iv_length, List.length_take] at this
      omega
    rw [iv, List.getElem?_map, List.getElem?_take, if_pos hjl, List.getElem?_eq_getElem (by omega)] at hj
    obtain rfl := Option.some.inj hj
    rw [hx j (by omega), List.getD_eq_getElem?_getD, List.getElem?_eq_getElem (by omega)]
    rfl
theorem read_bools {H : Type} {enc : TypeId × Value → H} {W : World} {a : Option Addr} {len cap : Nat} {d : DataW H} {ps : List MemPlace} (h : DataW.Trod enc Try.prog W 0 (fun _ => true) true 60 (.slice a len cap) d ps) :
    ∃ l : List Bool, l.length = len ∧ Rd W (fun _ => True) (.slice a len cap) len (l.map Value.bool) := by
  obtain ⟨fuel, hf⟩ := h
  rcases open_bools Try.underlying60 Try.underlying4 (by kernel_rfl) hf with ⟨hcs, _⟩ | ⟨ad, len', cap', B, hcs, _, hl, hm, _, hx⟩
  · simp [Value.cells] at hcs
    obtain ⟨rfl, rfl, rfl⟩ := hcs
    exact ⟨[], rfl, ⟨_, _, rfl, Nat.le_refl _, by omega, fun h => absurd rfl h⟩⟩
  · simp [Value.cells] at hcs
    obtain ⟨rfl, rfl, rfl⟩ := hcs
    refine ⟨(List.range len).map B, by simp, rd_of hl hm fun j u hj => ?_⟩
    have hjl : j < len := by
      have := (List.getElem?_eq_some_iff.1 hj).1
      simpa using this
    rw [List.getElem?_map, List.getElem?_map, List.getElem?_range hjl] at hj
    obtain rfl := Option.some.inj hj
    exact hx j (by omega)
end Go.Proofs.Ytnldmhljggcnpaa
