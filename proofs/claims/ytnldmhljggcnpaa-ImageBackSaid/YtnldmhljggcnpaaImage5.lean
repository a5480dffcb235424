import Derived.Test.YtnldmhljggcnpaaImage4
namespace Go.Proofs.Ytnldmhljggcnpaa
set_option linter.unusedSimpArgs false
set_option linter.unusedVariables false
open Go.RowKit Cantle

theorem bytes_Join {w : World} {F : Nat → Prop} {v : Value} {d : List (List UInt8)} (hd : RdD w F v d) (hne : ∀ x ∈ d, x ≠ []) (hm : d.flatten.length ≤ 140737488355328) (hm2 : d.length ≤ 140737488355328) :
    Calls Try.prog 96 #[v, .slice none 0 0] w fun e w' => ∃ v', e = .returned v' ∧ Lib.FreshBytes w.heap.size w' v' d.flatten ∧ Keep No w w' := by
  match d, hd, hne, hm, hm2 with
  | [], hd, _, _, _ =>
    obtain ⟨vs, ⟨A, cap, rfl, _, _, _⟩, _, _⟩ := hd
    refine (Try.bytes_Join_none A cap (.slice none 0 0) w).mono fun e w' ⟨h1, h2⟩ => ⟨_, h1, ?_, ?_⟩
    · exact ⟨w.heap.size, 0, [], rfl, Nat.le_refl _, Nat.le_refl _, by decide, rfl, by simp, rfl, fun i hi => by omega, fun i hi => by omega⟩
    · rw [h2]; exact keep_alloc _ _
  | [l0], hd, hne, hm, _ =>
    obtain ⟨b, o, cap, A, c, rfl, _, _, _, _, hcell, hr⟩ := hd.at_ 0 (by simp)
    have hl0 := hne l0 (by simp)
    have hpos : 0 < l0.length := List.length_pos_iff.2 hl0
    have hcell : w.cell? ⟨b, o, none⟩ = some (.slice A l0.length c) := hcell
    have hr : Rd w F (.slice A l0.length c) l0.length (bv l0) := hr
    obtain ⟨b2, o2, c2, e, _, _, _, _, hc⟩ := hr.cells (by rw [bv_length]; exact hpos)
    injection e with e1 e2 e3
    subst e1
    have hfl : [l0].flatten = l0 := by simp
    rw [hfl] at hm ⊢
    refine (Try.bytes_Join_one b o cap ⟨b2, o2, none⟩ c l0 (.slice none 0 0) w hcell (fun i x hx => ?_) hpos hm).mono fun e w' ⟨v', h1, h2, h3⟩ => ⟨v', h1, h2, Keep.ofBelow h3⟩
    rw [addr_add]
    exact hc i _ (by rw [bv, List.getElem?_map, hx]; rfl)
  | l0 :: l1 :: r, hd, hne, hm, hm2 =>
    obtain ⟨vs, hr, hl, hi⟩ := hd
    obtain ⟨b, o, cap, rfl, h1, h2, _, _, hc⟩ := hr.cells (by rw [hl]; simp)
    refine (Try.bytes_Join_many b o _ cap vs (l0 :: l1 :: r) (.slice none 0 0) [] w rfl (by simp) ⟨hl, fun i u hu => by rw [addr_add]; exact hc i u hu, fun i x l hx hll => ?_⟩ h1 ⟨none, 0, rfl, fun _ => rfl, fun a h => by cases h⟩ hm2
      (by rw [lens_flatten]; simpa using hm)).mono fun e w' ⟨v', g1, g2, g3⟩ => ⟨v', g1, by rw [← join_nil]; exact g2, Keep.ofBelow g3⟩
    obtain ⟨A, c, rfl, _, _, h3⟩ := hi i x l hx hll
    refine ⟨A, c, rfl, fun hA => ?_, fun a ha j y hy => ?_⟩
    · by_cases h : l = []
      · exact h
      · obtain ⟨b', o', e, _⟩ := h3 (by intro q; exact h (by simpa [bv] using q)); rw [hA] at e; cases e
    · subst ha
      obtain ⟨b', o', e, _, _, hcc⟩ := h3 (by intro q; have : l = [] := by simpa [bv] using q
                                              subst this; simp at hy)
      injection e with e
      rw [e, addr_add]
      exact hcc j _ (by rw [bv, List.getElem?_map, hy]; rfl)
end Go.Proofs.Ytnldmhljggcnpaa
