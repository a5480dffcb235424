import Derived.Test.YtnldmhljggcnpaaPlainD
/-!
  Plain Lean: blocks that are set one behind the other stand; what a search finds where all free ones lie in their lists.
-/
namespace Cantle
set_option linter.unusedSimpArgs false
set_option linter.unusedVariables false

/-- blocks that lie one behind the other from o on -/
def tiled : Int → List Blk → Prop
  | _, [] => True
  | o, x :: r => x.off = o ∧ isSize x.size = true ∧ tiled (o + x.size) r
theorem tiled_append {o : Int} {l m : List Blk} : tiled o (l ++ m) ↔ tiled o l ∧ tiled (ends o l) m := by
  induction l generalizing o with
  | nil => simp [tiled, ends]
  | cons x l ih => simp only [List.cons_append, tiled, ends, ih, and_assoc]
theorem tiled_snoc {o : Int} {l : List Blk} {x : Blk} (h : tiled o l) (h1 : x.off = ends o l) (h2 : isSize x.size = true) : tiled o (l ++ [x]) ∧ ends o (l ++ [x]) = ends o l + x.size :=
  ⟨tiled_append.2 ⟨h, h1, h2, trivial⟩, by rw [ends_append]; rfl⟩
theorem tiled_ends {o : Int} {l : List Blk} (h : tiled o l) : o ≤ ends o l ∧ ends o l % 16 = o % 16 := by
  induction l generalizing o with
  | nil => exact ⟨Int.le_refl _, rfl⟩
  | cons x l ih =>
    obtain ⟨h1, h2, h3⟩ := h
    have hs := (isSize_iff _).1 h2
    have := ih h3
    show o ≤ ends (o + x.size) l ∧ ends (o + x.size) l % 16 = o % 16
    omega
theorem tiled_at {o : Int} {l : List Blk} (h : tiled o l) {j : Nat} (hj : j < l.length) : l[j].off = ends o (l.take j) ∧ isSize l[j].size = true ∧ l[j].off + l[j].size ≤ ends o l ∧ l[j].off % 16 = o % 16 ∧ o ≤ l[j].off ∧ ends o (l.take (j + 1)) = l[j].off + l[j].size := by
  have e : l = l.take j ++ l[j] :: l.drop (j + 1) := by rw [← List.drop_eq_getElem_cons hj, List.take_append_drop]
  have h' := h
  rw [e] at h'
  obtain ⟨h1, h2, h3, h4⟩ := tiled_append.1 h'
  have h5 := tiled_ends h4
  have h6 := tiled_ends h1
  have e2 : ends o l = ends (ends o (l.take j) + l[j].size) (l.drop (j + 1)) := by
    conv => lhs; rw [e]
    rw [ends_append]; rfl
  have e3 : l.take (j + 1) = l.take j ++ [l[j]] := (List.take_append_getElem hj).symm
  refine ⟨h2, h3, by rw [e2, h2]; exact h5.1, by rw [h2]; exact h6.2, by rw [h2]; exact h6.1, ?_⟩
  rw [e3, ends_append, h2]; rfl
theorem tlp_under {b : List UInt8} {o : Int} {l : List Blk} (h : tlp b o l) : ∀ x ∈ l, x.off + x.size ≤ ends o l := by
  induction l generalizing o with
  | nil => intro x hx; cases hx
  | cons y l ih =>
    obtain ⟨h1, h2⟩ := h
    obtain ⟨h0, _, _, h3, h4, _⟩ := bget_some h1
    intro x hx
    rcases List.mem_cons.1 hx with rfl | hx
    · rw [h0]; exact (tlp_le h2 h3).1
    · exact ih h2 x hx
theorem tlp_set {b : List UInt8} {l : List Blk} {x : Blk} (h : tlp b 184 l) (hx : x.off = ends 184 l) (h0 : 184 ≤ x.off) (hm : x.off % 16 = 8) (hs : isSize x.size = true) (hi : x.off + x.size ≤ b.length) :
    ∃ b', bset b x = some b' ∧ b'.length = b.length ∧ tlp b' 184 (l ++ [x]) := by
  have h1 := (isSize_iff _).1 hs
  have hp : pack x.size x.used < 18446744073709551616 := Nat.lt_trans pack_lt (by decide)
  have e1 : (lay (lay b x.off.toNat (pack x.size x.used)) (x.off + x.size - 8).toNat (pack x.size x.used)).length = b.length := by rw [lay_length, lay_length]
  refine ⟨_, by unfold bset; rw [if_pos ⟨hs, could_iff.2 ⟨h0, hm, by omega, by omega⟩⟩], e1, tlp_append.2 ⟨?_, ?_, trivial⟩⟩
  · refine tlp_congr e1 h fun y hy => ?_
    have h2 := tlp_under h y hy
    have h3 := (tlp_mem h y hy).2
    have h4 := bget_stands (tlp_mem h y hy).1
    have := h4.s1
    constructor
    · rw [num_lay_ne (by omega), num_lay_ne (by omega)]
    · rw [num_lay_ne (by omega), num_lay_ne (by omega)]
  · rw [← hx]
    refine bget_of h0 hm (by rw [e1]; exact hi) hs ?_ ?_
    · rw [num_lay_ne (by omega), num_lay_self (by omega) hp]
    · have e : (x.off + x.size - 8).toNat = x.off.toNat + x.size.toNat - 8 := by omega
      rw [e, num_lay_self (by rw [lay_length]; omega) hp]
theorem walk_set {b : List UInt8} {l : List Blk} (h : tlp b 184 l) (he : ends 184 l = b.length) (h0 : 184 ≤ b.length) : walk b = some l := walk_iff.2 ⟨h0, h, he⟩

def roomB (l : List Blk) (z : Int) : Bool := l.any fun x => !x.used && decide (z ≤ x.size)
def foundB (l : List Blk) (z o : Int) : Bool := l.any fun x => decide (x.off = o) && !x.used && decide (z ≤ x.size)
theorem findGo_inv {b : List UInt8} {l : List Blk} (h : Inv b l (listsOf l)) {z : Int} (k c : Nat) (e : k + c = 22) :
    ∃ o, findGo b z k c = some o ∧ ((o = 0 ∧ ∀ x ∈ l, x.used = false → (c : Int) ≤ cls x.size → ¬ z ≤ x.size) ∨ (o ≠ 0 ∧ ∃ x ∈ l, x.off = o ∧ x.used = false ∧ z ≤ x.size)) := by
  induction k generalizing c with
  | zero =>
    refine ⟨0, rfl, .inl ⟨rfl, fun x hx hu hc => ?_⟩⟩
    have := cls_range (h.st hx).size
    omega
  | succ k ih =>
    have hl := h.lall (c := c) (by omega)
    unfold findGo
    rw [hl]
    simp only
    cases hf : (listsOf l c).find? (bigAt b z) with
    | some o =>
      refine ⟨o, rfl, .inr ?_⟩
      have h1 := List.find?_some hf
      obtain ⟨x, hx, rfl, hu, _⟩ := mem_listsOf.1 (List.mem_of_find?_eq_some hf)
      have hg := (walk_mem h.wk hx).1
      have := (h.st hx).lo
      unfold bigAt at h1
      rw [hg] at h1
      exact ⟨by omega, x, hx, rfl, hu, by simpa using h1⟩
    | none =>
      obtain ⟨o, h1, h2⟩ := ih (c + 1) (by omega)
      refine ⟨o, h1, ?_⟩
      rcases h2 with ⟨h2, h3⟩ | h2
      · refine .inl ⟨h2, fun x hx hu hc hz => ?_⟩
        by_cases hcc : cls x.size = c
        · have h4 := List.find?_eq_none.1 hf x.off (mem_listsOf.2 ⟨x, hx, rfl, hu, hcc⟩)
          have hg := (walk_mem h.wk hx).1
          unfold bigAt at h4
          rw [hg] at h4
          exact h4 (by simpa using hz)
        · exact h3 x hx hu (by omega) hz
      · exact .inr h2
theorem find_inv {b : List UInt8} {l : List Blk} (h : Inv b l (listsOf l)) {z : Int} (hz : isSize z = true) :
    ∃ o, findB b z = some o ∧ (decide (o = 0) || foundB l z o) = true ∧ decide (o ≠ 0) = roomB l z := by
  have hr := cls_range hz
  obtain ⟨o, h1, h2⟩ := findGo_inv h (z := z) (22 - (cls z).toNat) (cls z).toNat (by omega)
  refine ⟨o, h1, ?_⟩
  rcases h2 with ⟨rfl, h2⟩ | ⟨h0, x, hx, ho, hu, hs⟩
  · refine ⟨rfl, ?_⟩
    have : roomB l z = false := by
      unfold roomB
      rw [List.any_eq_false]
      intro x hx
      by_cases hu : x.used = false
      · by_cases hs : z ≤ x.size
        · have hm := cls_mono hz (h.st hx).size hs
          exact absurd hs (h2 x hx hu (by omega))
        · simp [hs]
      · simp [hu]
    rw [this]; rfl
  · have e1 : foundB l z o = true := List.any_eq_true.2 ⟨x, hx, by simp [ho, hu, hs]⟩
    have e2 : roomB l z = true := List.any_eq_true.2 ⟨x, hx, by simp [hu, hs]⟩
    rw [e1, e2]
    exact ⟨by simp, by simp [h0]⟩
theorem listsOf_cons (x : Blk) (r : List Blk) (c : Nat) : listsOf (x :: r) c = if x.used = false ∧ cls x.size = c then listsOf r c ++ [x.off] else listsOf r c := by
  unfold listsOf
  rw [List.filter_cons]
  by_cases h : x.used = false ∧ cls x.size = c
  · rw [if_pos h, if_pos (by simp [h.1, h.2])]; simp
  · rw [if_neg h, if_neg (by
      intro q
      simp at q
      exact h q)]
theorem take_any (f : Blk → Bool) {l : List Blk} {j : Nat} (hj : j < l.length) : (l.take (j + 1)).any f = ((l.take j).any f || f l[j]) := by
  rw [← List.take_append_getElem hj, List.any_append]; simp
theorem roomB_take {l : List Blk} {j : Nat} (hj : j < l.length) (z : Int) : roomB (l.take (j + 1)) z = (roomB (l.take j) z || (!l[j].used && decide (z ≤ l[j].size))) := take_any _ hj
theorem foundB_take {l : List Blk} {j : Nat} (hj : j < l.length) (z o : Int) : foundB (l.take (j + 1)) z o = (foundB (l.take j) z o || (decide (l[j].off = o) && !l[j].used && decide (z ≤ l[j].size))) := take_any _ hj
end Cantle
