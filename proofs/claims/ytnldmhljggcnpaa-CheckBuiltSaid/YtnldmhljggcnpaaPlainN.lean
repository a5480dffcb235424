import Derived.Test.YtnldmhljggcnpaaPlainE
/-!
  Plain Lean: whether an arena is right, as the program asks it, along its blocks.
-/
namespace Cantle
set_option linter.unusedSimpArgs false
set_option linter.unusedVariables false

def checkB (b : List UInt8) : Bool := match walk b with
  | none => false
  | some l => apartL l && (decide (num b 0 < 4194304) && decide (eatGo b 22 0 (places l) = some []))
theorem checkB_iff {b : List UInt8} (hl : b.length ≤ 16384) : checkB b = true ↔ IsRight b := by
  unfold checkB
  cases hw : walk b with
  | none =>
    simp only [Bool.false_eq_true, false_iff]
    intro h
    obtain ⟨l, h⟩ := isRight_walk h
    rw [hw] at h; cases h
  | some l => rw [isRight_eat hw hl]; simp
theorem places_append (l m : List Blk) : places (l ++ m) = places l ++ places m := by simp [places]
theorem take_next' {l : List Blk} {k : Nat} (hk : k < l.length) : l.take (k + 1) = l.take k ++ [l[k]] := (List.take_append_getElem hk).symm
theorem places_take {l : List Blk} {k : Nat} (hk : k < l.length) : places (l.take (k + 1)) = if l[k].used then places (l.take k) else places (l.take k) ++ [(l[k].off, cls l[k].size)] := by
  rw [take_next' hk, places_append]
  cases hu : l[k].used <;> simp [places, hu]
theorem place_new {l : List Blk} (hn : (l.map (·.off)).Nodup) {k : Nat} (hk : k < l.length) (c : Int) : (l[k].off, c) ∉ places (l.take k) := by
  intro h
  obtain ⟨x, hx, h1, _⟩ := mem_places.1 h
  have e : l = l.take k ++ l[k] :: l.drop (k + 1) := by rw [← List.drop_eq_getElem_cons hk, List.take_append_drop]
  rw [e, List.map_append, List.nodup_append] at hn
  exact hn.2.2 x.off (List.mem_map.2 ⟨x, hx, rfl⟩) l[k].off (List.mem_map.2 ⟨l[k], List.mem_cons_self .., rfl⟩) h1
theorem apart_zero {l : List Blk} (hk : 0 < l.length) : apartL (l.take 1) = true := by
  cases l with
  | nil => simp at hk
  | cons x l => simp [apartL, apartGo]
theorem apart_take {l : List Blk} {k : Nat} (hk : k + 1 < l.length) : apartL (l.take (k + 2)) = (apartL (l.take (k + 1)) && !(!(l[k]'(by omega)).used && !l[k + 1].used)) := by
  rw [take_next' hk]
  unfold apartL
  rw [apartGo_append, take_next' (show k < l.length by omega), List.getLast?_append, List.getLast?_singleton, Option.some_or]
theorem apart_no {l : List Blk} {k : Nat} (h : apartL (l.take k) = false) : apartL l = false := by
  have gen : ∀ (pf : Bool) (l m : List Blk), apartGo pf l = false → apartGo pf (l ++ m) = false := by
    intro pf l
    induction l generalizing pf with
    | nil => intro m h; simp [apartGo] at h
    | cons x l ih =>
      intro m h
      unfold apartGo at h
      rw [List.cons_append]
      unfold apartGo
      rw [Bool.and_eq_false_iff] at h ⊢
      rcases h with h | h
      · exact .inl h
      · exact .inr (ih _ m h)
  have := gen false (l.take k) (l.drop k) h
  rwa [List.take_append_drop] at this
theorem tlp_few {b : List UInt8} {l : List Blk} : ∀ {o : Int}, tlp b o l → o + 32 * (l.length : Int) ≤ ends o l := by
  induction l with
  | nil => intro o _; show o + 32 * ((0 : Nat) : Int) ≤ o; omega
  | cons x l ih =>
    rintro o ⟨h1, h2⟩
    obtain ⟨_, _, _, _, h3, _⟩ := bget_some h1
    have hs := (isSize_iff _).1 h3
    have := ih h2
    show o + 32 * ((l.length + 1 : Nat) : Int) ≤ ends (o + x.size) l
    omega
theorem walk_few {b : List UInt8} {l : List Blk} (h : walk b = some l) : l.length ≤ b.length := by
  obtain ⟨h1, h2, h3⟩ := walk_iff.1 h
  have := tlp_few h2
  omega
end Cantle
