import Derived.Test.YtnldmhljggcnpaaPlain2
/-!
  Plain Lean: what the statement on images asks.
-/
namespace Cantle
set_option linter.unusedSimpArgs false
set_option linter.unusedVariables false
theorem getL_err {b : List UInt8} {c : Nat} (h : getL b = .err c) : c = 3 ∨ c = 9 := by
  have hk : ∀ {x y : Nat}, GetR.err x = GetR.err y → x = y := fun h => by injection h
  unfold getL at h
  split at h
  · have := hk h; omega
  split at h
  · have := hk h; omega
  unfold getL2 at h
  split at h
  · have := hk h; omega
  unfold getL2b at h
  split at h
  · have := hk h; omega
  split at h
  · have := hk h; omega
  unfold getL3 at h
  split at h
  · have := hk h; omega
  split at h
  · have := hk h; omega
  cases h
theorem getL_more {n : Int} {l : List Blk} {d : List (List UInt8)} (h : mayB n l d = true) : ∃ c, getL (putL n l d ++ [0]) = .err c := by
  cases hg : getL (putL n l d ++ [0]) with
  | err c => exact ⟨c, rfl⟩
  | ok n' l' d' =>
    obtain ⟨h1, h2, _⟩ := put_get hg
    have hn : ((n.toNat : Nat) : Int) = n := by have := (longB_iff _).1 (mayB_iff.1 h).1; omega
    have := put_prefix (n := n.toNat) (q := [0]) (by rw [hn]; exact h) h1 (by rw [hn]; exact h2.symm)
    cases this
theorem getL_less {n : Int} {l : List Blk} {d : List (List UInt8)} (h : mayB n l d = true) {k : Nat} (hk : k < (putL n l d).length) : ∃ c, getL ((putL n l d).take k) = .err c := by
  cases hg : getL ((putL n l d).take k) with
  | err c => exact ⟨c, rfl⟩
  | ok n' l' d' =>
    obtain ⟨h1, h2, _⟩ := put_get hg
    have hn : ((n.toNat : Nat) : Int) = n := by have := (longB_iff _).1 (mayB_iff.1 h).1; omega
    have := put_prefix (n' := n.toNat) (q := (putL n l d).drop k) h1 (by rw [hn]; exact h) (by rw [h2, hn]; exact List.take_append_drop _ _)
    have := congrArg List.length this
    rw [List.length_drop] at this
    simp at this; omega
theorem flat_len {d : List (List UInt8)} (h : ∀ y ∈ d, 16 ≤ y.length) : d.length ≤ d.flatten.length := by
  induction d with
  | nil => exact Nat.le_refl _
  | cons y d ih =>
    have := h y (List.mem_cons_self ..)
    have := ih (fun z hz => h z (List.mem_cons_of_mem _ hz))
    rw [List.flatten_cons, List.length_append, List.length_cons]; omega
/-- the same but for four bytes -/
def near (c c' : List UInt8) (k : Nat) : Prop := c'.length = c.length ∧ ∀ i, (i < k ∨ k + 4 ≤ i) → c'[i]? = c[i]?
theorem near_refl (c : List UInt8) (k : Nat) : near c c k := ⟨rfl, fun _ _ => rfl⟩
theorem near.set {c c' : List UInt8} {k : Nat} (h : near c c' k) {i : Nat} (h1 : k ≤ i) (h2 : i < k + 4) (x : UInt8) : near c (c'.set i x) k := by
  refine ⟨by rw [List.length_set]; exact h.1, fun j hj => ?_⟩
  rw [List.getElem?_set_ne (by omega)]
  exact h.2 j hj
theorem near.split {c c' : List UInt8} {k : Nat} (h : near c c' k) (hk : k + 4 ≤ c.length) : ∃ p w w' q, c = p ++ w ++ q ∧ c' = p ++ w' ++ q ∧ w.length = 4 ∧ w'.length = 4 := by
  have hl := h.1
  refine ⟨c.take k, (c.drop k).take 4, (c'.drop k).take 4, c.drop (k + 4), ?_, ?_, ?_, ?_⟩
  · rw [List.append_assoc, ← List.drop_drop, List.take_append_drop, List.take_append_drop]
  · have e1 : c.take k = c'.take k := by
      apply List.ext_getElem?
      intro i
      rw [List.getElem?_take, List.getElem?_take]
      split
      · rename_i hi; exact (h.2 i (.inl hi)).symm
      · rfl
    have e2 : c.drop (k + 4) = c'.drop (k + 4) := by
      apply List.ext_getElem?
      intro i
      rw [List.getElem?_drop, List.getElem?_drop]
      exact (h.2 _ (.inr (by omega))).symm
    rw [e1, e2, List.append_assoc, ← List.drop_drop, List.take_append_drop, List.take_append_drop]
  · rw [List.length_take, List.length_drop]; omega
  · rw [List.length_take, List.length_drop]; omega
theorem putL_run (n : Int) (l : List Blk) (d : List (List UInt8)) : crcRun 4294967295 (putL n l d) = crcBits 32 4294967295 := by
  unfold putL
  generalize sealed (headL n l.length) ++ sealed (tagsL l) ++ sealed d.flatten = X
  exact (crcRun_sealed (low_length _ _)).1 (le_low4 (crcSum_lt X))
theorem getL_turned {n : Int} {l : List Blk} {d : List (List UInt8)} {c' : List UInt8} {k : Nat} (hk : k + 4 ≤ (putL n l d).length) (h : near (putL n l d) c' k) {n' : Nat} {l' : List Blk} {d' : List (List UInt8)}
    (hg : getL c' = .ok n' l' d') : c' = putL n l d := by
  obtain ⟨_, h2, _⟩ := put_get hg
  have r1 := putL_run n l d
  have r2 := putL_run n' l' d'
  rw [h2] at r2
  obtain ⟨p, w, w', q, e1, e2, hw, hw'⟩ := h.split hk
  rw [e1] at r1 ⊢
  rw [e2] at r2 ⊢
  rw [crc_burst hw hw' (r1.trans r2.symm)]
end Cantle
