import Derived.Test.YtnldmhljggcnpaaWord2
namespace Go.Proofs.Ytnldmhljggcnpaa
set_option linter.unusedSimpArgs false
set_option linter.unusedVariables false
open Go.RowKit Cantle

def blkC (x : Blk) : List Value := [.int .i64 x.off, .int .i64 x.size, .bool x.used]
def blkV (x : Blk) : Value := .agg #[.int .i64 x.off, .int .i64 x.size, .bool x.used]
/-- blocks as cells -/
def bks (l : List Blk) : List Value := l.flatMap blkC
theorem bks_length (l : List Blk) : (bks l).length = l.length * 3 := by
  induction l with
  | nil => rfl
  | cons x l ih => simp only [bks, List.flatMap_cons, List.length_append, List.length_cons] at ih ⊢; rw [ih]; simp [blkC]; omega
theorem bks_append (a b : List Blk) : bks (a ++ b) = bks a ++ bks b := by simp [bks]
theorem bks_one (l : List Blk) : ∀ u ∈ bks l, u.oneCell' = true := by
  intro u hu
  simp only [bks, List.mem_flatMap, blkC, List.mem_cons, List.not_mem_nil, or_false] at hu
  obtain ⟨x, _, rfl | rfl | rfl⟩ := hu <;> rfl
theorem bks_get (l : List Blk) : ∀ (k j : Nat) (h : k < l.length), j < 3 → (bks l)[k * 3 + j]? = (blkC l[k])[j]? := by
  induction l with
  | nil => intro k j h; simp at h
  | cons x l ih =>
    intro k j h hj
    cases k with
    | zero =>
      simp only [bks, List.flatMap_cons, Nat.zero_mul, Nat.zero_add, List.getElem_cons_zero]
      rw [List.getElem?_append_left (by simpa [blkC] using hj)]
    | succ k =>
      simp only [bks, List.flatMap_cons, List.getElem_cons_succ]
      rw [List.getElem?_append_right (by simp [blkC]; omega), show (k + 1) * 3 + j - (blkC x).length = k * 3 + j from by simp [blkC]; omega]
      exact ih k j (by simpa using h) hj
theorem Rd.blk {w : World} {b o : Nat} {l : List Blk} (hc : ∀ j u, (bks l)[j]? = some u → w.cell? ⟨b, o + j, none⟩ = some u) (k : Nat) (h : k < l.length) :
    w.cell? ⟨b, o + k * 3, none⟩ = some (.int .i64 l[k].off) ∧ w.cell? ⟨b, o + k * 3 + 1, none⟩ = some (.int .i64 l[k].size) ∧ w.cell? ⟨b, o + k * 3 + 2, none⟩ = some (.bool l[k].used) :=
  ⟨hc (k * 3) _ (by have := bks_get l k 0 h (by omega); simpa [blkC] using this),
   by rw [Nat.add_assoc]; exact hc (k * 3 + 1) _ (by rw [bks_get l k 1 h (by omega)]; rfl),
   by rw [Nat.add_assoc]; exact hc (k * 3 + 2) _ (by rw [bks_get l k 2 h (by omega)]; rfl)⟩

end Go.Proofs.Ytnldmhljggcnpaa
