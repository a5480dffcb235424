import Derived.Test.YtnldmhljggcnpaaPlain0
/-!
  Plain Lean: sizes, tags, classes, as the document tells them.
-/
namespace Cantle
set_option linter.unusedSimpArgs false
set_option linter.unusedVariables false

/-- the number of n bytes at a place -/
def getN (l : List UInt8) (at_ n : Nat) : Option Nat := if at_ + n ≤ l.length then some (le ((l.drop at_).take n)) else none
def isSize (n : Int) : Bool := 32 ≤ n && n ≤ 16384 && n % 16 == 0
def b2n (b : Bool) : Nat := if b then 1 else 0
def pack (size : Int) (used : Bool) : Nat := if isSize size then size.toNat + b2n used else 0
def unpack (w : Nat) : Option (Nat × Bool) := if isSize ((w / 2 * 2 : Nat) : Int) then some (w / 2 * 2, w % 2 == 1) else none
theorem isSize_iff (n : Int) : isSize n = true ↔ 32 ≤ n ∧ n ≤ 16384 ∧ n % 16 = 0 := by simp [isSize, and_assoc]
theorem unpack_some {w s : Nat} {u : Bool} (h : unpack w = some (s, u)) : isSize (s : Int) = true ∧ w = s + b2n u ∧ pack s u = w := by
  unfold unpack at h
  split at h
  · rename_i hs
    simp only [Option.some.injEq, Prod.mk.injEq] at h
    obtain ⟨rfl, rfl⟩ := h
    have hw : w = w / 2 * 2 + b2n (w % 2 == 1) := by
      unfold b2n
      by_cases h1 : w % 2 = 1
      · rw [if_pos (by simp [h1])]; omega
      · rw [if_neg (by simp [h1])]; omega
    refine ⟨hs, hw, ?_⟩
    unfold pack; rw [if_pos hs, Int.toNat_natCast]; exact hw.symm
  · cases h
theorem unpack_pack {s : Nat} {u : Bool} (h : isSize (s : Int) = true) : unpack (s + b2n u) = some (s, u) := by
  have h1 := (isSize_iff _).1 h
  have hs : (s + b2n u) / 2 * 2 = s := by unfold b2n; split <;> omega
  unfold unpack
  rw [hs, if_pos h]
  cases u with
  | true => simp [b2n]; omega
  | false => simp [b2n]; omega
theorem pack_lt {s : Int} {u : Bool} : pack s u < 16386 := by
  unfold pack
  split
  · rename_i h
    have h1 := (isSize_iff _).1 h
    unfold b2n; split <;> omega
  · omega
theorem unpack_none_of_ne {w s : Nat} {u : Bool} (hn : unpack w = none) : w = 0 ∨ pack s u ≠ w := by
  by_cases h0 : w = 0
  · exact .inl h0
  · refine .inr fun hp => ?_
    unfold pack at hp
    split at hp
    · rename_i hs
      rw [← hp] at hn
      have := unpack_pack (s := s) (u := u) hs
      rw [show ((s : Int).toNat) = s from by simp] at hn
      rw [this] at hn; cases hn
    · exact h0 hp.symm
/-- a block -/
structure Blk where
  off : Int
  size : Int
  used : Bool
  deriving DecidableEq
def longB (n : Int) : Bool := 184 ≤ n && n ≤ 16384 && n % 16 == 8
theorem longB_iff (n : Int) : longB n = true ↔ 184 ≤ n ∧ n ≤ 16384 ∧ n % 16 = 8 := by simp [longB, and_assoc]
/-- blocks one behind the other, from o on, up to n; pf: the one ahead is free -/
def tilesGo (n : Int) : Int → Bool → List Blk → Bool
  | o, _, [] => o == n
  | o, pf, x :: r => if x.off = o ∧ isSize x.size = true ∧ (pf && !x.used) = false ∧ o + x.size ≤ n then tilesGo n (o + x.size) (!x.used) r else false
def tilesB (n : Int) (l : List Blk) : Bool := tilesGo n 184 false l
theorem tilesGo_size {n : Int} : ∀ {l : List Blk} {o : Int} {pf : Bool}, tilesGo n o pf l = true → ∀ x ∈ l, isSize x.size = true := by
  intro l
  induction l with
  | nil => intro o pf _ x hx; cases hx
  | cons y l ih =>
    intro o pf h x hx
    unfold tilesGo at h
    split at h
    · rename_i hc
      rcases List.mem_cons.1 hx with rfl | hx
      · exact hc.2.1
      · exact ih h x hx
    · cases h
/-- are there just as many data as used blocks, each as long as its block? -/
def dataB : List Blk → List (List UInt8) → Bool
  | [], d => d.isEmpty
  | x :: r, d => if x.used then (match d with
    | [] => false
    | y :: d' => if (y.length : Int) = x.size - 16 then dataB r d' else false) else dataB r d
def mayB (n : Int) (l : List Blk) (d : List (List UInt8)) : Bool := longB n && tilesB n l && dataB l d
/-! ### an image's bytes -/
def sealed (l : List UInt8) : List UInt8 := l ++ low 4 (crcSum l)
def tagsL (l : List Blk) : List UInt8 := l.flatMap fun x => low 8 (pack x.size x.used)
def headL (n : Int) (many : Nat) : List UInt8 := [67, 78, 84, 76, 1, 0, 0, 0] ++ low 8 n.toNat ++ low 8 many
def putL (n : Int) (l : List Blk) (d : List (List UInt8)) : List UInt8 := sealed (sealed (headL n l.length) ++ sealed (tagsL l) ++ sealed d.flatten)
theorem sealed_length (l : List UInt8) : (sealed l).length = l.length + 4 := by simp [sealed, low_length]
theorem headL_length (n : Int) (many : Nat) : (headL n many).length = 24 := by simp [headL, low_length]
theorem tagsL_length (l : List Blk) : (tagsL l).length = 8 * l.length := by
  induction l with
  | nil => rfl
  | cons x l ih => simp only [tagsL, List.flatMap_cons, List.length_append, low_length, List.length_cons] at ih ⊢; omega
theorem tagsL_append (a b : List Blk) : tagsL (a ++ b) = tagsL a ++ tagsL b := by unfold tagsL; exact List.flatMap_append
theorem tagsL_one (x : Blk) : tagsL [x] = low 8 (pack x.size x.used) := by unfold tagsL; exact List.append_nil _
theorem dataB_pos : ∀ {l : List Blk} {d : List (List UInt8)}, (∀ x ∈ l, isSize x.size = true) → dataB l d = true → ∀ y ∈ d, 16 ≤ y.length := by
  intro l
  induction l with
  | nil => intro d _ h y hy; cases d with | nil => cases hy | cons => simp [dataB] at h
  | cons x l ih =>
    intro d hs h y hy
    unfold dataB at h
    split at h
    · cases d with
      | nil => cases hy
      | cons z d =>
        simp only at h
        split at h
        · rename_i hz
          have h1 := (isSize_iff _).1 (hs x (List.mem_cons_self ..))
          rcases List.mem_cons.1 hy with rfl | hy
          · omega
          · exact ih (fun x hx => hs x (List.mem_cons_of_mem _ hx)) h y hy
        · cases h
    · exact ih (fun x hx => hs x (List.mem_cons_of_mem _ hx)) h y hy
theorem mayB_iff {n : Int} {l : List Blk} {d : List (List UInt8)} : mayB n l d = true ↔ longB n = true ∧ tilesB n l = true ∧ dataB l d = true := by simp [mayB, and_assoc]
theorem mayB_pos {n : Int} {l : List Blk} {d : List (List UInt8)} (h : mayB n l d = true) : ∀ y ∈ d, 16 ≤ y.length :=
  dataB_pos (fun x hx => tilesGo_size (mayB_iff.1 h).2.1 x hx) (mayB_iff.1 h).2.2
/-! ### the image whose bytes any are -/
/-- so many blocks, by their tags, from o on -/
def blocksOf : Nat → List UInt8 → Int → Option (List Blk)
  | 0, _, _ => some []
  | n + 1, t, o => match unpack (le (t.take 8)) with
    | none => none
    | some (s, u) => (blocksOf n (t.drop 8) (o + s)).map (fun r => ⟨o, s, u⟩ :: r)
/-- how many bytes the used ones hold -/
def dataLen (l : List Blk) : Int := (l.map fun x => if x.used then x.size - 16 else 0).sum
/-- what they hold, cut out of bytes -/
def cutData : List Blk → List UInt8 → List (List UInt8)
  | [], _ => []
  | x :: r, b => if x.used then b.take (x.size - 16).toNat :: cutData r (b.drop (x.size - 16).toNat) else cutData r b
def beginL : List UInt8 := [67, 78, 84, 76, 1, 0, 0, 0]
inductive GetR where
  | err (c : Nat)
  | ok (n : Nat) (l : List Blk) (d : List (List UInt8))
def getL3 (b : List UInt8) (size : Nat) (l : List Blk) (rest : List UInt8) : GetR :=
  if tilesB size l = false ∨ (rest.length : Int) ≠ dataLen l + 8 then .err 3 else
  if getN rest (dataLen l).toNat 4 ≠ some (crcSum (rest.take (dataLen l).toNat)) ∨ getN b (b.length - 4) 4 ≠ some (crcSum (b.take (b.length - 4))) then .err 9 else
  .ok size l (cutData l rest)
def getL2b (b : List UInt8) (size many : Nat) : GetR :=
  if getN (b.drop 28) (8 * many) 4 ≠ some (crcSum ((b.drop 28).take (8 * many))) then .err 9 else
  match blocksOf many ((b.drop 28).take (8 * many)) 184 with
  | none => .err 3
  | some l => getL3 b size l (b.drop (28 + 8 * many + 4))
def getL2 (b : List UInt8) (size many : Nat) : GetR :=
  if 16384 < size ∨ longB size = false ∨ 1024 < many ∨ b.length < 28 + 8 * many + 4 then .err 3 else getL2b b size many
def getL (b : List UInt8) : GetR :=
  if b.length < 28 ∨ b.take 8 ≠ beginL then .err 3 else
  if getN b 24 4 ≠ some (crcSum (b.take 24)) then .err 9 else
  getL2 b (le ((b.drop 8).take 8)) (le ((b.drop 16).take 8))
theorem blocksOf_some {n : Nat} {t : List UInt8} {o : Int} {s : Nat} {u : Bool} (h : unpack (le (t.take 8)) = some (s, u)) : blocksOf (n + 1) t o = (blocksOf n (t.drop 8) (o + s)).map (fun r => ⟨o, s, u⟩ :: r) := by
  simp only [blocksOf, h]
theorem blocksOf_none {n : Nat} {t : List UInt8} {o : Int} (h : unpack (le (t.take 8)) = none) : blocksOf (n + 1) t o = none := by
  simp only [blocksOf, h]
theorem dataLen_append (a b : List Blk) : dataLen (a ++ b) = dataLen a + dataLen b := by simp [dataLen]
theorem dataLen_cons (x : Blk) (l : List Blk) : dataLen (x :: l) = (if x.used then x.size - 16 else 0) + dataLen l := by simp [dataLen]
theorem dataLen_nonneg {l : List Blk} (h : ∀ x ∈ l, isSize x.size = true) : 0 ≤ dataLen l := by
  induction l with
  | nil => simp [dataLen]
  | cons x l ih =>
    rw [dataLen_cons]
    have := ih (fun y hy => h y (List.mem_cons_of_mem _ hy))
    have := (isSize_iff _).1 (h x (List.mem_cons_self ..))
    split <;> omega
end Cantle
