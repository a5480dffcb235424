import Derived.Test.YtnldmhljggcnpaaPlain1
/-!
  Plain Lean: an arena's bytes as numbers; blocks, lists, fits, as the document tells them.
-/
namespace Cantle
set_option linter.unusedSimpArgs false
set_option linter.unusedVariables false

/-! ### numbers at places -/
theorem window_eq {a b : List UInt8} {o n : Nat} (h : ∀ i, o ≤ i → i < o + n → a[i]? = b[i]?) : (a.drop o).take n = (b.drop o).take n := by
  apply List.ext_getElem?
  intro i
  rw [List.getElem?_take, List.getElem?_take]
  split
  · rw [List.getElem?_drop, List.getElem?_drop]; exact h _ (by omega) (by omega)
  · rfl
/-- the number at an offset; 0, if there is none -/
def num (b : List UInt8) (o : Nat) : Nat := (getN b o 8).getD 0
theorem num_none {b : List UInt8} {o : Nat} (h : b.length < o + 8) : num b o = 0 := by
  unfold num getN; rw [if_neg (by omega)]; rfl
theorem num_some {b : List UInt8} {o : Nat} (h : o + 8 ≤ b.length) : num b o = le ((b.drop o).take 8) := by
  unfold num getN; rw [if_pos h]; rfl
theorem getN_num {b : List UInt8} {o : Nat} (h : o + 8 ≤ b.length) : getN b o 8 = some (num b o) := by
  rw [num_some h]; unfold getN; rw [if_pos h]
theorem getN_none {b : List UInt8} {o n : Nat} (h : b.length < o + n) : getN b o n = none := by
  unfold getN; rw [if_neg (by omega)]
theorem num_lt (b : List UInt8) (o : Nat) : num b o < 18446744073709551616 := by
  by_cases h : o + 8 ≤ b.length
  · rw [num_some h]
    refine Nat.lt_of_lt_of_le (le_lt _) ?_
    rw [List.length_take, List.length_drop, Nat.min_eq_left (by omega)]; decide
  · rw [num_none (by omega)]; decide
/-- b with a number at an offset; b, where it isn't there -/
def lay (b : List UInt8) (o v : Nat) : List UInt8 := if o + 8 ≤ b.length then b.take o ++ low 8 v ++ b.drop (o + 8) else b
theorem lay_length (b : List UInt8) (o v : Nat) : (lay b o v).length = b.length := by
  unfold lay
  split
  · simp [low_length]; omega
  · rfl
theorem lay_none {b : List UInt8} {o v : Nat} (h : b.length < o + 8) : lay b o v = b := by
  unfold lay; rw [if_neg (by omega)]
theorem lay_some {b : List UInt8} {o v : Nat} (h : o + 8 ≤ b.length) : lay b o v = b.take o ++ low 8 v ++ b.drop (o + 8) := by
  unfold lay; rw [if_pos h]
theorem lay_get {b : List UInt8} {o v i : Nat} (h : i < o ∨ o + 8 ≤ i) : (lay b o v)[i]? = b[i]? := by
  unfold lay
  split
  · rename_i hb
    rcases h with h | h
    · rw [List.append_assoc, List.getElem?_append_left (by simp; omega), List.getElem?_take, if_pos h]
    · rw [List.getElem?_append_right (by simp [low_length]; omega), List.getElem?_drop]
      congr 1
      simp [low_length]; omega
  · rfl
theorem lay_in {b : List UInt8} {o v i : Nat} (hb : o + 8 ≤ b.length) (h1 : o ≤ i) (h2 : i < o + 8) : (lay b o v)[i]? = (low 8 v)[i - o]? := by
  have ht : (b.take o).length = o := by rw [List.length_take, Nat.min_eq_left (by omega)]
  rw [lay_some hb, List.getElem?_append_left (by rw [List.length_append, ht, low_length]; omega), List.getElem?_append_right (by rw [ht]; omega), ht]
theorem lay_drop_take {b : List UInt8} {o v : Nat} (hb : o + 8 ≤ b.length) : ((lay b o v).drop o).take 8 = low 8 v := by
  have ht : (b.take o).length = o := by rw [List.length_take, Nat.min_eq_left (by omega)]
  rw [lay_some hb, List.append_assoc, List.drop_append_of_le_length (by omega), List.drop_of_length_le (by omega), List.nil_append, List.take_append_of_le_length (by rw [low_length]; exact Nat.le_refl _), List.take_of_length_le (by rw [low_length]; exact Nat.le_refl _)]
theorem num_lay_self {b : List UInt8} {o v : Nat} (hb : o + 8 ≤ b.length) (hv : v < 18446744073709551616) : num (lay b o v) o = v := by
  rw [num_some (by rw [lay_length]; exact hb), lay_drop_take hb, le_low]
  exact Nat.mod_eq_of_lt (by simpa using hv)
theorem num_lay_ne {b : List UInt8} {o v o' : Nat} (h : o' + 8 ≤ o ∨ o + 8 ≤ o') : num (lay b o v) o' = num b o' := by
  by_cases hb : o' + 8 ≤ b.length
  · rw [num_some (by rw [lay_length]; exact hb), num_some hb]
    congr 1
    exact window_eq fun i h1 h2 => lay_get (by omega)
  · rw [num_none (by rw [lay_length]; omega), num_none (by omega)]
theorem num_congr {a b : List UInt8} {o : Nat} (hl : a.length = b.length) (h : ∀ i, o ≤ i → i < o + 8 → a[i]? = b[i]?) : num a o = num b o := by
  by_cases hb : o + 8 ≤ b.length
  · rw [num_some (by omega), num_some hb, window_eq h]
  · rw [num_none (by omega), num_none (by omega)]
theorem lay_num {b : List UInt8} {o : Nat} : lay b o (num b o) = b := by
  by_cases hb : o + 8 ≤ b.length
  · rw [lay_some hb, num_some hb]
    have : low 8 (le ((b.drop o).take 8)) = (b.drop o).take 8 := by
      have h := low_le ((b.drop o).take 8)
      rwa [List.length_take, List.length_drop, Nat.min_eq_left (by omega)] at h
    rw [this, List.append_assoc, ← List.drop_drop, List.take_append_drop, List.take_append_drop]
  · exact lay_none (by omega)
/-- what a number's place holds behind a lay: places are multiples of 8 -/
theorem num_lay {b : List UInt8} {o v o' : Nat} (h : o % 8 = 0) (h' : o' % 8 = 0) (hb : o + 8 ≤ b.length) (hv : v < 18446744073709551616) : num (lay b o v) o' = if o' = o then v else num b o' := by
  split
  · rename_i e; subst e; exact num_lay_self hb hv
  · exact num_lay_ne (by omega)

/-! ### bits -/
def setBit (w c : Nat) : Nat := w ||| 2 ^ c
def clearBit (w c : Nat) : Nat := if w.testBit c then w ^^^ 2 ^ c else w
theorem setBit_test (w c d : Nat) : (setBit w c).testBit d = (w.testBit d || decide (c = d)) := by
  unfold setBit; rw [Nat.testBit_or, Nat.testBit_two_pow]
theorem clearBit_test (w c d : Nat) : (clearBit w c).testBit d = (w.testBit d && !decide (c = d)) := by
  unfold clearBit
  split
  · rename_i h
    rw [Nat.testBit_xor, Nat.testBit_two_pow]
    by_cases e : c = d
    · subst e; simp [h]
    · simp [e]
  · rename_i h
    by_cases e : c = d
    · subst e; simpa using h
    · simp [e]
theorem setBit_lt {w c n : Nat} (h : w < 2 ^ n) (hc : c < n) : setBit w c < 2 ^ n := Nat.or_lt_two_pow h (Nat.pow_lt_pow_right (by decide) hc)
theorem clearBit_lt {w c n : Nat} (h : w < 2 ^ n) (hc : c < n) : clearBit w c < 2 ^ n := by
  unfold clearBit; split
  · exact Nat.xor_lt_two_pow h (Nat.pow_lt_pow_right (by decide) hc)
  · exact h

/-! ### classes -/
def cls (s : Int) : Int := if isSize s then (if s ≤ 256 then s / 16 - 2 else if s < 512 then 15 else if s < 1024 then 16 else if s < 2048 then 17 else if s < 4096 then 18 else if s < 8192 then 19 else if s < 16384 then 20 else 21) else -1
theorem cls_none {s : Int} (h : isSize s = false) : cls s = -1 := by unfold cls; rw [h]; rfl
theorem cls_range {s : Int} (h : isSize s = true) : 0 ≤ cls s ∧ cls s < 22 := by
  have h1 := (isSize_iff _).1 h
  unfold cls; rw [if_pos h]
  repeat' split
  all_goals omega
theorem cls_neg {s : Int} : cls s < 0 ↔ isSize s = false := by
  cases h : isSize s with
  | true => have := cls_range h; constructor <;> intro h <;> first | omega | cases h
  | false => rw [cls_none h]; simp
theorem cls_mono {s t : Int} (hs : isSize s = true) (ht : isSize t = true) (h : s ≤ t) : cls s ≤ cls t := by
  have h1 := (isSize_iff _).1 hs
  have h2 := (isSize_iff _).1 ht
  unfold cls; rw [if_pos hs, if_pos ht]
  by_cases a1 : t ≤ 256
  · rw [if_pos a1, if_pos (by omega)]; omega
  · rw [if_neg a1]
    repeat' split
    all_goals omega

/-! ### blocks -/
def could (n : Nat) (o size : Int) : Bool := 184 ≤ o && o % 16 == 8 && o ≤ n && size ≤ n - o
theorem could_iff {n : Nat} {o size : Int} : could n o size = true ↔ 184 ≤ o ∧ o % 16 = 8 ∧ o ≤ n ∧ size ≤ n - o := by simp [could, and_assoc]
/-- the block that stands at o -/
def bget (b : List UInt8) (o : Int) : Option Blk :=
  if could b.length o 32 then
    match unpack (num b o.toNat) with
    | none => none
    | some (s, u) => if could b.length o s = true ∧ num b (o.toNat + s - 8) = num b o.toNat then some ⟨o, s, u⟩ else none
  else none
theorem bget_some {b : List UInt8} {o : Int} {x : Blk} (h : bget b o = some x) :
    x.off = o ∧ 184 ≤ o ∧ o % 16 = 8 ∧ o + x.size ≤ b.length ∧ isSize x.size = true ∧ num b o.toNat = pack x.size x.used ∧ num b (o.toNat + x.size.toNat - 8) = pack x.size x.used := by
  unfold bget at h
  split at h
  · rename_i hc
    have hc := could_iff.1 hc
    split at h
    · cases h
    · rename_i s u hu
      split at h
      · rename_i h2
        obtain rfl := Option.some.inj h
        obtain ⟨h3, h4, h5⟩ := unpack_some hu
        have h6 := could_iff.1 h2.1
        refine ⟨rfl, hc.1, hc.2.1, by show o + (s : Int) ≤ _; omega, h3, h5.symm, ?_⟩
        rw [Int.toNat_natCast, h2.2]; exact h5.symm
      · cases h
  · cases h
theorem unpack_pack' {s : Int} {u : Bool} (h : isSize s = true) : unpack (pack s u) = some (s.toNat, u) := by
  have h1 := (isSize_iff _).1 h
  unfold pack; rw [if_pos h]
  exact unpack_pack (by rw [Int.toNat_of_nonneg (by omega)]; exact h)
theorem bget_of {b : List UInt8} {x : Blk} (h1 : 184 ≤ x.off) (h2 : x.off % 16 = 8) (h3 : x.off + x.size ≤ b.length) (h4 : isSize x.size = true) (h5 : num b x.off.toNat = pack x.size x.used) (h6 : num b (x.off.toNat + x.size.toNat - 8) = pack x.size x.used) : bget b x.off = some x := by
  have h7 := (isSize_iff _).1 h4
  have e : ((x.size.toNat : Nat) : Int) = x.size := by omega
  unfold bget
  rw [if_pos (could_iff.2 ⟨h1, h2, by omega, by omega⟩), h5, unpack_pack' h4]
  simp only
  rw [if_pos ⟨could_iff.2 ⟨h1, h2, by omega, by omega⟩, h6⟩, e]
/-- bytes of which a block's tags stand as they did -/
theorem bget_congr {b b' : List UInt8} {o : Int} {x : Blk} (h : bget b o = some x) (hl : b'.length = b.length) (h1 : num b' o.toNat = num b o.toNat) (h2 : num b' (o.toNat + x.size.toNat - 8) = num b (o.toNat + x.size.toNat - 8)) : bget b' o = some x := by
  obtain ⟨rfl, a2, a3, a4, a5, a6, a7⟩ := bget_some h
  exact bget_of a2 a3 (by rw [hl]; exact a4) a5 (by rw [h1, a6]) (by rw [h2, a7])
def bset (b : List UInt8) (x : Blk) : Option (List UInt8) :=
  if isSize x.size = true ∧ could b.length x.off x.size = true then some (lay (lay b x.off.toNat (pack x.size x.used)) (x.off + x.size - 8).toNat (pack x.size x.used)) else none
/-- the block that ends at o -/
def ahead (b : List UInt8) (o : Int) : Option Blk :=
  if o < 184 ∨ (b.length : Int) < o then none else
    match unpack (num b (o - 8).toNat) with
    | none => none
    | some (s, u) => match bget b (o - s) with
      | none => none
      | some x => if x.size = s ∧ x.used = u then some x else none
def walkGo (b : List UInt8) : Nat → Int → Option (List Blk)
  | 0, _ => some []
  | k + 1, o => if o < b.length then
      match bget b o with
      | none => none
      | some x => (walkGo b k (o + x.size)).map (x :: ·)
    else some []
/-- all blocks -/
def walk (b : List UInt8) : Option (List Blk) := if b.length < 184 then none else walkGo b b.length 184

/-! ### lists -/
def member (b : List UInt8) (at_ : Nat) (c : Int) : Bool := at_ ≤ 16384 && (match bget b at_ with
  | none => false
  | some x => !x.used && cls x.size == c)
/-- the class of the free block at o -/
def freeC (b : List UInt8) (o : Int) : Option Nat := match bget b o with
  | none => none
  | some x => if x.used then none else some (cls x.size).toNat
/-- where a class's first one is told -/
def hd (c : Nat) : Nat := 8 + 8 * c
def mark (b : List UInt8) (c : Nat) : List UInt8 := lay b 0 (if num b (hd c) = 0 then clearBit (num b 0) c else setBit (num b 0) c)
def lput (b : List UInt8) (o : Int) : Option (List UInt8) := match freeC b o with
  | none => none
  | some c => if (num b (hd c) : Int) = o ∨ (num b (hd c) ≠ 0 ∧ member b (num b (hd c)) c = false) then none else
    let b2 := lay (lay b (o.toNat + 8) (num b (hd c))) (o.toNat + 16) 0
    let b3 := if num b (hd c) = 0 then b2 else lay b2 (num b (hd c) + 16) o.toNat
    some (mark (lay b3 (hd c) o.toNat) c)
def ltake (b : List UInt8) (o : Int) : Option (List UInt8) := match freeC b o with
  | none => none
  | some c =>
    let p := num b (o.toNat + 16)
    let n := num b (o.toNat + 8)
    if p = 0 ∧ (num b (hd c) : Int) ≠ o then none else
    if p ≠ 0 ∧ (member b p c = false ∨ (num b (p + 8) : Int) ≠ o) then none else
    if n ≠ 0 ∧ (member b n c = false ∨ (num b (n + 16) : Int) ≠ o) then none else
    let b2 := if p = 0 then lay b (hd c) n else lay b (p + 8) n
    let b3 := if n = 0 then b2 else lay b2 (n + 16) p
    some (mark b3 c)
def chain (b : List UInt8) (c : Int) : Nat → Nat → Nat → Option (List Int)
  | 0, at_, _ => if at_ = 0 then some [] else none
  | f + 1, at_, last => if at_ = 0 then some [] else if member b at_ c = true ∧ num b (at_ + 16) = last then (chain b c f (num b (at_ + 8)) at_).map ((at_ : Int) :: ·) else none
/-- where all blocks of a class stand -/
def lall (b : List UInt8) (c : Nat) : Option (List Int) :=
  if b.length < 184 then none else if (num b 0).testBit c ≠ decide (num b (hd c) ≠ 0) then none else chain b c 1024 (num b (hd c)) 0

/-! ### fits -/
def bigAt (b : List UInt8) (size o : Int) : Bool := match bget b o with
  | none => false
  | some x => size ≤ x.size
def findGo (b : List UInt8) (size : Int) : Nat → Nat → Option Int
  | 0, _ => some 0
  | k + 1, c => match lall b c with
    | none => none
    | some l => match l.find? (bigAt b size) with
      | some o => some o
      | none => findGo b size k (c + 1)
def findB (b : List UInt8) (size : Int) : Option Int := findGo b size (22 - (cls size).toNat) (cls size).toNat
def wiped (b : List UInt8) : List UInt8 := List.replicate 184 0 ++ b.drop 184
/-- the free ones are put, one behind the other -/
def putAll : List Blk → List UInt8 → List UInt8
  | [], b => b
  | x :: r, b => if x.used then putAll r b else putAll r ((lput b x.off).getD b)
def rebuild (b : List UInt8) : Option (List UInt8) := (walk b).map fun l => putAll l (wiped b)
end Cantle
