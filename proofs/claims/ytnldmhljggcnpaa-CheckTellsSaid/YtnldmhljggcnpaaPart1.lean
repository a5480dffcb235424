import Derived.Test.YtnldmhljggcnpaaRows
import Derived.WalkKit
import Derived.WalkSpells
import Derived.WalkLawsBesides
import Derived.Deep.QuietTactic
import Derived.BigQuiet
import Derived.Below
import Derived.Deep.AppendLies
import Derived.Deep.AppendSrc
import Derived.Laws.CopyOwn
import Derived.Maps.AppendAt
import Derived.LaidEql
import Derived.Lib.AppendZeros
import Derived.Laws.OwnMore
import Derived.Test.YtnldmhljggcnpaaShelf
import Derived.Lib.SliceRun
import Derived.Lib.AppendZerosOnto
import Derived.Deep.RegionHeld3
import Derived.IntWalk
import Derived.Laws.BitsLemmas
import Derived.Lib.IfaceEq
import Derived.Lib.IfaceNeq
import Derived.Laws.StructEq
/- Contracts and plain laws, joined out of this seat's own texts: Plain0, Plain1, PlainA, PlainB, PlainC, PlainD, Base, Word, Word2, Bytes, Arena, Arena2, Arena3, Arena4, Tag, Bks, Blk, Block, Block2, Block3, List1, List2, List3, List4, List5, List6, Code. -/
/-
  Plain Lean: CRC-32 over lists of bytes; numbers as bytes.
-/
namespace Cantle
set_option linter.unusedSimpArgs false
set_option linter.unusedVariables false
def crcBit (v : Nat) : Nat := (v / 2) ^^^ (if v % 2 = 1 then 3988292384 else 0)
def crcBits : Nat → Nat → Nat
  | 0, v => v
  | n + 1, v => crcBits n (crcBit v)
def crcByte (v : Nat) (x : Nat) : Nat := crcBits 8 (v ^^^ x)
def crcRun (v : Nat) (l : List UInt8) : Nat := l.foldl (fun v x => crcByte v x.toNat) v
theorem crcBit_lt {v : Nat} (h : v < 2 ^ 32) : crcBit v < 2 ^ 32 := by
  unfold crcBit
  apply Nat.xor_lt_two_pow
  · omega
  · split <;> decide
theorem crcBits_lt (n : Nat) : ∀ {v : Nat}, v < 2 ^ 32 → crcBits n v < 2 ^ 32 := by
  induction n with
  | zero => intro v h; exact h
  | succ n ih => intro v h; exact ih (crcBit_lt h)
theorem crcByte_lt {v x : Nat} (h : v < 2 ^ 32) (hx : x < 256) : crcByte v x < 2 ^ 32 :=
  crcBits_lt 8 (Nat.xor_lt_two_pow h (by omega))
theorem crcRun_lt (l : List UInt8) : ∀ {v : Nat}, v < 2 ^ 32 → crcRun v l < 2 ^ 32 := by
  induction l with
  | nil => intro v h; exact h
  | cons x l ih => intro v h; exact ih (crcByte_lt h x.toNat_lt)
theorem crcRun_append (v : Nat) (a b : List UInt8) : crcRun v (a ++ b) = crcRun (crcRun v a) b := by
  simp [crcRun, List.foldl_append]
theorem xor_div_two (a b : Nat) : (a ^^^ b) / 2 = (a / 2) ^^^ (b / 2) := by
  have := Nat.shiftRight_xor_distrib (a := a) (b := b) (i := 1)
  simpa [Nat.shiftRight_eq_div_pow] using this
theorem xor_mod_two (a b : Nat) : (a ^^^ b) % 2 = (a % 2) ^^^ (b % 2) := by
  have := Nat.xor_mod_two_pow (a := a) (b := b) (n := 1)
  simpa using this
theorem crcBit_xor (a b : Nat) : crcBit (a ^^^ b) = crcBit a ^^^ crcBit b := by
  unfold crcBit
  rw [xor_div_two, xor_mod_two]
  have ha : a % 2 = 0 ∨ a % 2 = 1 := by omega
  have hb : b % 2 = 0 ∨ b % 2 = 1 := by omega
  rcases ha with ha | ha <;> rcases hb with hb | hb <;> simp [ha, hb]
  · rw [Nat.xor_assoc]
  · ac_rfl
  · rw [show (a / 2 ^^^ 3988292384) ^^^ (b / 2 ^^^ 3988292384) = (a / 2 ^^^ b/2) ^^^ (3988292384 ^^^ 3988292384) from by ac_rfl]
    simp
theorem crcBits_xor (n : Nat) : ∀ a b : Nat, crcBits n (a ^^^ b) = crcBits n a ^^^ crcBits n b := by
  induction n with
  | zero => intro a b; rfl
  | succ n ih => intro a b; simp only [crcBits]; rw [crcBit_xor, ih]
theorem crcBits_add (m n : Nat) : ∀ v, crcBits (m + n) v = crcBits n (crcBits m v) := by
  induction m with
  | zero => intro v; simp [crcBits]
  | succ m ih => intro v; rw [show m + 1 + n = (m + n) + 1 from by omega]; simp only [crcBits]; exact ih _
theorem crcBit_top {v : Nat} (h : v < 2 ^ 32) : (crcBit v).testBit 31 = decide (v % 2 = 1) := by
  unfold crcBit
  rw [Nat.testBit_xor]
  have h1 : (v / 2).testBit 31 = false := Nat.testBit_lt_two_pow (by omega)
  rw [h1]
  split
  · rename_i hv; simp [hv]; decide
  · rename_i hv; simp [hv]
theorem crcBit_inj {a b : Nat} (ha : a < 2 ^ 32) (hb : b < 2 ^ 32) (h : crcBit a = crcBit b) : a = b := by
  have ht : decide (a % 2 = 1) = decide (b % 2 = 1) := by rw [← crcBit_top ha, ← crcBit_top hb, h]
  have hm : a % 2 = b % 2 := by
    by_cases h1 : a % 2 = 1 <;> by_cases h2 : b % 2 = 1 <;> simp [h1, h2] at ht <;> omega
  have hd : a / 2 = b / 2 := by
    unfold crcBit at h
    rw [hm] at h
    have h2 := congrArg (· ^^^ (if b % 2 = 1 then 3988292384 else 0)) h
    simpa [Nat.xor_assoc] using h2
  omega
theorem crcBits_inj (n : Nat) : ∀ {a b : Nat}, a < 2 ^ 32 → b < 2 ^ 32 → crcBits n a = crcBits n b → a = b := by
  induction n with
  | zero => intro a b _ _ h; exact h
  | succ n ih => intro a b ha hb h; exact crcBit_inj ha hb (ih (crcBit_lt ha) (crcBit_lt hb) h)
def le : List UInt8 → Nat
  | [] => 0
  | x :: l => x.toNat + 256 * le l
theorem le_lt (l : List UInt8) : le l < 256 ^ l.length := by
  induction l with
  | nil => simp [le]
  | cons x l ih => have := x.toNat_lt; simp only [le, List.length_cons, Nat.pow_succ]; omega
theorem le_append (a b : List UInt8) : le (a ++ b) = le a + 256 ^ a.length * le b := by
  induction a with
  | nil => simp [le]
  | cons x a ih => simp only [List.cons_append, le, ih, List.length_cons, Nat.pow_succ, Nat.mul_add, Nat.mul_comm, Nat.mul_left_comm]; omega
theorem le_inj : ∀ {a b : List UInt8}, a.length = b.length → le a = le b → a = b := by
  intro a
  induction a with
  | nil => intro b h _; cases b with
    | nil => rfl
    | cons => simp at h
  | cons x a ih => intro b h hl; cases b with
    | nil => simp at h
    | cons y b =>
      simp only [le] at hl
      have := x.toNat_lt; have := y.toNat_lt
      have hxy : x = y := UInt8.toNat_inj.1 (by omega)
      rw [hxy, ih (by simpa using h) (by omega)]
theorem crcBits_small (n : Nat) : ∀ x : Nat, crcBits n (x * 2 ^ n) = x := by
  induction n with
  | zero => intro x; simp [crcBits]
  | succ n ih =>
    intro x
    have e : crcBit (x * 2 ^ (n + 1)) = x * 2 ^ n := by
      have h2 : x * 2 ^ (n + 1) = 2 * (x * 2 ^ n) := by rw [Nat.pow_succ]; ac_rfl
      unfold crcBit
      rw [h2]
      simp
    simp only [crcBits]; rw [e, ih]
theorem xor_add_of_lt {a k x : Nat} (h : a < 2 ^ k) : a ^^^ (x * 2 ^ k) = a + 2 ^ k * x := by
  have := Nat.two_pow_add_eq_or_of_lt h x
  rw [Nat.add_comm, this, Nat.mul_comm x]
  apply Nat.eq_of_testBit_eq
  intro i
  rw [Nat.testBit_xor, Nat.testBit_or]
  by_cases hi : i < k
  · rw [Nat.testBit_two_pow_mul]; simp [Nat.not_le.2 hi]
  · rw [Nat.testBit_lt_two_pow (Nat.lt_of_lt_of_le h (Nat.pow_le_pow_right (by omega) (by omega)))]; simp
theorem crcRun_le (l : List UInt8) : ∀ v : Nat, crcRun v l = crcBits (8 * l.length) (v ^^^ le l) := by
  induction l with
  | nil => intro v; simp [crcRun, crcBits, le]
  | cons x l ih =>
    intro v
    show crcRun (crcByte v x.toNat) l = _
    rw [ih]
    have e : le (x :: l) = x.toNat ^^^ (le l * 2 ^ 8) := by rw [xor_add_of_lt (by have := x.toNat_lt; omega)]; rfl
    rw [e, List.length_cons, Nat.mul_add, Nat.add_comm (8 * l.length), crcBits_add]
    congr 1
    rw [show v ^^^ (x.toNat ^^^ le l * 2 ^ 8) = (v ^^^ x.toNat) ^^^ (le l * 2 ^ 8) from by ac_rfl, crcBits_xor, crcBits_small]
    rfl
theorem crcRun_inj (l : List UInt8) : ∀ {a b : Nat}, a < 2 ^ 32 → b < 2 ^ 32 → crcRun a l = crcRun b l → a = b := by
  intro a b ha hb h
  induction l generalizing a b with
  | nil => exact h
  | cons x l ih =>
    have hx := x.toNat_lt
    have := ih (crcByte_lt ha hx) (crcByte_lt hb hx) h
    have h2 := crcBits_inj 8 (Nat.xor_lt_two_pow ha (by omega : x.toNat < 2^32)) (Nat.xor_lt_two_pow hb (by omega)) this
    have h3 := congrArg (· ^^^ x.toNat) h2
    simpa [Nat.xor_assoc] using h3
def crcSum (l : List UInt8) : Nat := crcRun 4294967295 l ^^^ 4294967295
theorem crcSum_lt (l : List UInt8) : crcSum l < 2 ^ 32 := Nat.xor_lt_two_pow (crcRun_lt l (by decide)) (by decide)
theorem crcRun_sealed {a s : List UInt8} (hs : s.length = 4) : le s = crcSum a ↔ crcRun 4294967295 (a ++ s) = crcBits 32 4294967295 := by
  rw [crcRun_append, crcRun_le s, hs]
  have hr := crcRun_lt a (v := 4294967295) (by decide)
  have hl := le_lt s
  rw [hs] at hl
  constructor
  · intro h; rw [h]; unfold crcSum; rw [← Nat.xor_assoc]; simp
  · intro h
    have := crcBits_inj 32 (Nat.xor_lt_two_pow hr (by simpa using hl)) (by decide) h
    unfold crcSum
    have h3 := congrArg (crcRun 4294967295 a ^^^ ·) this
    simpa [← Nat.xor_assoc] using h3
theorem crc_burst {p w w' q : List UInt8} (hw : w.length = 4) (hw' : w'.length = 4)
    (h : crcRun 4294967295 (p ++ w ++ q) = crcRun 4294967295 (p ++ w' ++ q)) : w = w' := by
  rw [crcRun_append, crcRun_append, crcRun_append, crcRun_append] at h
  have hr := crcRun_lt p (v := 4294967295) (by decide)
  have h1 := crcRun_inj q (crcRun_lt w hr) (crcRun_lt w' hr) h
  rw [crcRun_le w, crcRun_le w', hw, hw'] at h1
  have hl := le_lt w; have hl' := le_lt w'
  rw [hw] at hl; rw [hw'] at hl'
  have h2 := crcBits_inj 32 (Nat.xor_lt_two_pow hr (by simpa using hl)) (Nat.xor_lt_two_pow hr (by simpa using hl')) h1
  have h3 := congrArg (crcRun 4294967295 p ^^^ ·) h2
  exact le_inj (hw.trans hw'.symm) (by simpa [← Nat.xor_assoc] using h3)
def low : Nat → Nat → List UInt8
  | 0, _ => []
  | n + 1, v => UInt8.ofNat (v % 256) :: low n (v / 256)
theorem low_length (n : Nat) : ∀ v, (low n v).length = n := by
  induction n with
  | zero => intro v; rfl
  | succ n ih => intro v; simp [low, ih]
theorem ofNat_mod_toNat (v : Nat) : (UInt8.ofNat (v % 256)).toNat = v % 256 := by simp
theorem le_low (n : Nat) : ∀ v, le (low n v) = v % 256 ^ n := by
  induction n with
  | zero => intro v; simp [low, le, Nat.mod_one]
  | succ n ih =>
    intro v
    simp only [low, le, ih, ofNat_mod_toNat]
    rw [Nat.pow_succ, Nat.mul_comm (256 ^ n), Nat.mod_mul]
theorem low_le (l : List UInt8) : low l.length (le l) = l := by
  apply le_inj (low_length _ _)
  rw [le_low, Nat.mod_eq_of_lt (le_lt l)]
theorem low_get (n : Nat) : ∀ v i (h : i < (low n v).length), (low n v)[i] = UInt8.ofNat (v / 256 ^ i % 256) := by
  induction n with
  | zero => intro v i h; simp [low] at h
  | succ n ih =>
    intro v i h
    cases i with
    | zero => simp [low]
    | succ i =>
      simp only [low, List.getElem_cons_succ]
      rw [ih, Nat.div_div_eq_div_mul, Nat.pow_succ, Nat.mul_comm 256]
theorem le_take_succ (l : List UInt8) (k : Nat) (h : k < l.length) : le (l.take (k + 1)) = le (l.take k) + 256 ^ k * (l[k]).toNat := by
  rw [List.take_succ_eq_append_getElem h, le_append]
  simp [le, List.length_take, Nat.min_eq_left (Nat.le_of_lt h)]
theorem low_take (m n v : Nat) (h : m ≤ n) : (low n v).take m = low m v := by
  apply List.ext_getElem
  · simp [low_length, h]
  · intro i h1 h2
    rw [List.getElem_take, low_get, low_get]
end Cantle
/-!
  Plain Lean: sizes, tags, classes, as the document tells them.
-/
namespace Cantle
set_option linter.unusedSimpArgs false
set_option linter.unusedVariables false
def getN (l : List UInt8) (at_ n : Nat) : Option Nat := if at_ + n ≤ l.length then some (le ((l.drop at_).take n)) else none
def isSize (n : Int) : Bool := 32 ≤ n && n ≤ 16384 && n % 16 == 0
def b2n (b : Bool) : Nat := if b then 1 else 0
def pack (size : Int) (used : Bool) : Nat := if isSize size then size.toNat + b2n used else 0
def unpack (w : Nat) : Option (Nat × Bool) := if isSize ((w / 2 * 2 : Nat) : Int) then some (w / 2 * 2, w % 2 == 1) else none
theorem isSize_iff (n : Int) : isSize n = true ↔ 32 ≤ n ∧ n ≤ 16384 ∧ n % 16 = 0 := by simp [isSize, and_assoc]
theorem unpack_some {w s : Nat} {u : Bool} (h : unpack w = some (s, u)) : isSize (s : Int) = true ∧ w = s + b2n u ∧ pack s u = w := by
  unfold unpack at h
  split at h
  · rename_i hs
    simp only [Option.some.injEq, Prod.mk.injEq] at h
    obtain ⟨rfl, rfl⟩ := h
    have hw : w = w / 2 * 2 + b2n (w % 2 == 1) := by
      unfold b2n
      by_cases h1 : w % 2 = 1
      · rw [if_pos (by simp [h1])]; omega
      · rw [if_neg (by simp [h1])]; omega
    refine ⟨hs, hw, ?_⟩
    unfold pack; rw [if_pos hs, Int.toNat_natCast]; exact hw.symm
  · cases h
theorem unpack_pack {s : Nat} {u : Bool} (h : isSize (s : Int) = true) : unpack (s + b2n u) = some (s, u) := by
  have h1 := (isSize_iff _).1 h
  have hs : (s + b2n u) / 2 * 2 = s := by unfold b2n; split <;> omega
  unfold unpack
  rw [hs, if_pos h]
  cases u with
  | true => simp [b2n]; omega
  | false => simp [b2n]; omega
theorem pack_lt {s : Int} {u : Bool} : pack s u < 16386 := by
  unfold pack
  split
  · rename_i h
    have h1 := (isSize_iff _).1 h
    unfold b2n; split <;> omega
  · omega
theorem unpack_none_of_ne {w s : Nat} {u : Bool} (hn : unpack w = none) : w = 0 ∨ pack s u ≠ w := by
  by_cases h0 : w = 0
  · exact .inl h0
  · refine .inr fun hp => ?_
    unfold pack at hp
    split at hp
    · rename_i hs
      rw [← hp] at hn
      have := unpack_pack (s := s) (u := u) hs
      rw [show ((s : Int).toNat) = s from by simp] at hn
      rw [this] at hn; cases hn
    · exact h0 hp.symm
structure Blk where
  off : Int
  size : Int
  used : Bool
  deriving DecidableEq
def longB (n : Int) : Bool := 184 ≤ n && n ≤ 16384 && n % 16 == 8
theorem longB_iff (n : Int) : longB n = true ↔ 184 ≤ n ∧ n ≤ 16384 ∧ n % 16 = 8 := by simp [longB, and_assoc]
def tilesGo (n : Int) : Int → Bool → List Blk → Bool
  | o, _, [] => o == n
  | o, pf, x :: r => if x.off = o ∧ isSize x.size = true ∧ (pf && !x.used) = false ∧ o + x.size ≤ n then tilesGo n (o + x.size) (!x.used) r else false
def tilesB (n : Int) (l : List Blk) : Bool := tilesGo n 184 false l
theorem tilesGo_size {n : Int} : ∀ {l : List Blk} {o : Int} {pf : Bool}, tilesGo n o pf l = true → ∀ x ∈ l, isSize x.size = true := by
  intro l
  induction l with
  | nil => intro o pf _ x hx; cases hx
  | cons y l ih =>
    intro o pf h x hx
    unfold tilesGo at h
    split at h
    · rename_i hc
      rcases List.mem_cons.1 hx with rfl | hx
      · exact hc.2.1
      · exact ih h x hx
    · cases h
def dataB : List Blk → List (List UInt8) → Bool
  | [], d => d.isEmpty
  | x :: r, d => if x.used then (match d with
    | [] => false
    | y :: d' => if (y.length : Int) = x.size - 16 then dataB r d' else false) else dataB r d
def mayB (n : Int) (l : List Blk) (d : List (List UInt8)) : Bool := longB n && tilesB n l && dataB l d
def sealed (l : List UInt8) : List UInt8 := l ++ low 4 (crcSum l)
def tagsL (l : List Blk) : List UInt8 := l.flatMap fun x => low 8 (pack x.size x.used)
def headL (n : Int) (many : Nat) : List UInt8 := [67, 78, 84, 76, 1, 0, 0, 0] ++ low 8 n.toNat ++ low 8 many
def putL (n : Int) (l : List Blk) (d : List (List UInt8)) : List UInt8 := sealed (sealed (headL n l.length) ++ sealed (tagsL l) ++ sealed d.flatten)
theorem sealed_length (l : List UInt8) : (sealed l).length = l.length + 4 := by simp [sealed, low_length]
theorem headL_length (n : Int) (many : Nat) : (headL n many).length = 24 := by simp [headL, low_length]
theorem tagsL_length (l : List Blk) : (tagsL l).length = 8 * l.length := by
  induction l with
  | nil => rfl
  | cons x l ih => simp only [tagsL, List.flatMap_cons, List.length_append, low_length, List.length_cons] at ih ⊢; omega
theorem tagsL_append (a b : List Blk) : tagsL (a ++ b) = tagsL a ++ tagsL b := by unfold tagsL; exact List.flatMap_append
theorem tagsL_one (x : Blk) : tagsL [x] = low 8 (pack x.size x.used) := by unfold tagsL; exact List.append_nil _
theorem dataB_pos : ∀ {l : List Blk} {d : List (List UInt8)}, (∀ x ∈ l, isSize x.size = true) → dataB l d = true → ∀ y ∈ d, 16 ≤ y.length := by
  intro l
  induction l with
  | nil => intro d _ h y hy; cases d with | nil => cases hy | cons => simp [dataB] at h
  | cons x l ih =>
    intro d hs h y hy
    unfold dataB at h
    split at h
    · cases d with
      | nil => cases hy
      | cons z d =>
        simp only at h
        split at h
        · rename_i hz
          have h1 := (isSize_iff _).1 (hs x (List.mem_cons_self ..))
          rcases List.mem_cons.1 hy with rfl | hy
          · omega
          · exact ih (fun x hx => hs x (List.mem_cons_of_mem _ hx)) h y hy
        · cases h
    · exact ih (fun x hx => hs x (List.mem_cons_of_mem _ hx)) h y hy
theorem mayB_iff {n : Int} {l : List Blk} {d : List (List UInt8)} : mayB n l d = true ↔ longB n = true ∧ tilesB n l = true ∧ dataB l d = true := by simp [mayB, and_assoc]
theorem mayB_pos {n : Int} {l : List Blk} {d : List (List UInt8)} (h : mayB n l d = true) : ∀ y ∈ d, 16 ≤ y.length :=
  dataB_pos (fun x hx => tilesGo_size (mayB_iff.1 h).2.1 x hx) (mayB_iff.1 h).2.2
def blocksOf : Nat → List UInt8 → Int → Option (List Blk)
  | 0, _, _ => some []
  | n + 1, t, o => match unpack (le (t.take 8)) with
    | none => none
    | some (s, u) => (blocksOf n (t.drop 8) (o + s)).map (fun r => ⟨o, s, u⟩ :: r)
def dataLen (l : List Blk) : Int := (l.map fun x => if x.used then x.size - 16 else 0).sum
def cutData : List Blk → List UInt8 → List (List UInt8)
  | [], _ => []
  | x :: r, b => if x.used then b.take (x.size - 16).toNat :: cutData r (b.drop (x.size - 16).toNat) else cutData r b
def beginL : List UInt8 := [67, 78, 84, 76, 1, 0, 0, 0]
inductive GetR where
  | err (c : Nat)
  | ok (n : Nat) (l : List Blk) (d : List (List UInt8))
def getL3 (b : List UInt8) (size : Nat) (l : List Blk) (rest : List UInt8) : GetR :=
  if tilesB size l = false ∨ (rest.length : Int) ≠ dataLen l + 8 then .err 3 else
  if getN rest (dataLen l).toNat 4 ≠ some (crcSum (rest.take (dataLen l).toNat)) ∨ getN b (b.length - 4) 4 ≠ some (crcSum (b.take (b.length - 4))) then .err 9 else
  .ok size l (cutData l rest)
def getL2b (b : List UInt8) (size many : Nat) : GetR :=
  if getN (b.drop 28) (8 * many) 4 ≠ some (crcSum ((b.drop 28).take (8 * many))) then .err 9 else
  match blocksOf many ((b.drop 28).take (8 * many)) 184 with
  | none => .err 3
  | some l => getL3 b size l (b.drop (28 + 8 * many + 4))
def getL2 (b : List UInt8) (size many : Nat) : GetR :=
  if 16384 < size ∨ longB size = false ∨ 1024 < many ∨ b.length < 28 + 8 * many + 4 then .err 3 else getL2b b size many
def getL (b : List UInt8) : GetR :=
  if b.length < 28 ∨ b.take 8 ≠ beginL then .err 3 else
  if getN b 24 4 ≠ some (crcSum (b.take 24)) then .err 9 else
  getL2 b (le ((b.drop 8).take 8)) (le ((b.drop 16).take 8))
theorem blocksOf_some {n : Nat} {t : List UInt8} {o : Int} {s : Nat} {u : Bool} (h : unpack (le (t.take 8)) = some (s, u)) : blocksOf (n + 1) t o = (blocksOf n (t.drop 8) (o + s)).map (fun r => ⟨o, s, u⟩ :: r) := by
  simp only [blocksOf, h]
theorem blocksOf_none {n : Nat} {t : List UInt8} {o : Int} (h : unpack (le (t.take 8)) = none) : blocksOf (n + 1) t o = none := by
  simp only [blocksOf, h]
theorem dataLen_append (a b : List Blk) : dataLen (a ++ b) = dataLen a + dataLen b := by simp [dataLen]
theorem dataLen_cons (x : Blk) (l : List Blk) : dataLen (x :: l) = (if x.used then x.size - 16 else 0) + dataLen l := by simp [dataLen]
theorem dataLen_nonneg {l : List Blk} (h : ∀ x ∈ l, isSize x.size = true) : 0 ≤ dataLen l := by
  induction l with
  | nil => simp [dataLen]
  | cons x l ih =>
    rw [dataLen_cons]
    have := ih (fun y hy => h y (List.mem_cons_of_mem _ hy))
    have := (isSize_iff _).1 (h x (List.mem_cons_self ..))
    split <;> omega
end Cantle
/-!
  Plain Lean: an arena's bytes as numbers; blocks, lists, fits, as the document tells them.
-/
namespace Cantle
set_option linter.unusedSimpArgs false
set_option linter.unusedVariables false
theorem window_eq {a b : List UInt8} {o n : Nat} (h : ∀ i, o ≤ i → i < o + n → a[i]? = b[i]?) : (a.drop o).take n = (b.drop o).take n := by
  apply List.ext_getElem?
  intro i
  rw [List.getElem?_take, List.getElem?_take]
  split
  · rw [List.getElem?_drop, List.getElem?_drop]; exact h _ (by omega) (by omega)
  · rfl
def num (b : List UInt8) (o : Nat) : Nat := (getN b o 8).getD 0
theorem num_none {b : List UInt8} {o : Nat} (h : b.length < o + 8) : num b o = 0 := by
  unfold num getN; rw [if_neg (by omega)]; rfl
theorem num_some {b : List UInt8} {o : Nat} (h : o + 8 ≤ b.length) : num b o = le ((b.drop o).take 8) := by
  unfold num getN; rw [if_pos h]; rfl
theorem getN_num {b : List UInt8} {o : Nat} (h : o + 8 ≤ b.length) : getN b o 8 = some (num b o) := by
  rw [num_some h]; unfold getN; rw [if_pos h]
theorem getN_none {b : List UInt8} {o n : Nat} (h : b.length < o + n) : getN b o n = none := by
  unfold getN; rw [if_neg (by omega)]
theorem num_lt (b : List UInt8) (o : Nat) : num b o < 18446744073709551616 := by
  by_cases h : o + 8 ≤ b.length
  · rw [num_some h]
    refine Nat.lt_of_lt_of_le (le_lt _) ?_
    rw [List.length_take, List.length_drop, Nat.min_eq_left (by omega)]; decide
  · rw [num_none (by omega)]; decide
def lay (b : List UInt8) (o v : Nat) : List UInt8 := if o + 8 ≤ b.length then b.take o ++ low 8 v ++ b.drop (o + 8) else b
theorem lay_length (b : List UInt8) (o v : Nat) : (lay b o v).length = b.length := by
  unfold lay
  split
  · simp [low_length]; omega
  · rfl
theorem lay_none {b : List UInt8} {o v : Nat} (h : b.length < o + 8) : lay b o v = b := by
  unfold lay; rw [if_neg (by omega)]
theorem lay_some {b : List UInt8} {o v : Nat} (h : o + 8 ≤ b.length) : lay b o v = b.take o ++ low 8 v ++ b.drop (o + 8) := by
  unfold lay; rw [if_pos h]
theorem lay_get {b : List UInt8} {o v i : Nat} (h : i < o ∨ o + 8 ≤ i) : (lay b o v)[i]? = b[i]? := by
  unfold lay
  split
  · rename_i hb
    rcases h with h | h
    · rw [List.append_assoc, List.getElem?_append_left (by simp; omega), List.getElem?_take, if_pos h]
    · rw [List.getElem?_append_right (by simp [low_length]; omega), List.getElem?_drop]
      congr 1
      simp [low_length]; omega
  · rfl
theorem lay_in {b : List UInt8} {o v i : Nat} (hb : o + 8 ≤ b.length) (h1 : o ≤ i) (h2 : i < o + 8) : (lay b o v)[i]? = (low 8 v)[i - o]? := by
  have ht : (b.take o).length = o := by rw [List.length_take, Nat.min_eq_left (by omega)]
  rw [lay_some hb, List.getElem?_append_left (by rw [List.length_append, ht, low_length]; omega), List.getElem?_append_right (by rw [ht]; omega), ht]
theorem lay_drop_take {b : List UInt8} {o v : Nat} (hb : o + 8 ≤ b.length) : ((lay b o v).drop o).take 8 = low 8 v := by
  have ht : (b.take o).length = o := by rw [List.length_take, Nat.min_eq_left (by omega)]
  rw [lay_some hb, List.append_assoc, List.drop_append_of_le_length (by omega), List.drop_of_length_le (by omega), List.nil_append, List.take_append_of_le_length (by rw [low_length]; exact Nat.le_refl _), List.take_of_length_le (by rw [low_length]; exact Nat.le_refl _)]
theorem num_lay_self {b : List UInt8} {o v : Nat} (hb : o + 8 ≤ b.length) (hv : v < 18446744073709551616) : num (lay b o v) o = v := by
  rw [num_some (by rw [lay_length]; exact hb), lay_drop_take hb, le_low]
  exact Nat.mod_eq_of_lt (by simpa using hv)
theorem num_lay_ne {b : List UInt8} {o v o' : Nat} (h : o' + 8 ≤ o ∨ o + 8 ≤ o') : num (lay b o v) o' = num b o' := by
  by_cases hb : o' + 8 ≤ b.length
  · rw [num_some (by rw [lay_length]; exact hb), num_some hb]
    congr 1
    exact window_eq fun i h1 h2 => lay_get (by omega)
  · rw [num_none (by rw [lay_length]; omega), num_none (by omega)]
theorem num_congr {a b : List UInt8} {o : Nat} (hl : a.length = b.length) (h : ∀ i, o ≤ i → i < o + 8 → a[i]? = b[i]?) : num a o = num b o := by
  by_cases hb : o + 8 ≤ b.length
  · rw [num_some (by omega), num_some hb, window_eq h]
  · rw [num_none (by omega), num_none (by omega)]
theorem lay_num {b : List UInt8} {o : Nat} : lay b o (num b o) = b := by
  by_cases hb : o + 8 ≤ b.length
  · rw [lay_some hb, num_some hb]
    have : low 8 (le ((b.drop o).take 8)) = (b.drop o).take 8 := by
      have h := low_le ((b.drop o).take 8)
      rwa [List.length_take, List.length_drop, Nat.min_eq_left (by omega)] at h
    rw [this, List.append_assoc, ← List.drop_drop, List.take_append_drop, List.take_append_drop]
  · exact lay_none (by omega)
theorem num_lay {b : List UInt8} {o v o' : Nat} (h : o % 8 = 0) (h' : o' % 8 = 0) (hb : o + 8 ≤ b.length) (hv : v < 18446744073709551616) : num (lay b o v) o' = if o' = o then v else num b o' := by
  split
  · rename_i e; subst e; exact num_lay_self hb hv
  · exact num_lay_ne (by omega)
def setBit (w c : Nat) : Nat := w ||| 2 ^ c
def clearBit (w c : Nat) : Nat := if w.testBit c then w ^^^ 2 ^ c else w
theorem setBit_test (w c d : Nat) : (setBit w c).testBit d = (w.testBit d || decide (c = d)) := by
  unfold setBit; rw [Nat.testBit_or, Nat.testBit_two_pow]
theorem clearBit_test (w c d : Nat) : (clearBit w c).testBit d = (w.testBit d && !decide (c = d)) := by
  unfold clearBit
  split
  · rename_i h
    rw [Nat.testBit_xor, Nat.testBit_two_pow]
    by_cases e : c = d
    · subst e; simp [h]
    · simp [e]
  · rename_i h
    by_cases e : c = d
    · subst e; simpa using h
    · simp [e]
theorem setBit_lt {w c n : Nat} (h : w < 2 ^ n) (hc : c < n) : setBit w c < 2 ^ n := Nat.or_lt_two_pow h (Nat.pow_lt_pow_right (by decide) hc)
theorem clearBit_lt {w c n : Nat} (h : w < 2 ^ n) (hc : c < n) : clearBit w c < 2 ^ n := by
  unfold clearBit; split
  · exact Nat.xor_lt_two_pow h (Nat.pow_lt_pow_right (by decide) hc)
  · exact h
def cls (s : Int) : Int := if isSize s then (if s ≤ 256 then s / 16 - 2 else if s < 512 then 15 else if s < 1024 then 16 else if s < 2048 then 17 else if s < 4096 then 18 else if s < 8192 then 19 else if s < 16384 then 20 else 21) else -1
theorem cls_none {s : Int} (h : isSize s = false) : cls s = -1 := by unfold cls; rw [h]; rfl
theorem cls_range {s : Int} (h : isSize s = true) : 0 ≤ cls s ∧ cls s < 22 := by
  have h1 := (isSize_iff _).1 h
  unfold cls; rw [if_pos h]
  repeat' split
  all_goals omega
theorem cls_neg {s : Int} : cls s < 0 ↔ isSize s = false := by
  cases h : isSize s with
  | true => have := cls_range h; constructor <;> intro h <;> first | omega | cases h
  | false => rw [cls_none h]; simp
theorem cls_mono {s t : Int} (hs : isSize s = true) (ht : isSize t = true) (h : s ≤ t) : cls s ≤ cls t := by
  have h1 := (isSize_iff _).1 hs
  have h2 := (isSize_iff _).1 ht
  unfold cls; rw [if_pos hs, if_pos ht]
  by_cases a1 : t ≤ 256
  · rw [if_pos a1, if_pos (by omega)]; omega
  · rw [if_neg a1]
    repeat' split
    all_goals omega
def could (n : Nat) (o size : Int) : Bool := 184 ≤ o && o % 16 == 8 && o ≤ n && size ≤ n - o
theorem could_iff {n : Nat} {o size : Int} : could n o size = true ↔ 184 ≤ o ∧ o % 16 = 8 ∧ o ≤ n ∧ size ≤ n - o := by simp [could, and_assoc]
def bget (b : List UInt8) (o : Int) : Option Blk :=
  if could b.length o 32 then
    match unpack (num b o.toNat) with
    | none => none
    | some (s, u) => if could b.length o s = true ∧ num b (o.toNat + s - 8) = num b o.toNat then some ⟨o, s, u⟩ else none
  else none
theorem bget_some {b : List UInt8} {o : Int} {x : Blk} (h : bget b o = some x) :
    x.off = o ∧ 184 ≤ o ∧ o % 16 = 8 ∧ o + x.size ≤ b.length ∧ isSize x.size = true ∧ num b o.toNat = pack x.size x.used ∧ num b (o.toNat + x.size.toNat - 8) = pack x.size x.used := by
  unfold bget at h
  split at h
  · rename_i hc
    have hc := could_iff.1 hc
    split at h
    · cases h
    · rename_i s u hu
      split at h
      · rename_i h2
        obtain rfl := Option.some.inj h
        obtain ⟨h3, h4, h5⟩ := unpack_some hu
        have h6 := could_iff.1 h2.1
        refine ⟨rfl, hc.1, hc.2.1, by show o + (s : Int) ≤ _; omega, h3, h5.symm, ?_⟩
        rw [Int.toNat_natCast, h2.2]; exact h5.symm
      · cases h
  · cases h
theorem unpack_pack' {s : Int} {u : Bool} (h : isSize s = true) : unpack (pack s u) = some (s.toNat, u) := by
  have h1 := (isSize_iff _).1 h
  unfold pack; rw [if_pos h]
  exact unpack_pack (by rw [Int.toNat_of_nonneg (by omega)]; exact h)
theorem bget_of {b : List UInt8} {x : Blk} (h1 : 184 ≤ x.off) (h2 : x.off % 16 = 8) (h3 : x.off + x.size ≤ b.length) (h4 : isSize x.size = true) (h5 : num b x.off.toNat = pack x.size x.used) (h6 : num b (x.off.toNat + x.size.toNat - 8) = pack x.size x.used) : bget b x.off = some x := by
  have h7 := (isSize_iff _).1 h4
  have e : ((x.size.toNat : Nat) : Int) = x.size := by omega
  unfold bget
  rw [if_pos (could_iff.2 ⟨h1, h2, by omega, by omega⟩), h5, unpack_pack' h4]
  simp only
  rw [if_pos ⟨could_iff.2 ⟨h1, h2, by omega, by omega⟩, h6⟩, e]
theorem bget_congr {b b' : List UInt8} {o : Int} {x : Blk} (h : bget b o = some x) (hl : b'.length = b.length) (h1 : num b' o.toNat = num b o.toNat) (h2 : num b' (o.toNat + x.size.toNat - 8) = num b (o.toNat + x.size.toNat - 8)) : bget b' o = some x := by
  obtain ⟨rfl, a2, a3, a4, a5, a6, a7⟩ := bget_some h
  exact bget_of a2 a3 (by rw [hl]; exact a4) a5 (by rw [h1, a6]) (by rw [h2, a7])
def bset (b : List UInt8) (x : Blk) : Option (List UInt8) :=
  if isSize x.size = true ∧ could b.length x.off x.size = true then some (lay (lay b x.off.toNat (pack x.size x.used)) (x.off + x.size - 8).toNat (pack x.size x.used)) else none
def ahead (b : List UInt8) (o : Int) : Option Blk :=
  if o < 184 ∨ (b.length : Int) < o then none else
    match unpack (num b (o - 8).toNat) with
    | none => none
    | some (s, u) => match bget b (o - s) with
      | none => none
      | some x => if x.size = s ∧ x.used = u then some x else none
def walkGo (b : List UInt8) : Nat → Int → Option (List Blk)
  | 0, _ => some []
  | k + 1, o => if o < b.length then
      match bget b o with
      | none => none
      | some x => (walkGo b k (o + x.size)).map (x :: ·)
    else some []
def walk (b : List UInt8) : Option (List Blk) := if b.length < 184 then none else walkGo b b.length 184
def member (b : List UInt8) (at_ : Nat) (c : Int) : Bool := at_ ≤ 16384 && (match bget b at_ with
  | none => false
  | some x => !x.used && cls x.size == c)
def freeC (b : List UInt8) (o : Int) : Option Nat := match bget b o with
  | none => none
  | some x => if x.used then none else some (cls x.size).toNat
def hd (c : Nat) : Nat := 8 + 8 * c
def mark (b : List UInt8) (c : Nat) : List UInt8 := lay b 0 (if num b (hd c) = 0 then clearBit (num b 0) c else setBit (num b 0) c)
def lput (b : List UInt8) (o : Int) : Option (List UInt8) := match freeC b o with
  | none => none
  | some c => if (num b (hd c) : Int) = o ∨ (num b (hd c) ≠ 0 ∧ member b (num b (hd c)) c = false) then none else
    let b2 := lay (lay b (o.toNat + 8) (num b (hd c))) (o.toNat + 16) 0
    let b3 := if num b (hd c) = 0 then b2 else lay b2 (num b (hd c) + 16) o.toNat
    some (mark (lay b3 (hd c) o.toNat) c)
def ltake (b : List UInt8) (o : Int) : Option (List UInt8) := match freeC b o with
  | none => none
  | some c =>
    let p := num b (o.toNat + 16)
    let n := num b (o.toNat + 8)
    if p = 0 ∧ (num b (hd c) : Int) ≠ o then none else
    if p ≠ 0 ∧ (member b p c = false ∨ (num b (p + 8) : Int) ≠ o) then none else
    if n ≠ 0 ∧ (member b n c = false ∨ (num b (n + 16) : Int) ≠ o) then none else
    let b2 := if p = 0 then lay b (hd c) n else lay b (p + 8) n
    let b3 := if n = 0 then b2 else lay b2 (n + 16) p
    some (mark b3 c)
def chain (b : List UInt8) (c : Int) : Nat → Nat → Nat → Option (List Int)
  | 0, at_, _ => if at_ = 0 then some [] else none
  | f + 1, at_, last => if at_ = 0 then some [] else if member b at_ c = true ∧ num b (at_ + 16) = last then (chain b c f (num b (at_ + 8)) at_).map ((at_ : Int) :: ·) else none
def lall (b : List UInt8) (c : Nat) : Option (List Int) :=
  if b.length < 184 then none else if (num b 0).testBit c ≠ decide (num b (hd c) ≠ 0) then none else chain b c 1024 (num b (hd c)) 0
def bigAt (b : List UInt8) (size o : Int) : Bool := match bget b o with
  | none => false
  | some x => size ≤ x.size
def findGo (b : List UInt8) (size : Int) : Nat → Nat → Option Int
  | 0, _ => some 0
  | k + 1, c => match lall b c with
    | none => none
    | some l => match l.find? (bigAt b size) with
      | some o => some o
      | none => findGo b size k (c + 1)
def findB (b : List UInt8) (size : Int) : Option Int := findGo b size (22 - (cls size).toNat) (cls size).toNat
def wiped (b : List UInt8) : List UInt8 := List.replicate 184 0 ++ b.drop 184
def putAll : List Blk → List UInt8 → List UInt8
  | [], b => b
  | x :: r, b => if x.used then putAll r b else putAll r ((lput b x.off).getD b)
def rebuild (b : List UInt8) : Option (List UInt8) := (walk b).map fun l => putAll l (wiped b)
end Cantle
/-!
  Plain Lean: blocks one behind the other; lists that are linked both ways; what putting and taking do to them.
-/
namespace Cantle
set_option linter.unusedSimpArgs false
set_option linter.unusedVariables false
def tlp (b : List UInt8) : Int → List Blk → Prop
  | _, [] => True
  | o, x :: r => bget b o = some x ∧ tlp b (o + x.size) r
def ends : Int → List Blk → Int
  | o, [] => o
  | o, x :: r => ends (o + x.size) r
theorem ends_append (o : Int) (l m : List Blk) : ends o (l ++ m) = ends (ends o l) m := by
  induction l generalizing o with
  | nil => rfl
  | cons x l ih => exact ih _
theorem tlp_append {b : List UInt8} {o : Int} {l m : List Blk} : tlp b o (l ++ m) ↔ tlp b o l ∧ tlp b (ends o l) m := by
  induction l generalizing o with
  | nil => simp [tlp, ends]
  | cons x l ih => simp only [List.cons_append, tlp, ends, ih, and_assoc]
theorem tlp_le {b : List UInt8} {o : Int} {l : List Blk} (h : tlp b o l) (ho : o ≤ b.length) : o ≤ ends o l ∧ ends o l ≤ b.length := by
  induction l generalizing o with
  | nil => exact ⟨Int.le_refl _, ho⟩
  | cons x l ih =>
    obtain ⟨h1, h2⟩ := h
    obtain ⟨_, _, _, h3, h4, _⟩ := bget_some h1
    have := (isSize_iff _).1 h4
    have := ih h2 h3
    exact ⟨by show o ≤ ends (o + x.size) l; omega, this.2⟩
theorem walkGo_iff {b : List UInt8} {l : List Blk} {k : Nat} {o : Int} (hk : (b.length : Int) ≤ o + k) (ho : o ≤ b.length) : walkGo b k o = some l ↔ tlp b o l ∧ ends o l = b.length := by
  induction k generalizing o l with
  | zero =>
    cases l with
    | nil => simp [walkGo, tlp, ends]; omega
    | cons x l =>
      simp only [walkGo]
      constructor
      · intro h; cases h
      · intro ⟨h, h5⟩
        obtain ⟨h1, _⟩ := h
        obtain ⟨_, _, _, h3, h4, _⟩ := bget_some h1
        have := (isSize_iff _).1 h4
        omega
  | succ k ih =>
    unfold walkGo
    by_cases hlt : o < b.length
    · rw [if_pos hlt]
      cases hb : bget b o with
      | none =>
        simp only
        constructor
        · intro h; cases h
        · intro ⟨h, h5⟩
          cases l with
          | nil => have : o = b.length := h5; omega
          | cons x l => rw [h.1] at hb; cases hb
      | some x =>
        simp only
        obtain ⟨_, _, _, h3, h4, _⟩ := bget_some hb
        have := (isSize_iff _).1 h4
        cases l with
        | nil =>
          constructor
          · intro h; simp at h
          · intro ⟨_, h5⟩; have : o = b.length := h5; omega
        | cons y l =>
          rw [Option.map_eq_some_iff]
          constructor
          · intro ⟨r, hr, e⟩
            obtain ⟨rfl, rfl⟩ := List.cons.inj e
            obtain ⟨h1, h2⟩ := (ih (by omega) h3).1 hr
            exact ⟨⟨hb, h1⟩, h2⟩
          · intro ⟨⟨h1, h2⟩, h5⟩
            rw [hb] at h1
            obtain rfl := Option.some.inj h1
            exact ⟨l, (ih (by omega) h3).2 ⟨h2, h5⟩, rfl⟩
    · rw [if_neg hlt]
      cases l with
      | nil => simp [tlp, ends]; omega
      | cons x l =>
        constructor
        · intro h; cases h
        · intro ⟨h, h5⟩
          obtain ⟨h1, _⟩ := h
          obtain ⟨_, _, _, h3, h4, _⟩ := bget_some h1
          have := (isSize_iff _).1 h4
          omega
theorem walk_iff {b : List UInt8} {l : List Blk} : walk b = some l ↔ 184 ≤ b.length ∧ tlp b 184 l ∧ ends 184 l = b.length := by
  unfold walk
  by_cases h : b.length < 184
  · rw [if_pos h]
    constructor
    · intro h; cases h
    · intro ⟨h, _⟩; omega
  · rw [if_neg h, walkGo_iff (by omega) (by omega)]
    constructor
    · intro h1; exact ⟨by omega, h1⟩
    · intro h1; exact h1.2
theorem tlp_mem {b : List UInt8} {o : Int} {l : List Blk} (h : tlp b o l) : ∀ x ∈ l, bget b x.off = some x ∧ o ≤ x.off := by
  induction l generalizing o with
  | nil => intro x hx; cases hx
  | cons y l ih =>
    intro x hx
    obtain ⟨h1, h2⟩ := h
    obtain ⟨rfl, _, _, h3, h4, _⟩ := bget_some h1
    have := (isSize_iff _).1 h4
    rcases List.mem_cons.1 hx with rfl | hx
    · exact ⟨h1, Int.le_refl _⟩
    · have := ih h2 x hx
      exact ⟨this.1, by omega⟩
theorem tlp_pair {b : List UInt8} {o : Int} {l : List Blk} (h : tlp b o l) : l.Pairwise fun x y => x.off + x.size ≤ y.off := by
  induction l generalizing o with
  | nil => exact List.Pairwise.nil
  | cons y l ih =>
    obtain ⟨h1, h2⟩ := h
    obtain ⟨rfl, _⟩ := bget_some h1
    exact List.Pairwise.cons (fun x hx => (tlp_mem h2 x hx).2) (ih h2)
theorem pair_cases {l : List Blk} (h : l.Pairwise fun x y => x.off + x.size ≤ y.off) {x y : Blk} (hx : x ∈ l) (hy : y ∈ l) : x = y ∨ x.off + x.size ≤ y.off ∨ y.off + y.size ≤ x.off := by
  induction h with
  | nil => cases hx
  | cons h1 _ ih =>
    rcases List.mem_cons.1 hx with e1 | hx1
    · rcases List.mem_cons.1 hy with e2 | hy1
      · exact .inl (e1.trans e2.symm)
      · subst e1; exact .inr (.inl (h1 _ hy1))
    · rcases List.mem_cons.1 hy with e2 | hy1
      · subst e2; exact .inr (.inr (h1 _ hx1))
      · exact ih hx1 hy1
theorem tlp_congr {b b' : List UInt8} {o : Int} {l : List Blk} (hl : b'.length = b.length) (h : tlp b o l) (hw : ∀ x ∈ l, num b' x.off.toNat = num b x.off.toNat ∧ num b' (x.off.toNat + x.size.toNat - 8) = num b (x.off.toNat + x.size.toNat - 8)) : tlp b' o l := by
  induction l generalizing o with
  | nil => trivial
  | cons y l ih =>
    obtain ⟨h1, h2⟩ := h
    obtain ⟨rfl, _⟩ := bget_some h1
    have hy := hw y (List.mem_cons_self ..)
    exact ⟨bget_congr h1 hl hy.1 hy.2, ih h2 fun x hx => hw x (List.mem_cons_of_mem _ hx)⟩
theorem walk_congr {b b' : List UInt8} {l : List Blk} (hl : b'.length = b.length) (h : walk b = some l) (hw : ∀ x ∈ l, num b' x.off.toNat = num b x.off.toNat ∧ num b' (x.off.toNat + x.size.toNat - 8) = num b (x.off.toNat + x.size.toNat - 8)) : walk b' = some l := by
  obtain ⟨h1, h2, h3⟩ := walk_iff.1 h
  exact walk_iff.2 ⟨by omega, tlp_congr hl h2 hw, by rw [h3, hl]⟩
structure Stands (b : List UInt8) (x : Blk) : Prop where
  lo : 184 ≤ x.off
  m : x.off % 16 = 8
  hi : x.off + x.size ≤ b.length
  s1 : 32 ≤ x.size
  s2 : x.size ≤ 16384
  s3 : x.size % 16 = 0
theorem bget_stands {b : List UInt8} {o : Int} {x : Blk} (h : bget b o = some x) : Stands b x := by
  obtain ⟨rfl, h1, h2, h3, h4, _⟩ := bget_some h
  have := (isSize_iff _).1 h4
  exact ⟨h1, h2, h3, this.1, this.2.1, this.2.2⟩
theorem Stands.size {b : List UInt8} {x : Blk} (h : Stands b x) : isSize x.size = true := (isSize_iff _).2 ⟨h.s1, h.s2, h.s3⟩
theorem walk_mem {b : List UInt8} {l : List Blk} (h : walk b = some l) {x : Blk} (hx : x ∈ l) : bget b x.off = some x ∧ Stands b x := by
  have := (tlp_mem (walk_iff.1 h).2.1 x hx).1
  exact ⟨this, bget_stands this⟩
theorem walk_cases {b : List UInt8} {l : List Blk} (h : walk b = some l) {x y : Blk} (hx : x ∈ l) (hy : y ∈ l) : x = y ∨ x.off + x.size ≤ y.off ∨ y.off + y.size ≤ x.off :=
  pair_cases (tlp_pair (walk_iff.1 h).2.1) hx hy
theorem walk_off {b : List UInt8} {l : List Blk} (h : walk b = some l) {x y : Blk} (hx : x ∈ l) (hy : y ∈ l) (e : x.off = y.off) : x = y := by
  have hx1 := (walk_mem h hx).1
  rw [e, (walk_mem h hy).1] at hx1
  exact (Option.some.inj hx1).symm
def dll (b : List UInt8) : Nat → Nat → List Int → Prop
  | _, at_, [] => at_ = 0
  | last, at_, o :: r => (at_ : Int) = o ∧ at_ ≠ 0 ∧ num b (at_ + 16) = last ∧ dll b at_ (num b (at_ + 8)) r
theorem chain_iff {b : List UInt8} {c : Int} {L : List Int} {f at_ last : Nat} : chain b c f at_ last = some L ↔ dll b last at_ L ∧ L.length ≤ f ∧ ∀ o ∈ L, member b o.toNat c = true := by
  induction f generalizing at_ last L with
  | zero =>
    unfold chain
    by_cases h : at_ = 0
    · rw [if_pos h]
      cases L with
      | nil => simp [dll, h]
      | cons o L => simp [dll, h]
    · rw [if_neg h]
      cases L with
      | nil => simp [dll, h]
      | cons o L => simp
  | succ f ih =>
    unfold chain
    by_cases h : at_ = 0
    · rw [if_pos h]
      cases L with
      | nil => simp [dll, h]
      | cons o L => simp [dll, h]
    · rw [if_neg h]
      cases L with
      | nil =>
        simp only [dll, h, false_and, iff_false]
        split <;> simp
      | cons o L =>
        split
        · rename_i hm
          rw [Option.map_eq_some_iff]
          constructor
          · intro ⟨r, hr, e⟩
            obtain ⟨rfl, rfl⟩ := List.cons.inj e
            obtain ⟨h1, h2, h3⟩ := ih.1 hr
            refine ⟨⟨rfl, h, hm.2, h1⟩, by simp; omega, fun x hx => ?_⟩
            rcases List.mem_cons.1 hx with rfl | hx
            · rw [Int.toNat_natCast]; exact hm.1
            · exact h3 x hx
          · intro ⟨⟨rfl, _, _, h1⟩, h2, h3⟩
            exact ⟨L, ih.2 ⟨h1, by simp at h2; omega, fun x hx => h3 x (List.mem_cons_of_mem _ hx)⟩, rfl⟩
        · rename_i hm
          constructor
          · intro h; cases h
          · intro ⟨⟨rfl, _, h4, h1⟩, h2, h3⟩
            have := h3 _ (List.mem_cons_self ..)
            rw [Int.toNat_natCast] at this
            exact absurd ⟨this, h4⟩ hm
theorem dll_congr {b b' : List UInt8} {L : List Int} {last at_ : Nat} (h : dll b last at_ L) (hw : ∀ o ∈ L, num b' (o.toNat + 16) = num b (o.toNat + 16) ∧ num b' (o.toNat + 8) = num b (o.toNat + 8)) : dll b' last at_ L := by
  induction L generalizing last at_ with
  | nil => exact h
  | cons o L ih =>
    obtain ⟨rfl, h1, h2, h3⟩ := h
    have ho := hw _ (List.mem_cons_self ..)
    rw [Int.toNat_natCast] at ho
    refine ⟨rfl, h1, by rw [ho.1]; exact h2, ?_⟩
    rw [ho.2]
    exact ih h3 fun x hx => hw x (List.mem_cons_of_mem _ hx)
theorem dll_pos {b : List UInt8} {L : List Int} {last at_ : Nat} (h : dll b last at_ L) : ∀ o ∈ L, 0 < o := by
  induction L generalizing last at_ with
  | nil => intro o ho; cases ho
  | cons x L ih =>
    obtain ⟨rfl, h1, h2, h3⟩ := h
    intro o ho
    rcases List.mem_cons.1 ho with rfl | ho
    · omega
    · exact ih h3 o ho
theorem dll_head {b : List UInt8} {L : List Int} {last at_ : Nat} (h : dll b last at_ L) : at_ = 0 ↔ L = [] := by
  cases L with
  | nil => simpa [dll] using h
  | cons x L =>
    obtain ⟨rfl, h1, _⟩ := h
    simp [h1]
theorem dll_head_mem {b : List UInt8} {L : List Int} {last at_ : Nat} (h : dll b last at_ L) (h0 : at_ ≠ 0) : (at_ : Int) ∈ L := by
  cases L with
  | nil => exact absurd h h0
  | cons x L => obtain ⟨rfl, _⟩ := h; exact List.mem_cons_self ..
theorem dll_put {b b' : List UInt8} {L : List Int} {first o : Nat} (h : dll b 0 first L) (hn : L.Nodup) (ho : o ≠ 0)
    (h1 : num b' (o + 8) = first) (h2 : num b' (o + 16) = 0) (h3 : first ≠ 0 → num b' (first + 16) = o) (h4 : ∀ x ∈ L, num b' (x.toNat + 8) = num b (x.toNat + 8))
    (h5 : ∀ x ∈ L, x ≠ (first : Int) → num b' (x.toNat + 16) = num b (x.toNat + 16)) : dll b' 0 o ((o : Int) :: L) := by
  refine ⟨rfl, ho, h2, ?_⟩
  rw [h1]
  cases L with
  | nil => exact h
  | cons x L =>
    obtain ⟨rfl, g1, g2, g3⟩ := h
    have e := h4 _ (List.mem_cons_self ..)
    rw [Int.toNat_natCast] at e
    refine ⟨rfl, g1, h3 g1, ?_⟩
    rw [e]
    refine dll_congr g3 fun y hy => ⟨h5 y (List.mem_cons_of_mem _ hy) ?_, h4 y (List.mem_cons_of_mem _ hy)⟩
    intro e; subst e
    exact (List.nodup_cons.1 hn).1 hy
theorem dll_prev {b : List UInt8} {pre post : List Int} {o : Int} {last at_ : Nat} (h : dll b last at_ (pre ++ o :: post)) :
    (pre = [] → num b (o.toNat + 16) = last ∧ (at_ : Int) = o) ∧ (pre ≠ [] → ((num b (o.toNat + 16) : Nat) : Int) ∈ pre) ∧ (post = [] → num b (o.toNat + 8) = 0) ∧ (post ≠ [] → ((num b (o.toNat + 8) : Nat) : Int) ∈ post) := by
  induction pre generalizing last at_ with
  | nil =>
    obtain ⟨rfl, h1, h2, h3⟩ := h
    rw [Int.toNat_natCast]
    refine ⟨fun _ => ⟨h2, rfl⟩, fun h => absurd rfl h, fun e => ?_, fun e => ?_⟩
    · subst e; exact h3
    · exact dll_head_mem h3 (fun h0 => e ((dll_head h3).1 h0))
  | cons y pre ih =>
    obtain ⟨rfl, h1, h2, h3⟩ := h
    obtain ⟨i1, i2, i3, i4⟩ := ih h3
    refine ⟨fun h => by simp at h, fun _ => ?_, i3, i4⟩
    by_cases e : pre = []
    · rw [(i1 e).1]; exact List.mem_cons_self ..
    · exact List.mem_cons_of_mem _ (i2 e)
theorem dll_take {b b' : List UInt8} {pre post : List Int} {o : Int} {last at_ : Nat} (h : dll b last at_ (pre ++ o :: post)) (hn : (pre ++ o :: post).Nodup) (hl : (last : Int) ∉ pre ++ o :: post)
    (h1 : ∀ x ∈ pre ++ post, num b' (x.toNat + 8) = if x = ((num b (o.toNat + 16) : Nat) : Int) then num b (o.toNat + 8) else num b (x.toNat + 8))
    (h2 : ∀ x ∈ pre ++ post, num b' (x.toNat + 16) = if x = ((num b (o.toNat + 8) : Nat) : Int) then num b (o.toNat + 16) else num b (x.toNat + 16)) :
    dll b' last (if pre = [] then num b (o.toNat + 8) else at_) (pre ++ post) := by
  induction pre generalizing last at_ with
  | nil =>
    obtain ⟨rfl, g1, g2, g3⟩ := h
    rw [Int.toNat_natCast] at h1 h2 ⊢
    rw [if_pos rfl, List.nil_append]
    rw [List.nil_append] at h1 h2
    cases post with
    | nil => exact g3
    | cons y post =>
      obtain ⟨e, e1, e2, e3⟩ := g3
      generalize hnx : num b (at_ + 8) = nx at *
      subst e
      have a2 := h2 _ (List.mem_cons_self ..)
      rw [if_pos rfl, g2, Int.toNat_natCast] at a2
      have a1 := h1 _ (List.mem_cons_self ..)
      rw [g2, if_neg (by intro e; simp at hl; exact hl.2.1 e.symm), Int.toNat_natCast] at a1
      refine ⟨rfl, e1, a2, ?_⟩
      rw [a1]
      refine dll_congr e3 fun z hz => ⟨?_, ?_⟩
      · rw [h2 z (List.mem_cons_of_mem _ hz), if_neg]
        intro e; subst e
        simp at hn
        exact hn.2.1 hz
      · rw [h1 z (List.mem_cons_of_mem _ hz), if_neg]
        intro e; rw [g2] at e; subst e
        simp at hl
        exact hl.2.2 hz
  | cons y pre ih =>
    have hp := dll_prev h
    obtain ⟨rfl, g1, g2, g3⟩ := h
    rw [if_neg (by simp)]
    have hn' := (List.nodup_cons.1 hn)
    have a2 := h2 _ (List.mem_cons_self ..)
    have hyn : (at_ : Int) ≠ ((num b (o.toNat + 8) : Nat) : Int) := by
      intro e
      by_cases hpo : post = []
      · have := hp.2.2.1 hpo; omega
      · have := hp.2.2.2 hpo
        rw [← e] at this
        exact hn'.1 (List.mem_append_right _ (List.mem_cons_of_mem _ this))
    rw [if_neg hyn, Int.toNat_natCast] at a2
    have a1 := h1 _ (List.mem_cons_self ..)
    rw [Int.toNat_natCast] at a1
    have hi := ih g3 hn'.2 hn'.1 (fun x hx => h1 x (List.mem_cons_of_mem _ hx)) (fun x hx => h2 x (List.mem_cons_of_mem _ hx))
    refine ⟨rfl, g1, by rw [a2]; exact g2, ?_⟩
    by_cases e : pre = []
    · subst e
      rw [if_pos rfl] at hi
      have hpr := dll_prev (pre := []) g3
      rw [if_pos (by rw [(hpr.1 rfl).1])] at a1
      rw [a1]; exact hi
    · rw [if_neg e] at hi
      have hpr := (dll_prev g3).2.1 e
      rw [if_neg (by intro e2; rw [← e2] at hpr; exact hn'.1 (List.mem_append_left _ hpr))] at a1
      rw [a1]; exact hi
theorem length_le_of_sub {α : Type} [DecidableEq α] : ∀ {l m : List α}, l.Nodup → (∀ x ∈ l, x ∈ m) → l.length ≤ m.length := by
  intro l
  induction l with
  | nil => intro m _ _; simp
  | cons a l ih =>
    intro m hn hs
    have h1 := hs a (List.mem_cons_self ..)
    have h2 : l.length ≤ (m.erase a).length := ih (List.nodup_cons.1 hn).2 fun x hx => by
      have hne : x ≠ a := fun e => (List.nodup_cons.1 hn).1 (e ▸ hx)
      exact (List.mem_erase_of_ne hne).2 (hs x (List.mem_cons_of_mem _ hx))
    rw [List.length_erase_of_mem h1] at h2
    have := List.length_pos_of_mem h1
    simp; omega
end Cantle
/-!
  Plain Lean: an arena whose lists are right; what putting, taking, and making the lists anew do to it.
-/
namespace Cantle
set_option linter.unusedSimpArgs false
set_option linter.unusedVariables false
def upd (L : Nat → List Int) (c : Nat) (v : List Int) : Nat → List Int := fun d => if d = c then v else L d
theorem upd_self (L : Nat → List Int) (c : Nat) (v : List Int) : upd L c v c = v := if_pos rfl
theorem upd_ne (L : Nat → List Int) {c d : Nat} (v : List Int) (h : d ≠ c) : upd L c v d = L d := if_neg h
structure Inv (b : List UInt8) (l : List Blk) (L : Nat → List Int) : Prop where
  wk : walk b = some l
  dl : ∀ c, c < 22 → dll b 0 (num b (hd c)) (L c)
  bit : ∀ c, c < 22 → (num b 0).testBit c = decide (L c ≠ [])
  mem : ∀ c, c < 22 → ∀ o ∈ L c, ∃ x ∈ l, x.off = o ∧ x.used = false ∧ cls x.size = c
  nd : ∀ c, c < 22 → (L c).Nodup
  top : num b 0 < 2 ^ 22
  len : b.length ≤ 16384
theorem Inv.len0 {b : List UInt8} {l : List Blk} {L : Nat → List Int} (h : Inv b l L) : 184 ≤ b.length := (walk_iff.1 h.wk).1
theorem Inv.st {b : List UInt8} {l : List Blk} {L : Nat → List Int} (h : Inv b l L) {x : Blk} (hx : x ∈ l) : Stands b x := (walk_mem h.wk hx).2
theorem member_of {b : List UInt8} {x : Blk} {c : Int} (h : bget b x.off = some x) (hu : x.used = false) (hc : cls x.size = c) (hl : b.length ≤ 16384) : member b x.off.toNat c = true := by
  have hs := bget_stands h
  have h1 := hs.lo
  have h2 := hs.hi
  have h3 := hs.s1
  unfold member
  rw [show ((x.off.toNat : Nat) : Int) = x.off from by omega, h]
  simp [hu, hc]
  omega
theorem Inv.member {b : List UInt8} {l : List Blk} {L : Nat → List Int} (h : Inv b l L) {c : Nat} (hc : c < 22) {o : Int} (ho : o ∈ L c) : member b o.toNat c = true := by
  obtain ⟨x, hx, rfl, hu, hk⟩ := h.mem c hc o ho
  exact member_of (walk_mem h.wk hx).1 hu hk h.len
theorem offs_bound {n : Nat} {l : List Int} (hn : l.Nodup) (h : ∀ o ∈ l, 0 ≤ o ∧ o < n) : l.length ≤ n := by
  have := length_le_of_sub (m := (List.range n).map fun i : Nat => (i : Int)) hn fun o ho => by
    have := h o ho
    rw [List.mem_map]
    exact ⟨o.toNat, List.mem_range.2 (by omega), by omega⟩
  simpa using this
theorem Inv.few {b : List UInt8} {l : List Blk} {L : Nat → List Int} (h : Inv b l L) {c : Nat} (hc : c < 22) : (L c).length ≤ 1024 := by
  have hb : ((L c).map fun o => o / 16).length ≤ 1024 := by
    refine offs_bound ?_ ?_
    · rw [List.Nodup, List.pairwise_map]
      have hp := h.nd c hc
      have hm := h.mem c hc
      rw [List.Nodup] at hp
      refine hp.imp_of_mem ?_
      intro x y hx hy hne
      obtain ⟨x', hx', rfl, _, _⟩ := hm x hx
      obtain ⟨y', hy', rfl, _, _⟩ := hm y hy
      have a1 := (h.st hx').m
      have a2 := (h.st hy').m
      intro e; apply hne; omega
    · intro o ho
      obtain ⟨x, hx, rfl⟩ := List.mem_map.1 ho
      obtain ⟨x', hx', rfl, _, _⟩ := h.mem c hc x hx
      have a1 := (h.st hx').lo
      have a2 := (h.st hx').hi
      have a3 := (h.st hx').s1
      have a4 := h.len
      omega
  rwa [List.length_map] at hb
theorem Inv.lall {b : List UInt8} {l : List Blk} {L : Nat → List Int} (h : Inv b l L) {c : Nat} (hc : c < 22) : lall b c = some (L c) := by
  unfold Cantle.lall
  have hh := dll_head (h.dl c hc)
  rw [if_neg (by have := h.len0; omega), if_neg, chain_iff]
  · exact ⟨h.dl c hc, h.few hc, fun o ho => h.member hc ho⟩
  · rw [h.bit c hc]
    simp [hh]
theorem put_nums {b b2 b3 : List UInt8} {c o first : Nat} (hc : c < 22) (hb : 184 ≤ b.length) (ho : 184 ≤ o) (ho8 : o % 8 = 0) (ho2 : o + 24 ≤ b.length) (hfl : first < 18446744073709551616) (hol : o < 18446744073709551616)
    (hf1 : first ≠ 0 → 184 ≤ first ∧ first % 8 = 0 ∧ first + 24 ≤ b.length) (e2 : b2 = lay (lay b (o + 8) first) (o + 16) 0) (e3 : b3 = if first = 0 then b2 else lay b2 (first + 16) o) (hw : num b 0 < 2 ^ 22) :
    (mark (lay b3 (hd c) o) c).length = b.length ∧ (∀ s, s % 8 = 0 → num (mark (lay b3 (hd c) o) c) s = if s = 0 then setBit (num b 0) c else if s = hd c then o else if first ≠ 0 ∧ s = first + 16 then o else if s = o + 16 then 0 else if s = o + 8 then first else num b s) ∧
    (∀ i, (184 ≤ i ∧ (i < o + 8 ∨ o + 24 ≤ i) ∧ (first = 0 ∨ i < first + 16 ∨ first + 24 ≤ i)) → (mark (lay b3 (hd c) o) c)[i]? = b[i]?) := by
  have hd8 : hd c % 8 = 0 := by unfold hd; omega
  have hdb : hd c + 8 ≤ 184 := by unfold hd; omega
  have hd0 : hd c ≠ 0 := by unfold hd; omega
  have l1 : (lay b (o + 8) first).length = b.length := lay_length ..
  have l2 : b2.length = b.length := by rw [e2, lay_length, lay_length]
  have l3 : b3.length = b.length := by rw [e3]; split; exact l2; rw [lay_length]; exact l2
  have l4 : (lay b3 (hd c) o).length = b.length := by rw [lay_length]; exact l3
  have n1 : ∀ s, s % 8 = 0 → num (lay b (o + 8) first) s = if s = o + 8 then first else num b s := fun s hs => num_lay (by omega) hs (by omega) hfl
  have n2 : ∀ s, s % 8 = 0 → num b2 s = if s = o + 16 then 0 else if s = o + 8 then first else num b s := fun s hs => by
    rw [e2, num_lay (by omega) hs (by omega) (by decide), n1 s hs]
  have n3 : ∀ s, s % 8 = 0 → num b3 s = if first ≠ 0 ∧ s = first + 16 then o else if s = o + 16 then 0 else if s = o + 8 then first else num b s := fun s hs => by
    rw [e3]
    by_cases h0 : first = 0
    · rw [if_pos h0, n2 s hs, if_neg (c := first ≠ 0 ∧ _) (by intro h; exact h.1 h0)]
    · have := hf1 h0
      rw [if_neg h0, num_lay (by omega) hs (by omega) hol, n2 s hs]
      by_cases e : s = first + 16
      · rw [if_pos e, if_pos ⟨h0, e⟩]
      · rw [if_neg e, if_neg (c := first ≠ 0 ∧ _) (fun h => e h.2)]
  have n4 : ∀ s, s % 8 = 0 → num (lay b3 (hd c) o) s = if s = hd c then o else if first ≠ 0 ∧ s = first + 16 then o else if s = o + 16 then 0 else if s = o + 8 then first else num b s := fun s hs => by
    rw [num_lay (by omega) hs (by omega) hol, n3 s hs]
  have h0 : num (lay b3 (hd c) o) 0 = num b 0 := by
    rw [n4 0 rfl, if_neg (by omega), if_neg, if_neg (by omega), if_neg (by omega)]
    intro h; have := hf1 h.1; omega
  have hh : num (lay b3 (hd c) o) (hd c) = o := by rw [n4 _ hd8, if_pos rfl]
  have hm : mark (lay b3 (hd c) o) c = lay (lay b3 (hd c) o) 0 (setBit (num b 0) c) := by
    unfold mark; rw [hh, if_neg (by omega), h0]
  have hsl : setBit (num b 0) c < 18446744073709551616 := Nat.lt_of_lt_of_le (setBit_lt hw hc) (by decide)
  refine ⟨by rw [hm, lay_length, l4], fun s hs => ?_, fun i hi => ?_⟩
  · rw [hm, num_lay rfl hs (by omega) hsl, n4 s hs]
  · rw [hm, lay_get (.inr (by omega)), lay_get (.inr (by omega)), e3]
    have : b2[i]? = b[i]? := by rw [e2, lay_get (by omega), lay_get (by omega)]
    split
    · exact this
    · rw [lay_get (by omega)]; exact this
theorem Inv.put {b : List UInt8} {l : List Blk} {L : Nat → List Int} (h : Inv b l L) {x : Blk} (hx : x ∈ l) (hu : x.used = false) {c : Nat} (hcx : cls x.size = c) (hc : c < 22) (hn : x.off ∉ L c) :
    ∃ b', lput b x.off = some b' ∧ Inv b' l (upd L c (x.off :: L c)) ∧ b'.length = b.length ∧ (∀ y ∈ l, y.used = true → ∀ i : Nat, y.off ≤ i → (i : Int) < y.off + y.size → b'[i]? = b[i]?) := by
  obtain ⟨hg, hs⟩ := walk_mem h.wk hx
  have a1 := hs.lo; have a2 := hs.m; have a3 := hs.hi; have a4 := hs.s1; have a5 := hs.s2; have a6 := hs.s3
  have hlen := h.len
  have hlen0 := h.len0
  have hdl := h.dl c hc
  have hfree : freeC b x.off = some c := by unfold freeC; rw [hg]; simp [hu, hcx]
  have hfm : num b (hd c) ≠ 0 → ((num b (hd c) : Nat) : Int) ∈ L c := dll_head_mem hdl
  have hfs : num b (hd c) ≠ 0 → ∃ y ∈ l, y.off = (num b (hd c) : Nat) ∧ y.used = false ∧ cls y.size = c := fun h0 => h.mem c hc _ (hfm h0)
  have hfb : num b (hd c) ≠ 0 → 184 ≤ num b (hd c) ∧ num b (hd c) % 8 = 0 ∧ num b (hd c) + 24 ≤ b.length := fun h0 => by
    obtain ⟨y, hy, e, _⟩ := hfs h0
    have k0 := h.st hy
    have := k0.lo; have := k0.m; have := k0.hi; have := k0.s1
    omega
  have hcond : ¬ ((num b (hd c) : Int) = x.off ∨ (num b (hd c) ≠ 0 ∧ Cantle.member b (num b (hd c)) c = false)) := by
    rintro (e | ⟨h0, hm⟩)
    · have h0 : num b (hd c) ≠ 0 := by omega
      exact hn (e ▸ hfm h0)
    · have := h.member hc (hfm h0)
      rw [Int.toNat_natCast, hm] at this; cases this
  have hlp : ∃ b2 b3, b2 = lay (lay b (x.off.toNat + 8) (num b (hd c))) (x.off.toNat + 16) 0 ∧ b3 = (if num b (hd c) = 0 then b2 else lay b2 (num b (hd c) + 16) x.off.toNat) ∧ lput b x.off = some (mark (lay b3 (hd c) x.off.toNat) c) := by
    refine ⟨_, _, rfl, rfl, ?_⟩
    unfold lput
    rw [hfree]
    simp only
    rw [if_neg hcond]
  obtain ⟨b2, b3, e2, e3, hlp⟩ := hlp
  have hfl := num_lt b (hd c)
  generalize hF : num b (hd c) = first at *
  obtain ⟨p1, p2, p3⟩ := put_nums (o := x.off.toNat) hc hlen0 (by omega) (by omega) (by omega) hfl (by omega) hfb e2 e3 h.top
  generalize mark (lay b3 (hd c) x.off.toNat) c = b' at *
  have hox : ((x.off.toNat : Nat) : Int) = x.off := by omega
  have hdc : ∀ d, d < 22 → hd d % 8 = 0 ∧ 8 ≤ hd d ∧ hd d + 8 ≤ 184 ∧ (hd d = hd c ↔ d = c) := fun d hd' => by unfold hd; omega
  have hdc' := hdc c hc
  have hslot : ∀ y ∈ l, ∀ s : Nat, s % 8 = 0 → (s = y.off.toNat ∨ s = y.off.toNat + y.size.toNat - 8) → num b' s = num b s := by
    intro y hy s hs8 hs2
    have hys := h.st hy
    have b1 := hys.lo; have b2' := hys.m; have b3' := hys.hi; have b4 := hys.s1; have b5 := hys.s3
    have hd1 := walk_cases h.wk hx hy
    rw [p2 s hs8, if_neg (by omega), if_neg (by omega), if_neg, if_neg, if_neg]
    · rcases hd1 with e | e | e
      · subst e; omega
      · omega
      · omega
    · rcases hd1 with e | e | e
      · subst e; omega
      · omega
      · omega
    · rintro ⟨h0, e⟩
      obtain ⟨z, hz, ez, _⟩ := hfs h0
      have hzs := h.st hz
      have c1 := hzs.lo; have c2 := hzs.m; have c3 := hzs.s1; have c4 := hzs.s3
      have hd2 := walk_cases h.wk hz hy
      rcases hd2 with e' | e' | e'
      · subst e'; omega
      · omega
      · omega
  have hwk : walk b' = some l := walk_congr p1 h.wk fun y hy => by
    have hys := h.st hy
    have b1 := hys.lo; have b2' := hys.m; have b3' := hys.s1; have b5 := hys.s3
    exact ⟨hslot y hy _ (by omega) (.inl rfl), hslot y hy _ (by omega) (.inr rfl)⟩
  have hlink : ∀ d, d < 22 → ∀ o ∈ L d, (o ≠ x.off → num b' (o.toNat + 8) = num b (o.toNat + 8)) ∧ (o ≠ x.off → o ≠ (first : Int) → num b' (o.toNat + 16) = num b (o.toNat + 16)) := by
    intro d hd' o ho
    obtain ⟨y, hy, rfl, hyu, hyc⟩ := h.mem d hd' o ho
    have hys := h.st hy
    have b1 := hys.lo; have b2' := hys.m; have b3' := hys.s1
    constructor
    · intro hne
      rw [p2 _ (by omega), if_neg (by omega), if_neg (by omega), if_neg, if_neg (by omega), if_neg (by omega)]
      rintro ⟨h0, e⟩
      have := hfb h0
      obtain ⟨z, hz, ez, _⟩ := hfs h0
      have := (h.st hz).m
      omega
    · intro hne hnf
      rw [p2 _ (by omega), if_neg (by omega), if_neg (by omega), if_neg (by omega), if_neg (by omega), if_neg (by omega)]
  have hoc : ∀ d, d < 22 → d ≠ c → ∀ o ∈ L d, o ≠ x.off ∧ o ≠ (first : Int) := by
    intro d hd' hne o ho
    obtain ⟨y, hy, rfl, hyu, hyc⟩ := h.mem d hd' o ho
    constructor
    · intro e
      have := walk_off h.wk hy hx e
      subst this
      omega
    · intro e
      have h0 : first ≠ 0 := by have := (h.st hy).lo; omega
      obtain ⟨z, hz, ez, _, hzc⟩ := hfs h0
      have := walk_off h.wk hy hz (by omega)
      subst this
      omega
  refine ⟨b', hlp, ⟨hwk, ?_, ?_, ?_, ?_, ?_, by omega⟩, p1, ?_⟩
  · intro d hd'
    by_cases e : d = c
    · subst e
      rw [upd_self, p2 _ hdc'.1, if_neg (by omega), if_pos rfl]
      have key := dll_put (o := x.off.toNat) (b' := b') hdl (h.nd d hc) (by omega) ?_ ?_ ?_ ?_ ?_
      · rwa [hox] at key
      · rw [p2 _ (by omega), if_neg (by omega), if_neg (by omega), if_neg, if_neg (by omega), if_pos rfl]
        rintro ⟨h0, e⟩
        obtain ⟨z, hz, ez, _⟩ := hfs h0
        have := (h.st hz).m
        omega
      · rw [p2 _ (by omega), if_neg (by omega), if_neg (by omega), if_neg, if_pos rfl]
        rintro ⟨h0, e⟩
        exact hcond (.inl (by omega))
      · intro h0
        have := hfb h0
        rw [p2 _ (by omega), if_neg (by omega), if_neg (by omega), if_pos ⟨h0, rfl⟩]
      · intro o ho
        exact (hlink d hc o ho).1 (fun e => hn (e ▸ ho))
      · intro o ho hne
        exact (hlink d hc o ho).2 (fun e => hn (e ▸ ho)) hne
    · rw [upd_ne _ _ e]
      have := hdc d hd'
      have hh : num b' (hd d) = num b (hd d) := by
        rw [p2 _ this.1, if_neg (by omega), if_neg (fun e' => e (this.2.2.2.1 e')), if_neg, if_neg (by omega), if_neg (by omega)]
        rintro ⟨h0, e'⟩
        have := hfb h0
        omega
      rw [hh]
      exact dll_congr (h.dl d hd') fun o ho => ⟨(hlink d hd' o ho).2 (hoc d hd' e o ho).1 (hoc d hd' e o ho).2, (hlink d hd' o ho).1 (hoc d hd' e o ho).1⟩
  · intro d hd'
    rw [p2 0 rfl, if_pos rfl, setBit_test, h.bit d hd']
    by_cases e : d = c
    · subst e; rw [upd_self]; simp
    · rw [upd_ne _ _ e]; simp [Ne.symm e]
  · intro d hd' o ho
    by_cases e : d = c
    · subst e
      rw [upd_self] at ho
      rcases List.mem_cons.1 ho with rfl | ho
      · exact ⟨x, hx, rfl, hu, hcx⟩
      · exact h.mem d hc o ho
    · rw [upd_ne _ _ e] at ho
      exact h.mem d hd' o ho
  · intro d hd'
    by_cases e : d = c
    · subst e
      rw [upd_self]
      exact List.nodup_cons.2 ⟨hn, h.nd d hc⟩
    · rw [upd_ne _ _ e]; exact h.nd d hd'
  · rw [p2 0 rfl, if_pos rfl]
    exact setBit_lt h.top hc
  · intro y hy hyu i h1 h2
    have hys := h.st hy
    have b1 := hys.lo
    refine p3 i ⟨by omega, ?_, ?_⟩
    · rcases walk_cases h.wk hx hy with e | e | e
      · subst e; rw [hu] at hyu; cases hyu
      · omega
      · omega
    · by_cases h0 : first = 0
      · exact .inl h0
      · obtain ⟨z, hz, ez, hzu, _⟩ := hfs h0
        have c3 := (h.st hz).s1
        have c4 := (h.st hz).s3
        rcases walk_cases h.wk hz hy with e | e | e
        · subst e; rw [hzu] at hyu; cases hyu
        · omega
        · omega
end Cantle
/-!
  Plain Lean: taking a block out of its list; making the lists anew.
-/
namespace Cantle
set_option linter.unusedSimpArgs false
set_option linter.unusedVariables false
theorem take_nums {b b2 b3 : List UInt8} {c p n : Nat} (hc : c < 22) (hb : 184 ≤ b.length) (hpl : p < 18446744073709551616) (hnl : n < 18446744073709551616)
    (hp1 : p ≠ 0 → 184 ≤ p ∧ p % 16 = 8 ∧ p + 24 ≤ b.length) (hn1 : n ≠ 0 → 184 ≤ n ∧ n % 16 = 8 ∧ n + 24 ≤ b.length)
    (e2 : b2 = if p = 0 then lay b (hd c) n else lay b (p + 8) n) (e3 : b3 = if n = 0 then b2 else lay b2 (n + 16) p) (hw : num b 0 < 2 ^ 22) :
    (mark b3 c).length = b.length ∧ (∀ s, s % 8 = 0 → num (mark b3 c) s = if s = 0 then (if (if p = 0 then n else num b (hd c)) = 0 then clearBit (num b 0) c else setBit (num b 0) c) else if p = 0 ∧ s = hd c then n else if p ≠ 0 ∧ s = p + 8 then n else if n ≠ 0 ∧ s = n + 16 then p else num b s) ∧
    (∀ i, (184 ≤ i ∧ (p = 0 ∨ i < p + 8 ∨ p + 24 ≤ i) ∧ (n = 0 ∨ i < n + 8 ∨ n + 24 ≤ i)) → (mark b3 c)[i]? = b[i]?) := by
  have hd8 : hd c % 8 = 0 := by unfold hd; omega
  have hdb : hd c + 8 ≤ 184 := by unfold hd; omega
  have hd0 : hd c ≠ 0 := by unfold hd; omega
  have l2 : b2.length = b.length := by rw [e2]; split <;> rw [lay_length]
  have l3 : b3.length = b.length := by rw [e3]; split; exact l2; rw [lay_length]; exact l2
  have n2 : ∀ s, s % 8 = 0 → num b2 s = if p = 0 ∧ s = hd c then n else if p ≠ 0 ∧ s = p + 8 then n else num b s := fun s hs => by
    rw [e2]
    by_cases h0 : p = 0
    · rw [if_pos h0, num_lay hd8 hs (by omega) hnl]
      by_cases e : s = hd c
      · rw [if_pos e, if_pos ⟨h0, e⟩]
      · rw [if_neg e, if_neg (fun h => e h.2), if_neg (fun h => h.1 h0)]
    · have := hp1 h0
      rw [if_neg h0, num_lay (by omega) hs (by omega) hnl, if_neg (c := p = 0 ∧ _) (fun h => h0 h.1)]
      by_cases e : s = p + 8
      · rw [if_pos e, if_pos ⟨h0, e⟩]
      · rw [if_neg e, if_neg (fun h => e h.2)]
  have n3 : ∀ s, s % 8 = 0 → num b3 s = if p = 0 ∧ s = hd c then n else if p ≠ 0 ∧ s = p + 8 then n else if n ≠ 0 ∧ s = n + 16 then p else num b s := fun s hs => by
    rw [e3]
    by_cases h0 : n = 0
    · rw [if_pos h0, n2 s hs, if_neg (c := n ≠ 0 ∧ _) (fun h => h.1 h0)]
    · have := hn1 h0
      rw [if_neg h0, num_lay (by omega) hs (by omega) hpl, n2 s hs]
      by_cases e : s = n + 16
      · rw [if_pos e, if_neg (fun h => by omega), if_neg, if_pos ⟨h0, e⟩]
        rintro ⟨h1, h2⟩; have := hp1 h1; omega
      · rw [if_neg e, if_neg (c := n ≠ 0 ∧ _) (fun h => e h.2)]
  have h0 : num b3 0 = num b 0 := by
    rw [n3 0 rfl, if_neg (by omega), if_neg (by omega), if_neg (by omega)]
  have hh : num b3 (hd c) = if p = 0 then n else num b (hd c) := by
    rw [n3 _ hd8]
    by_cases h0 : p = 0
    · rw [if_pos ⟨h0, rfl⟩, if_pos h0]
    · have := hp1 h0
      rw [if_neg (fun h => h0 h.1), if_neg (by omega), if_neg (by omega), if_neg h0]
  have hsl : ∀ w : Nat, w < 2 ^ 22 → w < 18446744073709551616 := fun w h => Nat.lt_of_lt_of_le h (by decide)
  refine ⟨by unfold mark; rw [lay_length, l3], fun s hs => ?_, fun i hi => ?_⟩
  · unfold mark
    rw [num_lay rfl hs (by omega) (by split; exact hsl _ (clearBit_lt (by rw [h0]; exact hw) hc); exact hsl _ (setBit_lt (by rw [h0]; exact hw) hc)), n3 s hs, hh, h0]
  · unfold mark
    rw [lay_get (.inr (by omega)), e3]
    have : b2[i]? = b[i]? := by
      rw [e2]; split
      · rw [lay_get (by omega)]
      · rename_i h; rw [lay_get (by omega)]
    split
    · exact this
    · rw [lay_get (by omega)]; exact this
theorem Inv.off_cls {b : List UInt8} {l : List Blk} {L : Nat → List Int} (h : Inv b l L) {c d : Nat} (hc : c < 22) (hd' : d < 22) {o : Int} (ho : o ∈ L c) (ho' : o ∈ L d) : c = d := by
  obtain ⟨y, hy, rfl, _, hyc⟩ := h.mem c hc o ho
  obtain ⟨z, hz, e, _, hzc⟩ := h.mem d hd' _ ho'
  have := walk_off h.wk hz hy e
  subst this
  omega
theorem Inv.take {b : List UInt8} {l : List Blk} {L : Nat → List Int} (h : Inv b l L) {x : Blk} (hx : x ∈ l) (hu : x.used = false) {c : Nat} (hcx : cls x.size = c) (hc : c < 22) (hn : x.off ∈ L c) :
    ∃ b', ltake b x.off = some b' ∧ Inv b' l (upd L c ((L c).erase x.off)) ∧ b'.length = b.length ∧ (∀ y ∈ l, y.used = true → ∀ i : Nat, y.off ≤ i → (i : Int) < y.off + y.size → b'[i]? = b[i]?) := by
  obtain ⟨hg, hs⟩ := walk_mem h.wk hx
  have a1 := hs.lo; have a2 := hs.m; have a3 := hs.hi; have a4 := hs.s1; have a5 := hs.s2; have a6 := hs.s3
  have hlen := h.len
  have hlen0 := h.len0
  have hdl := h.dl c hc
  have hnd := h.nd c hc
  have hfree : freeC b x.off = some c := by unfold freeC; rw [hg]; simp [hu, hcx]
  obtain ⟨pre, post, hL⟩ := List.append_of_mem hn
  have hmem := h.mem c hc
  rw [hL] at hdl hnd hmem
  obtain ⟨q1, q2, q3, q4⟩ := dll_prev hdl
  have hxe : (L c).erase x.off = pre ++ post := by
    rw [hL]
    have : x.off ∉ pre := fun hp => by
      have := (List.nodup_append.1 hnd).2.2 _ hp _ (List.mem_cons_self ..)
      exact this rfl
    rw [List.erase_append_right _ this, List.erase_cons_head]
  have hxpp : x.off ∉ pre ++ post := by
    intro hp
    rcases List.mem_append.1 hp with hp | hp
    · exact (List.nodup_append.1 hnd).2.2 _ hp _ (List.mem_cons_self ..) rfl
    · exact (List.nodup_cons.1 (List.nodup_append.1 hnd).2.1).1 hp
  have hpm : num b (x.off.toNat + 16) ≠ 0 → ((num b (x.off.toNat + 16) : Nat) : Int) ∈ pre := fun h0 => by
    by_cases e : pre = []
    · exact absurd (q1 e).1 h0
    · exact q2 e
  have hnm : num b (x.off.toNat + 8) ≠ 0 → ((num b (x.off.toNat + 8) : Nat) : Int) ∈ post := fun h0 => by
    by_cases e : post = []
    · exact absurd (q3 e) h0
    · exact q4 e
  have hp0 : num b (x.off.toNat + 16) = 0 → pre = [] := fun h0 => by
    by_cases e : pre = []
    · exact e
    · exfalso
      have := q2 e
      rw [h0] at this
      obtain ⟨y, hy, e', _⟩ := hmem _ (List.mem_append_left _ this)
      have := (h.st hy).lo
      omega
  have hn0 : num b (x.off.toNat + 8) = 0 → post = [] := fun h0 => by
    by_cases e : post = []
    · exact e
    · exfalso
      have := q4 e
      rw [h0] at this
      obtain ⟨y, hy, e', _⟩ := hmem _ (List.mem_append_right _ (List.mem_cons_of_mem _ this))
      have := (h.st hy).lo
      omega
  have hfs : ∀ s : Nat, (s : Int) ∈ pre ++ post → ∃ y ∈ l, y.off = (s : Nat) ∧ y.used = false ∧ cls y.size = c := fun s hs => by
    rcases List.mem_append.1 hs with hs | hs
    · exact hmem _ (List.mem_append_left _ hs)
    · exact hmem _ (List.mem_append_right _ (List.mem_cons_of_mem _ hs))
  have hfb : ∀ s : Nat, (s : Int) ∈ pre ++ post → 184 ≤ s ∧ s % 16 = 8 ∧ s + 24 ≤ b.length := fun s hs => by
    obtain ⟨y, hy, e, _⟩ := hfs s hs
    have k0 := h.st hy
    have := k0.lo; have := k0.m; have := k0.hi; have := k0.s1
    omega
  have hpn : num b (x.off.toNat + 16) ≠ 0 → num b (num b (x.off.toNat + 16) + 8) = x.off.toNat ∧ pre ≠ [] := fun h0 => by
    have e : pre ≠ [] := fun e => h0 (q1 e).1
    refine ⟨?_, e⟩
    clear hxe hxpp hpm hnm hp0 hn0 hfs hfb q1 q2 q3 q4 hfree
    have gen : ∀ (pre : List Int) (last at_ : Nat), pre ≠ [] → dll b last at_ (pre ++ x.off :: post) → num b (num b (x.off.toNat + 16) + 8) = x.off.toNat := by
      intro pre
      induction pre with
      | nil => intro _ _ h; exact absurd rfl h
      | cons y pre ih =>
        intro last at_ _ hd'
        obtain ⟨rfl, g1, g2, g3⟩ := hd'
        by_cases e : pre = []
        · subst e
          obtain ⟨e1, _, e3, _⟩ := g3
          have : num b (at_ + 8) = x.off.toNat := by omega
          rw [this] at e3
          rw [e3, this]
        · exact ih _ _ e g3
    exact gen pre 0 _ e hdl
  have hnp : num b (x.off.toNat + 8) ≠ 0 → num b (num b (x.off.toNat + 8) + 16) = x.off.toNat ∧ post ≠ [] := fun h0 => by
    have e : post ≠ [] := fun e => h0 (q3 e)
    refine ⟨?_, e⟩
    clear hxe hxpp hpm hnm hp0 hn0 hfs hfb q1 q2 q3 q4 hfree hpn
    have gen : ∀ (pre : List Int) (last at_ : Nat), dll b last at_ (pre ++ x.off :: post) → num b (num b (x.off.toNat + 8) + 16) = x.off.toNat := by
      intro pre
      induction pre with
      | nil =>
        intro last at_ hd'
        obtain ⟨e1, g1, g2, g3⟩ := hd'
        have e1' : x.off.toNat = at_ := by omega
        rw [e1']
        cases post with
        | nil => exact absurd rfl e
        | cons z post =>
          obtain ⟨_, _, e3, _⟩ := g3
          exact e3
      | cons y pre ih =>
        intro last at_ hd'
        obtain ⟨rfl, g1, g2, g3⟩ := hd'
        exact ih _ _ g3
    exact gen pre 0 _ hdl
  have hpl := num_lt b (x.off.toNat + 16)
  have hnl := num_lt b (x.off.toNat + 8)
  have hhd : num b (x.off.toNat + 16) = 0 → (num b (hd c) : Int) = x.off := fun h0 => (q1 (hp0 h0)).2
  have hhn : num b (x.off.toNat + 16) ≠ 0 → num b (hd c) ≠ 0 ∧ (num b (hd c) : Int) ∈ pre := fun h0 => by
    have e := (hpn h0).2
    cases pre with
    | nil => exact absurd rfl e
    | cons y pre => obtain ⟨e1, e2, _⟩ := hdl; exact ⟨e2, e1 ▸ List.mem_cons_self ..⟩
  have hlp : ∃ b2 b3, b2 = (if num b (x.off.toNat + 16) = 0 then lay b (hd c) (num b (x.off.toNat + 8)) else lay b (num b (x.off.toNat + 16) + 8) (num b (x.off.toNat + 8))) ∧ b3 = (if num b (x.off.toNat + 8) = 0 then b2 else lay b2 (num b (x.off.toNat + 8) + 16) (num b (x.off.toNat + 16))) ∧ ltake b x.off = some (mark b3 c) := by
    refine ⟨_, _, rfl, rfl, ?_⟩
    unfold ltake
    rw [hfree]
    simp only
    rw [if_neg, if_neg, if_neg]
    · rintro ⟨h0, hm | hm⟩
      · have := h.member hc (o := (num b (x.off.toNat + 8) : Nat)) (by rw [hL]; exact List.mem_append_right _ (List.mem_cons_of_mem _ (hnm h0)))
        rw [Int.toNat_natCast, hm] at this; cases this
      · have := (hnp h0).1; omega
    · rintro ⟨h0, hm | hm⟩
      · have := h.member hc (o := (num b (x.off.toNat + 16) : Nat)) (by rw [hL]; exact List.mem_append_left _ (hpm h0))
        rw [Int.toNat_natCast, hm] at this; cases this
      · have := (hpn h0).1; omega
    · rintro ⟨h0, hm⟩
      exact hm (hhd h0)
  obtain ⟨b2, b3, e2, e3, hlp⟩ := hlp
  generalize hP : num b (x.off.toNat + 16) = p at *
  generalize hN : num b (x.off.toNat + 8) = n at *
  have hp1 : p ≠ 0 → 184 ≤ p ∧ p % 16 = 8 ∧ p + 24 ≤ b.length := fun h0 => hfb p (List.mem_append_left _ (hpm h0))
  have hn1 : n ≠ 0 → 184 ≤ n ∧ n % 16 = 8 ∧ n + 24 ≤ b.length := fun h0 => hfb n (List.mem_append_right _ (hnm h0))
  obtain ⟨p1, p2, p3⟩ := take_nums hc hlen0 hpl hnl hp1 hn1 e2 e3 h.top
  generalize mark b3 c = b' at *
  have hdc : ∀ d, d < 22 → hd d % 8 = 0 ∧ 8 ≤ hd d ∧ hd d + 8 ≤ 184 ∧ (hd d = hd c ↔ d = c) := fun d hd' => by unfold hd; omega
  have hdc' := hdc c hc
  have hslot : ∀ y ∈ l, ∀ s : Nat, s % 8 = 0 → (s = y.off.toNat ∨ s = y.off.toNat + y.size.toNat - 8) → num b' s = num b s := by
    intro y hy s hs8 hs2
    have hys := h.st hy
    have b1 := hys.lo; have b2' := hys.m; have b3' := hys.hi; have b4 := hys.s1; have b5 := hys.s3
    rw [p2 s hs8, if_neg (by omega), if_neg (by omega), if_neg, if_neg]
    · rintro ⟨h0, e⟩
      obtain ⟨z, hz, ez, _⟩ := hfs n (List.mem_append_right _ (hnm h0))
      have hzs := h.st hz
      have c1 := hzs.lo; have c2 := hzs.m; have c3 := hzs.s1; have c4 := hzs.s3
      rcases walk_cases h.wk hz hy with e' | e' | e'
      · subst e'; omega
      · omega
      · omega
    · rintro ⟨h0, e⟩
      obtain ⟨z, hz, ez, _⟩ := hfs p (List.mem_append_left _ (hpm h0))
      have hzs := h.st hz
      have c1 := hzs.lo; have c2 := hzs.m; have c3 := hzs.s1; have c4 := hzs.s3
      rcases walk_cases h.wk hz hy with e' | e' | e'
      · subst e'; omega
      · omega
      · omega
  have hwk : walk b' = some l := walk_congr p1 h.wk fun y hy => by
    have hys := h.st hy
    have b1 := hys.lo; have b2' := hys.m; have b3' := hys.s1; have b5 := hys.s3
    exact ⟨hslot y hy _ (by omega) (.inl rfl), hslot y hy _ (by omega) (.inr rfl)⟩
  have hlink : ∀ d, d < 22 → ∀ o ∈ L d, num b' (o.toNat + 8) = (if o = (p : Int) then n else num b (o.toNat + 8)) ∧ num b' (o.toNat + 16) = (if o = (n : Int) then p else num b (o.toNat + 16)) := by
    intro d hd' o ho
    obtain ⟨y, hy, rfl, hyu, hyc⟩ := h.mem d hd' o ho
    have hys := h.st hy
    have b1 := hys.lo; have b2' := hys.m; have b3' := hys.s1
    constructor
    · rw [p2 _ (by omega), if_neg (by omega), if_neg (by omega)]
      by_cases e : y.off = (p : Int)
      · rw [if_pos e, if_pos ⟨by omega, by omega⟩]
      · rw [if_neg e, if_neg (by omega), if_neg]
        rintro ⟨h0, e'⟩; have := hn1 h0; omega
    · rw [p2 _ (by omega), if_neg (by omega), if_neg (by omega), if_neg]
      · by_cases e : y.off = (n : Int)
        · rw [if_pos e, if_pos ⟨by omega, by omega⟩]
        · rw [if_neg e, if_neg (by omega)]
      · rintro ⟨h0, e'⟩; have := hp1 h0; omega
  refine ⟨b', hlp, ⟨hwk, ?_, ?_, ?_, ?_, ?_, by omega⟩, p1, ?_⟩
  · intro d hd'
    by_cases e : d = c
    · subst e
      rw [upd_self, hxe]
      have hh : num b' (hd d) = if pre = [] then n else num b (hd d) := by
        rw [p2 _ hdc'.1, if_neg (by omega)]
        by_cases h0 : p = 0
        · rw [if_pos ⟨h0, rfl⟩, if_pos (hp0 h0)]
        · have := hp1 h0
          rw [if_neg (fun h => h0 h.1), if_neg (by omega), if_neg, if_neg (hpn h0).2]
          rintro ⟨h1, h2⟩; have := hn1 h1; omega
      rw [hh, ← hN]
      have hpp : ∀ z ∈ pre ++ post, z ∈ L d := fun z hz => by
        rw [hL]
        rcases List.mem_append.1 hz with hz | hz
        · exact List.mem_append_left _ hz
        · exact List.mem_append_right _ (List.mem_cons_of_mem _ hz)
      refine dll_take hdl hnd ?_ ?_ ?_
      · intro h0
        obtain ⟨y, hy, e', _⟩ := hmem _ h0
        have := (h.st hy).lo
        omega
      · intro z hz
        rw [hP, hN]
        exact (hlink d hc z (hpp z hz)).1
      · intro z hz
        rw [hP, hN]
        exact (hlink d hc z (hpp z hz)).2
    · rw [upd_ne _ _ e]
      have := hdc d hd'
      have hh : num b' (hd d) = num b (hd d) := by
        rw [p2 _ this.1, if_neg (by omega), if_neg (fun e' => e (this.2.2.2.1 e'.2)), if_neg, if_neg]
        · rintro ⟨h0, e'⟩; have := hn1 h0; omega
        · rintro ⟨h0, e'⟩; have := hp1 h0; omega
      rw [hh]
      refine dll_congr (h.dl d hd') fun o ho => ?_
      have hl := hlink d hd' o ho
      constructor
      · rw [hl.2, if_neg]
        intro e'
        have h0 : n ≠ 0 := by
          obtain ⟨y, hy, e2, _⟩ := h.mem d hd' o ho
          have := (h.st hy).lo; omega
        exact e (h.off_cls hd' hc ho (by rw [e', hL]; exact List.mem_append_right _ (List.mem_cons_of_mem _ (hnm h0))))
      · rw [hl.1, if_neg]
        intro e'
        have h0 : p ≠ 0 := by
          obtain ⟨y, hy, e2, _⟩ := h.mem d hd' o ho
          have := (h.st hy).lo; omega
        exact e (h.off_cls hd' hc ho (by rw [e', hL]; exact List.mem_append_left _ (hpm h0)))
  · intro d hd'
    rw [p2 0 rfl, if_pos rfl]
    by_cases h0 : p = 0
    · rw [if_pos h0]
      by_cases h1 : n = 0
      · rw [if_pos h1, clearBit_test, h.bit d hd']
        by_cases e : d = c
        · subst e; rw [upd_self, hxe, hp0 h0, hn0 h1]; simp
        · rw [upd_ne _ _ e]; simp [Ne.symm e]
      · rw [if_neg h1, setBit_test, h.bit d hd']
        by_cases e : d = c
        · subst e
          rw [upd_self, hxe]
          have := hnm h1
          have : pre ++ post ≠ [] := fun e => by simp at e; rw [e.2] at this; cases this
          simp [this]
        · rw [upd_ne _ _ e]; simp [Ne.symm e]
    · rw [if_neg h0, if_neg (hhn h0).1, setBit_test, h.bit d hd']
      by_cases e : d = c
      · subst e
        rw [upd_self, hxe]
        have := hpm h0
        have : pre ++ post ≠ [] := fun e => by simp at e; rw [e.1] at this; cases this
        simp [this]
      · rw [upd_ne _ _ e]; simp [Ne.symm e]
  · intro d hd' o ho
    by_cases e : d = c
    · subst e
      rw [upd_self] at ho
      exact h.mem d hc o (List.mem_of_mem_erase ho)
    · rw [upd_ne _ _ e] at ho
      exact h.mem d hd' o ho
  · intro d hd'
    by_cases e : d = c
    · subst e
      rw [upd_self]
      exact (h.nd d hc).erase _
    · rw [upd_ne _ _ e]; exact h.nd d hd'
  · rw [p2 0 rfl, if_pos rfl]
    repeat' split
    all_goals first | exact clearBit_lt h.top hc | exact setBit_lt h.top hc
  · intro y hy hyu i h1 h2
    have hys := h.st hy
    have b1 := hys.lo
    refine p3 i ⟨by omega, ?_, ?_⟩
    · by_cases h0 : p = 0
      · exact .inl h0
      · obtain ⟨z, hz, ez, hzu, _⟩ := hfs p (List.mem_append_left _ (hpm h0))
        have c3 := (h.st hz).s1
        have c4 := (h.st hz).s3
        rcases walk_cases h.wk hz hy with e | e | e
        · subst e; rw [hzu] at hyu; cases hyu
        · omega
        · omega
    · by_cases h0 : n = 0
      · exact .inl h0
      · obtain ⟨z, hz, ez, hzu, _⟩ := hfs n (List.mem_append_right _ (hnm h0))
        have c3 := (h.st hz).s1
        have c4 := (h.st hz).s3
        rcases walk_cases h.wk hz hy with e | e | e
        · subst e; rw [hzu] at hyu; cases hyu
        · omega
        · omega
theorem wiped_length {b : List UInt8} (h : 184 ≤ b.length) : (wiped b).length = b.length := by unfold wiped; rw [List.length_append, List.length_replicate, List.length_drop]; omega
theorem wiped_get {b : List UInt8} (i : Nat) (hi : 184 ≤ i) : (wiped b)[i]? = b[i]? := by
  unfold wiped
  rw [List.getElem?_append_right (by rw [List.length_replicate]; exact hi), List.getElem?_drop, List.length_replicate, show 184 + (i - 184) = i from by omega]
theorem le_zeros (n : Nat) : le (List.replicate n 0) = 0 := by
  induction n with
  | zero => rfl
  | succ n ih => rw [List.replicate_succ]; simp [le, ih]
theorem wiped_num {b : List UInt8} (h : 184 ≤ b.length) (s : Nat) : (s + 8 ≤ 184 → num (wiped b) s = 0) ∧ (184 ≤ s → num (wiped b) s = num b s) := by
  constructor
  · intro hs
    rw [num_some (by rw [wiped_length h]; omega)]
    have : ((wiped b).drop s).take 8 = List.replicate 8 0 := by
      apply List.ext_getElem?
      intro i
      rw [List.getElem?_take]
      split
      · rw [List.getElem?_drop]
        unfold wiped
        rw [List.getElem?_append_left (by rw [List.length_replicate]; omega), List.getElem?_replicate, List.getElem?_replicate, if_pos (by omega), if_pos (by omega)]
      · rw [List.getElem?_replicate, if_neg (by omega)]
    rw [this, le_zeros]
  · intro hs
    exact num_congr (wiped_length h) fun i h1 _ => wiped_get i (by omega)
theorem inv_wiped {b : List UInt8} {l : List Blk} (h : walk b = some l) (hl : b.length ≤ 16384) : Inv (wiped b) l (fun _ => []) := by
  have h0 := (walk_iff.1 h).1
  have hn := wiped_num h0
  have hz : num (wiped b) 0 = 0 := (hn 0).1 (by omega)
  refine ⟨?_, ?_, ?_, ?_, ?_, ?_, by rw [wiped_length h0]; exact hl⟩
  · refine walk_congr (wiped_length h0) h fun x hx => ?_
    have hs := (walk_mem h hx).2
    have := hs.lo; have := hs.s1
    exact ⟨(hn _).2 (by omega), (hn _).2 (by omega)⟩
  · intro c hc
    exact (hn _).1 (by unfold hd; omega)
  · intro c hc; rw [hz]; simp
  · intro c hc o ho; cases ho
  · intro c hc; exact List.nodup_nil
  · rw [hz]; decide
def listsOf (l : List Blk) (c : Nat) : List Int := ((l.filter fun x => !x.used && cls x.size == (c : Int)).map (·.off)).reverse
theorem mem_listsOf {l : List Blk} {c : Nat} {o : Int} : o ∈ listsOf l c ↔ ∃ x ∈ l, x.off = o ∧ x.used = false ∧ cls x.size = c := by
  unfold listsOf
  rw [List.mem_reverse, List.mem_map]
  constructor
  · rintro ⟨x, hx, rfl⟩
    have := List.mem_filter.1 hx
    simp at this
    exact ⟨x, this.1, rfl, this.2.1, this.2.2⟩
  · rintro ⟨x, hx, rfl, h1, h2⟩
    exact ⟨x, List.mem_filter.2 ⟨hx, by simp [h1, h2]⟩, rfl⟩
theorem putAll_append (l m : List Blk) (b : List UInt8) : putAll (l ++ m) b = putAll m (putAll l b) := by
  induction l generalizing b with
  | nil => rfl
  | cons x l ih => simp only [List.cons_append, putAll]; split <;> exact ih _
theorem Inv.ext {b : List UInt8} {l : List Blk} {L L' : Nat → List Int} (h : Inv b l L) (e : ∀ c, c < 22 → L c = L' c) : Inv b l L' :=
  ⟨h.wk, fun c hc => e c hc ▸ h.dl c hc, fun c hc => e c hc ▸ h.bit c hc, fun c hc => e c hc ▸ h.mem c hc, fun c hc => e c hc ▸ h.nd c hc, h.top, h.len⟩
theorem putAll_inv {b : List UInt8} {l done rest : List Blk} (h : walk b = some l) (hl : b.length ≤ 16384) (e : l = done ++ rest) :
    Inv (putAll done (wiped b)) l (listsOf done) ∧ (putAll done (wiped b)).length = b.length ∧ (∀ y ∈ l, y.used = true → ∀ i : Nat, y.off ≤ i → (i : Int) < y.off + y.size → (putAll done (wiped b))[i]? = b[i]?) ∧
    (∀ x r, rest = x :: r → x.used = false → ∃ b', lput (putAll done (wiped b)) x.off = some b') := by
  have key : ∀ {d r : List Blk}, l = d ++ r → Inv (putAll d (wiped b)) l (listsOf d) → ∀ x r', r = x :: r' → x.used = false → x ∈ l ∧ ∃ c, c < 22 ∧ cls x.size = (c : Nat) ∧ x.off ∉ listsOf d c := by
    intro d r e hi x r' e2 hu
    subst e2
    have hx : x ∈ l := by rw [e]; exact List.mem_append_right _ (List.mem_cons_self ..)
    have hr := cls_range (hi.st hx).size
    refine ⟨hx, (cls x.size).toNat, by omega, by omega, ?_⟩
    intro hm
    obtain ⟨y, hy, e3, _⟩ := mem_listsOf.1 hm
    have hp := tlp_pair (walk_iff.1 h).2.1
    rw [e] at hp
    have := (List.pairwise_append.1 hp).2.2 y hy x (List.mem_cons_self ..)
    have := (hi.st (by rw [e]; exact List.mem_append_left _ hy)).s1
    omega
  have main : ∀ (n : Nat) {d r : List Blk}, d.length = n → l = d ++ r → Inv (putAll d (wiped b)) l (listsOf d) ∧ (putAll d (wiped b)).length = b.length ∧ (∀ y ∈ l, y.used = true → ∀ i : Nat, y.off ≤ i → (i : Int) < y.off + y.size → (putAll d (wiped b))[i]? = b[i]?) := by
    intro n
    induction n with
    | zero =>
      intro d r hn e
      obtain rfl := List.eq_nil_of_length_eq_zero hn
      refine ⟨inv_wiped h hl, wiped_length (walk_iff.1 h).1, fun y hy hu i h1 h2 => wiped_get i ?_⟩
      have := (walk_mem h hy).2.lo
      omega
    | succ n ih =>
      intro d r hn e
      obtain ⟨d', x, rfl⟩ : ∃ d' x, d = d' ++ [x] := ⟨d.dropLast, d.getLast (fun e => by subst e; simp at hn), (List.dropLast_concat_getLast _).symm⟩
      have e' : l = d' ++ (x :: r) := by rw [e, List.append_assoc]; rfl
      obtain ⟨i1, i2, i3⟩ := ih (by simpa using hn) e'
      rw [putAll_append]
      cases hu : x.used with
      | true =>
        have e1 : putAll [x] (putAll d' (wiped b)) = putAll d' (wiped b) := by simp [putAll, hu]
        rw [e1]
        refine ⟨i1.ext fun c _ => ?_, i2, i3⟩
        unfold listsOf
        rw [List.filter_append]
        simp [hu]
      | false =>
        obtain ⟨hx, c, hc, hcx, hno⟩ := key e' i1 x r rfl hu
        obtain ⟨b', hb', j1, j2, j3⟩ := i1.put hx hu hcx hc hno
        have e1 : putAll [x] (putAll d' (wiped b)) = b' := by simp [putAll, hu, hb']
        rw [e1]
        refine ⟨j1.ext fun d hd' => ?_, by omega, fun y hy hyu i h1 h2 => (j3 y hy hyu i h1 h2).trans (i3 y hy hyu i h1 h2)⟩
        have hun : listsOf (d' ++ [x]) d = if cls x.size = (d : Int) then x.off :: listsOf d' d else listsOf d' d := by
          unfold listsOf
          rw [List.filter_append]
          split
          · rename_i hh; simp [hu, hh]
          · rename_i hh; simp [hu, hh]
        rw [hun]
        by_cases ed : d = c
        · subst ed; rw [upd_self, if_pos hcx]
        · rw [upd_ne _ _ ed, if_neg (by omega)]
  obtain ⟨m1, m2, m3⟩ := main _ rfl e
  refine ⟨m1, m2, m3, fun x r e2 hu => ?_⟩
  obtain ⟨hx, c, hc, hcx, hno⟩ := key e m1 x r e2 hu
  obtain ⟨b', hb', _⟩ := m1.put hx hu hcx hc hno
  exact ⟨b', hb'⟩
theorem rebuild_inv {b : List UInt8} {l : List Blk} (h : walk b = some l) (hl : b.length ≤ 16384) :
    ∃ b', rebuild b = some b' ∧ Inv b' l (listsOf l) ∧ b'.length = b.length ∧ (∀ y ∈ l, y.used = true → ∀ i : Nat, y.off ≤ i → (i : Int) < y.off + y.size → b'[i]? = b[i]?) := by
  obtain ⟨h1, h2, h3, _⟩ := putAll_inv (rest := []) h hl (List.append_nil l).symm
  exact ⟨_, by unfold rebuild; rw [h]; rfl, h1, h2, h3⟩
end Cantle
namespace Go.Proofs.Ytnldmhljggcnpaa
set_option linter.unusedSimpArgs false
set_option linter.unusedVariables false
open Go.RowKit
theorem hid {p : Prop} (h : p) : RowKit.Hid p := h
theorem maxLen_le {n : Nat} (h : n ≤ maxLen) : n ≤ 9223372036854775807 := by unfold maxLen at h; omega
structure Keep (S : Nat → Prop) (w w' : World) : Prop where
  os : w'.os = w.os
  tape : w'.tape = w.tape
  output : w'.output = w.output
  size : w.heap.size ≤ w'.heap.size
  block : ∀ i, i < w.heap.size → ¬ S i → w'.heap[i]? = w.heap[i]?
def No : Nat → Prop := fun _ => False
theorem Keep.refl (S : Nat → Prop) (w : World) : Keep S w w := ⟨rfl, rfl, rfl, Nat.le_refl _, fun _ _ _ => rfl⟩
theorem Keep.trans {S : Nat → Prop} {a b c : World} (h : Keep S a b) (k : Keep S b c) : Keep S a c :=
  ⟨k.os.trans h.os, k.tape.trans h.tape, k.output.trans h.output, Nat.le_trans h.size k.size, fun i hi hs => (k.block i (Nat.lt_of_lt_of_le hi h.size) hs).trans (h.block i hi hs)⟩
theorem Keep.mono {S S' : Nat → Prop} {a b : World} (h : Keep S a b) (hs : ∀ i, i < a.heap.size → S i → S' i) : Keep S' a b :=
  ⟨h.os, h.tape, h.output, h.size, fun i hi hn => h.block i hi (fun q => hn (hs i hi q))⟩
theorem Keep.then {S S' : Nat → Prop} {a b c : World} (h : Keep S a b) (k : Keep S' b c) (hs : ∀ i, i < a.heap.size → S' i → S i) : Keep S a c :=
  ⟨k.os.trans h.os, k.tape.trans h.tape, k.output.trans h.output, Nat.le_trans h.size k.size,
    fun i hi hn => (k.block i (Nat.lt_of_lt_of_le hi h.size) (fun q => hn (hs i hi q))).trans (h.block i hi hn)⟩
theorem Keep.no {S : Nat → Prop} {a b : World} (h : Keep No a b) : Keep S a b := h.mono fun _ _ q => q.elim
theorem Keep.thenNo {S : Nat → Prop} {a b c : World} (h : Keep S a b) (k : Keep No b c) : Keep S a c := h.then k (fun _ _ q => q.elim)
theorem Keep.ofBelow {a b : World} (h : Below a.heap.size a b) : Keep No a b := ⟨h.os, h.tape, h.output, h.size, fun i hi _ => h.block i hi⟩
theorem Keep.toBelow {a b : World} (h : Keep No a b) : Below a.heap.size a b := ⟨h.os, h.tape, h.output, h.size, fun i hi => h.block i hi (fun q => q)⟩
theorem Keep.below {B : Nat} {S : Nat → Prop} {w0 a b : World} (h0 : Below B w0 a) (h : Keep S a b) (hB : B ≤ a.heap.size) (hs : ∀ i, S i → B ≤ i) : Below B w0 b :=
  h0.trans ⟨h.os, h.tape, h.output, h.size, fun i hi => h.block i (by omega) (fun q => by have := hs i q; omega)⟩
theorem Keep.alloc (S : Nat → Prop) (w : World) (o : Obj) : Keep S w (w.alloc o) := ⟨rfl, rfl, rfl, by simp, fun i hi _ => Below.heap_alloc _ _ _ hi⟩
theorem Keep.drew (S : Nat → Prop) (w : World) : Keep S w w.drew := ⟨rfl, rfl, rfl, Nat.le_refl _, fun _ _ _ => rfl⟩
theorem Keep.drewN (S : Nat → Prop) (w : World) (n : Nat) : Keep S w (w.drewN n) := ⟨rfl, rfl, rfl, Nat.le_refl _, fun _ _ _ => rfl⟩
theorem Keep.setCell {S : Nat → Prop} (w : World) (a : Addr) (v : Value) (h : S a.block) : Keep S w (w.setCell a v) :=
  ⟨rfl, rfl, rfl, by simp [World.setCell], fun i _ hs => Below.heap_setCell _ _ _ _ (fun e => hs (e ▸ h))⟩
theorem Keep.setRow {S : Nat → Prop} (w : World) (g : Nat) (c : Array Value) (h : S g) : Keep S w (w.setRow g c) :=
  ⟨rfl, rfl, rfl, by simp [World.setRow], fun i _ hs => setRow_other w g i c (fun e => hs (e ▸ h))⟩
theorem Keep.grown {S : Nat → Prop} {w w' : World} {row : Option Nat} (h : w.grownBy w' row) (hr : ∀ k, row = some k → S k) : Keep S w w' :=
  ⟨h.os, h.tape, h.output, h.size, fun i hi hs => h.block i hi (fun e => hs (hr i e.symm))⟩
theorem Keep.cell {S : Nat → Prop} {w w' : World} (h : Keep S w w') {a : Addr} {v : Value} (hs : ¬ S a.block) (hc : w.cell? a = some v) : w'.cell? a = some v :=
  (World.cell?_of_block (h.block a.block (World.block_lt_of_cell? w a hc) hs)).trans hc
theorem Keep.heap {S : Nat → Prop} {w w' : World} (h : Keep S w w') {i : Nat} {o : Obj} (hs : ¬ S i) (hc : w.heap[i]? = some o) : w'.heap[i]? = some o :=
  (h.block i (Array.getElem?_eq_some_iff.1 hc).1 hs).trans hc
theorem Keep.owns {S : Nat → Prop} {w w' : World} (h : Keep S w w') {base : Nat} {e : TypeId} {size n : Nat} {v : Value} {xs : List Value}
    (hs : ∀ k, v.ownBlock = some k → ¬ S k) (ho : w.ownsRow base e size v n xs) : w'.ownsRow base e size v n xs := by
  refine ⟨ho.1, ?_⟩
  rcases ho.2 with hn | ⟨g, cap, cur, rfl, hb, hg, r⟩
  · exact .inl hn
  · exact .inr ⟨g, cap, cur, rfl, hb, h.heap (hs g (by simp [Value.ownBlock])) hg, r⟩
theorem cell_blk {w : World} {g : Nat} {cs : Array Value} {e : TypeId} {f : Nat × Nat} (h : w.heap[g]? = some (.cells cs e f)) (o : Nat) : w.cell? ⟨g, o, none⟩ = cs[o]? := by
  simp [World.cell?, h]
theorem frozen_blk {w : World} {g : Nat} {cs : Array Value} {e : TypeId} (h : w.heap[g]? = some (.cells cs e (0, 0))) (o : Nat) : w.frozen? ⟨g, o, none⟩ = false := by
  simp [World.frozen?, h]
theorem lt_blk {w : World} {g : Nat} {o : Obj} (h : w.heap[g]? = some o) : g < w.heap.size := (Array.getElem?_eq_some_iff.1 h).1
theorem addr_add (g o j : Nat) : (⟨g, o, none⟩ : Addr).add j = ⟨g, o + j, none⟩ := by unfold Addr.add; split <;> simp_all
theorem setCell_blk {w : World} {g : Nat} {cs : Array Value} {e : TypeId} {f : Nat × Nat} (h : w.heap[g]? = some (.cells cs e f)) (o : Nat) (v : Value) :
    (w.setCell ⟨g, o, none⟩ v).heap[g]? = some (.cells (cs.setIfInBounds o v) e f) := by
  simp [World.setCell, Array.getElem?_modify, h]
def Rd (w : World) (F : Nat → Prop) (v : Value) (n : Nat) (cs : List Value) : Prop :=
  ∃ A cap, v = .slice A n cap ∧ n ≤ cap ∧ cap ≤ 9223372036854775807 ∧ (cs ≠ [] → ∃ b o, A = some ⟨b, o, none⟩ ∧ F b ∧ b < w.heap.size ∧ ∀ j u, cs[j]? = some u → w.cell? ⟨b, o + j, none⟩ = some u)
theorem Rd.keep {S F : Nat → Prop} {w w' : World} {v : Value} {n : Nat} {cs : List Value} (h : Rd w F v n cs) (k : Keep S w w') (hs : ∀ i, F i → ¬ S i) : Rd w' F v n cs := by
  obtain ⟨A, cap, rfl, h1, h2, h3⟩ := h
  refine ⟨A, cap, rfl, h1, h2, fun hn => ?_⟩
  obtain ⟨b, o, e, hF, hb, hc⟩ := h3 hn
  exact ⟨b, o, e, hF, Nat.lt_of_lt_of_le hb k.size, fun j u hj => k.cell (hs b hF) (hc j u hj)⟩
theorem Rd.keepNo {F : Nat → Prop} {w w' : World} {v : Value} {n : Nat} {cs : List Value} (h : Rd w F v n cs) (k : Keep No w w') : Rd w' F v n cs := h.keep k (fun _ _ q => q)
theorem Rd.mono {F F' : Nat → Prop} {w : World} {v : Value} {n : Nat} {cs : List Value} (h : Rd w F v n cs) (hf : ∀ i, i < w.heap.size → F i → F' i) : Rd w F' v n cs := by
  obtain ⟨A, cap, rfl, h1, h2, h3⟩ := h
  refine ⟨A, cap, rfl, h1, h2, fun hn => ?_⟩
  obtain ⟨b, o, e, hF, hb, hc⟩ := h3 hn
  exact ⟨b, o, e, hf b hb hF, hb, hc⟩
theorem Rd.nil (w : World) (F : Nat → Prop) : Rd w F (.slice none 0 0) 0 [] := ⟨none, 0, rfl, Nat.le_refl _, by omega, fun h => absurd rfl h⟩
theorem Rd.ofOwn {w : World} {base : Nat} {e : TypeId} {size n : Nat} {v : Value} {xs : List Value} (h : w.ownsRow base e size v n xs) : Rd w (fun i => v.ownBlock = some i) v n xs := by
  rcases h.2 with ⟨rfl, rfl⟩ | ⟨g, cap, cur, rfl, hb, hg, h1, h2, h3, h4⟩
  · have : xs = [] := List.eq_nil_of_length_eq_zero (by simpa using h.1)
    subst this
    exact ⟨none, 0, rfl, Nat.le_refl _, by omega, fun h => absurd rfl h⟩
  · refine ⟨some ⟨g, 0, none⟩, cap, rfl, h1, by unfold maxLen at h2; omega, fun _ => ⟨g, 0, rfl, rfl, lt_blk hg, fun j u hj => ?_⟩⟩
    have := h.cells (g := g) rfl j u hj
    rwa [addr_add] at this
theorem Rd.cells {w : World} {F : Nat → Prop} {v : Value} {n : Nat} {cs : List Value} (h : Rd w F v n cs) (hn : 0 < cs.length) :
    ∃ b o cap, v = .slice (some ⟨b, o, none⟩) n cap ∧ n ≤ cap ∧ cap ≤ 9223372036854775807 ∧ F b ∧ b < w.heap.size ∧ ∀ j u, cs[j]? = some u → w.cell? ⟨b, o + j, none⟩ = some u := by
  obtain ⟨A, cap, rfl, h1, h2, h3⟩ := h
  obtain ⟨b, o, rfl, hF, hb, hc⟩ := h3 (List.ne_nil_of_length_pos hn)
  exact ⟨b, o, cap, rfl, h1, h2, hF, hb, hc⟩
def byteV (x : UInt8) : Value := .int .u8 (x.toNat : Int)
def bv (l : List UInt8) : List Value := l.map byteV
theorem bv_length (l : List UInt8) : (bv l).length = l.length := by simp [bv]
theorem bv_append (a b : List UInt8) : bv (a ++ b) = bv a ++ bv b := by simp [bv]
theorem bv_one (l : List UInt8) : ∀ u ∈ bv l, u.oneCell' = true := by
  intro u hu
  simp only [bv, List.mem_map] at hu
  obtain ⟨x, _, rfl⟩ := hu
  rfl
theorem bv_get? (l : List UInt8) (j : Nat) (h : j < l.length) : (bv l)[j]? = some (.int .u8 ((l[j]).toNat : Int)) := by
  rw [bv, List.getElem?_map, List.getElem?_eq_getElem h]; rfl
theorem bv_get (l : List UInt8) (j : Nat) (h : j < (bv l).length) : (bv l)[j] = .int .u8 ((l[j]'(by simpa [bv] using h)).toNat : Int) := by simp [bv, byteV]
def errV : Nat → Value
  | 0 => .nilIface
  | n + 1 => .iface 136 (.int .i64 ((n + 1 : Nat) : Int))
structure ArS where
  base : Nat
  cap : Nat
  b : List UInt8
def Fp (p : Nat) (V : Value) : Nat → Prop := fun i => i = p ∨ V.ownBlock = some i
structure Ar (w : World) (p : Nat) (V : Value) (s : ArS) : Prop where
  hp : w.heap[p]? = some (.cells #[.int .u64 (s.base : Int), .int .i64 (s.cap : Int), V] 188 (0, 0))
  hq : w.ownsRow 0 5 1 V s.b.length (bv s.b)
  ne : V.ownBlock ≠ some p
  base_le : s.base ≤ 2 ^ 62
  cap_le : s.cap ≤ 16384
  len_le : s.b.length ≤ s.cap
theorem Ar.keep {S : Nat → Prop} {w w' : World} {p : Nat} {V : Value} {s : ArS} (h : Ar w p V s) (k : Keep S w w') (hs : ∀ i, Fp p V i → ¬ S i) : Ar w' p V s :=
  ⟨k.heap (hs p (.inl rfl)) h.hp, k.owns (fun i hi => hs i (.inr hi)) h.hq, h.ne, h.base_le, h.cap_le, h.len_le⟩
theorem Ar.keepNo {w w' : World} {p : Nat} {V : Value} {s : ArS} (h : Ar w p V s) (k : Keep No w w') : Ar w' p V s := h.keep k (fun _ _ q => q)
theorem Ar.c0 {w : World} {p : Nat} {V : Value} {s : ArS} (h : Ar w p V s) : w.cell? ⟨p, 0, none⟩ = some (.int .u64 (s.base : Int)) := (cell_blk h.hp 0).trans rfl
theorem Ar.c1 {w : World} {p : Nat} {V : Value} {s : ArS} (h : Ar w p V s) : w.cell? ⟨p, 1, none⟩ = some (.int .i64 (s.cap : Int)) := (cell_blk h.hp 1).trans rfl
theorem Ar.c2 {w : World} {p : Nat} {V : Value} {s : ArS} (h : Ar w p V s) : w.cell? ⟨p, 2, none⟩ = some V := (cell_blk h.hp 2).trans rfl
theorem Ar.fz {w : World} {p : Nat} {V : Value} {s : ArS} (h : Ar w p V s) (o : Nat) : w.frozen? ⟨p, o, none⟩ = false := frozen_blk h.hp o
theorem Ar.lt {w : World} {p : Nat} {V : Value} {s : ArS} (h : Ar w p V s) : ∀ i, Fp p V i → i < w.heap.size := by
  intro i hi
  rcases hi with rfl | hi
  · exact lt_blk h.hp
  · exact (h.hq.lt i hi).2
theorem Ar.form {w : World} {p : Nat} {V : Value} {s : ArS} (h : Ar w p V s) : ∃ A cap, V = .slice A s.b.length cap ∧ s.b.length ≤ cap := by
  rcases h.hq.2 with ⟨rfl, h0⟩ | ⟨g, cap, cur, rfl, _, _, h1, _⟩
  · exact ⟨none, 0, by rw [h0], by omega⟩
  · exact ⟨_, _, rfl, h1⟩
def zb (n : Nat) : Array Value := (bv (List.replicate n 0)).toArray
theorem zb_size (n : Nat) : (zb n).size = n := by simp [zb, bv]
theorem info_u8 : (Try.prog.info? 5).map (fun i => (i.zero, i.size, i.bytes)) = some (some (.int .u8 0), 1, 1) := by kernel_rfl
theorem info_int : (Try.prog.info? 3).map (fun i => (i.zero, i.size, i.bytes)) = some (some (.int .i64 0), 1, 8) := by kernel_rfl
theorem mk_bytes (n : Nat) (hn : n ≤ 281474976710656) (w : World) :
    (Instr.makeSlice 24 (.int .i64 (n : Int)) (.int .i64 (n : Int))).run Try.prog w = .ok (.slice (some ⟨w.heap.size, 0, none⟩) n n) (w.alloc (.cells (zb n) 5)) := by
  obtain ⟨i0, hi, hz0, hz1, hz2⟩ := info_parts info_u8
  have hr := run_make (P := Try.prog) w 24 5 i0 (.int .u8 0) Try.underlying24 hi hz0 .i64 .i64 n n (by omega) (Int.le_refl _) (by rw [hz2]; omega) (by omega)
  have e : madeCells (Value.cells (.int .u8 0)) n = zb n := by
    apply Array.toList_inj.1
    show (madeCells #[_] n).toList = _
    rw [toList_madeCells_one, zb, bv, List.map_replicate]
    rfl
  rw [hr, hz1, Int.toNat_natCast, Nat.mul_one, e]
theorem owns_alloc (w : World) (base : Nat) (hb : base ≤ w.heap.size) (e : TypeId) (cs : Array Value) (n : Nat) (hn : cs.size = n) (hm : n ≤ maxLen) :
    (w.alloc (.cells cs e)).ownsRow base e 1 (.slice (some ⟨w.heap.size, 0, none⟩) n n) n cs.toList :=
  ⟨by simp [hn], .inr ⟨w.heap.size, n, cs, rfl, hb, heap_alloc_new w _, Nat.le_refl _, hm, by rw [Nat.mul_one]; exact hn, by rw [Nat.mul_one, ← hn, ← Array.length_toList]; exact List.take_length⟩⟩
theorem keep_alloc (w : World) (o : Obj) : Keep No w (w.alloc o) := Keep.alloc _ _ _
structure NewB (w w' : World) (v : Value) (l : List UInt8) : Prop where
  keep : Keep No w w'
  own : w'.ownsRow w.heap.size 5 1 v l.length (bv l)
theorem NewB.rd {w w' : World} {v : Value} {l : List UInt8} (h : NewB w w' v l) : Rd w' (fun i => w.heap.size ≤ i) v l.length (bv l) :=
  (Rd.ofOwn h.own).mono fun i _ hi => (h.own.lt i hi).1
theorem newB_alloc (w : World) (cs : Array Value) (l : List UInt8) (h : cs.toList = bv l) (hm : l.length ≤ maxLen) :
    NewB w (w.alloc (.cells cs 5)) (.slice (some ⟨w.heap.size, 0, none⟩) l.length l.length) l := by
  have hs : cs.size = l.length := by rw [← Array.length_toList, h, bv_length]
  refine ⟨keep_alloc _ _, ?_⟩
  rw [← h]
  exact owns_alloc w _ (Nat.le_refl _) _ cs l.length hs hm
theorem append_none {P : Program} (w : World) (base : Nat) (t ty e : TypeId) (i : TypeInfo) (size : Nat) (ht : P.underlying t = some (.slice e)) (hi : P.info? e = some i)
    (v : Value) (n : Nat) (xs : List Value) (hown : w.ownsRow base e size v n xs) (c : Nat) :
    (Builtin.append_ #[t, t] ty #[v, .slice none 0 c]).run P w = .ok v w := by
  rcases hown.2 with ⟨rfl, rfl⟩ | ⟨g, cap, cur, rfl, _, _, hnc, _⟩
  · simp [Builtin.append_, run_underlying ht, sizeOf, typeInfo, hi, Builtin.lenOf, Builtin.firstCells]
  · simp [Builtin.append_, run_underlying ht, sizeOf, typeInfo, hi, Builtin.lenOf, Builtin.firstCells, hnc, storeCells]
structure App (w w' : World) (base : Nat) (e : TypeId) (size : Nat) (v v' : Value) (n : Nat) (xs : List Value) : Prop where
  own : w'.ownsRow base e size v' n xs
  keep : Keep (fun i => v.ownBlock = some i) w w'
  lies : ∀ k, v'.ownBlock = some k → v.ownBlock = some k ∨ w.heap.size ≤ k
theorem append_own {P : Program} (w : World) (base : Nat) (t ty e : TypeId) (i : TypeInfo) (z : Value) (size bytes : Nat) (ht : P.underlying t = some (.slice e)) (hi : P.info? e = some i) (hz : i.zero = some z)
    (hsize : i.size = size) (hby : i.bytes = bytes) (hzs : z.cells.size = size) (hsz : 0 < size)
    (v : Value) (n : Nat) (xs : List Value) (hown : w.ownsRow base e size v n xs) (F : Nat → Prop) (x : Value) (m : Nat) (news : List Value) (hx : Rd w F x m news) (hl : news.length = m * size) (h1 : ∀ u ∈ news, u.oneCell' = true)
    (h63 : n + m ≤ maxLen) (hbytes : (n + m) * bytes ≤ 140737488355328) (hbase : base ≤ w.heap.size) :
    ∃ v' w', (Builtin.append_ #[t, t] ty #[v, x]).run P w = .ok v' w' ∧ App w w' base e size v v' (n + m) (xs ++ news) := by
  obtain ⟨A, cap, rfl, hc1, hc2, hc3⟩ := hx
  cases A with
  | none =>
    have hn : news = [] := by
      by_cases h : news = []
      · exact h
      · obtain ⟨b, o, h, _⟩ := hc3 h; cases h
    subst hn
    obtain rfl : m = 0 := by
      rcases Nat.mul_eq_zero.1 hl.symm with h | h
      · exact h
      · omega
    refine ⟨v, w, append_none w base t ty e i size ht hi v n xs hown cap, ?_, Keep.refl _ _, fun k h => .inl h⟩
    rwa [List.append_nil]
  | some a =>
    have hnews : ∀ j u, news[j]? = some u → w.cell? (a.add j) = some u := by
      intro j u hu
      have hne : news ≠ [] := by intro h; subst h; simp at hu
      obtain ⟨b, o, he, _, _, hc⟩ := hc3 hne
      obtain rfl := Option.some.inj he
      rw [addr_add]; exact hc j u hu
    obtain ⟨v', w', hr, h2, h3, _, h5⟩ := run_append_own_at (P := P) w base t ty e i z size bytes ht hi hz hsize hby hzs hsz v n xs hown a m cap news hl hnews h1 h63 hbytes hbase
    refine ⟨v', w', hr, h2, Keep.grown h3 (fun k h => h), fun k hk => ?_⟩
    rcases h5 with h5 | h5
    · rw [h5] at hk; exact .inl hk
    · rw [h5] at hk
      have := Option.some.inj hk
      exact .inr (by omega)
def OwnB (w : World) (v : Value) (l : List UInt8) : Prop := w.ownsRow 0 5 1 v l.length (bv l)
theorem append_bytes {w : World} {v : Value} {l : List UInt8} (ho : OwnB w v l) {F : Nat → Prop} {x : Value} {l2 : List UInt8} (hx : Rd w F x l2.length (bv l2)) (hm : l.length + l2.length ≤ 140737488355328) (ty : TypeId) :
    ∃ v' w', (Builtin.append_ #[24, 24] ty #[v, x]).run Try.prog w = .ok v' w' ∧ OwnB w' v' (l ++ l2) ∧ Keep (fun i => v.ownBlock = some i) w w' ∧ (∀ k, v'.ownBlock = some k → v.ownBlock = some k ∨ w.heap.size ≤ k) := by
  obtain ⟨i0, hi, hz0, hz1, hz2⟩ := info_parts info_u8
  obtain ⟨v', w', hr, h⟩ := append_own (P := Try.prog) w 0 24 ty 5 i0 (.int .u8 0) 1 1 Try.underlying24 hi hz0 hz1 hz2 rfl (by decide) v _ _ ho F x _ _ hx (by rw [bv_length, Nat.mul_one]) (bv_one _) (by unfold maxLen; omega) (by omega) (Nat.zero_le _)
  refine ⟨v', w', hr, ?_, h.keep, h.lies⟩
  have := h.own
  unfold OwnB
  rwa [bv_append, List.length_append]
theorem OwnB.rd {w : World} {v : Value} {l : List UInt8} (h : OwnB w v l) : Rd w (fun i => v.ownBlock = some i) v l.length (bv l) := Rd.ofOwn h
theorem OwnB.keep {S : Nat → Prop} {w w' : World} {v : Value} {l : List UInt8} (h : OwnB w v l) (k : Keep S w w') (hs : ∀ i, v.ownBlock = some i → ¬ S i) : OwnB w' v l := k.owns hs h
theorem OwnB.keepNo {w w' : World} {v : Value} {l : List UInt8} (h : OwnB w v l) (k : Keep No w w') : OwnB w' v l := h.keep k (fun _ _ q => q)
theorem OwnB.lt {w : World} {v : Value} {l : List UInt8} (h : OwnB w v l) : ∀ k, v.ownBlock = some k → k < w.heap.size := fun k hk => (World.ownsRow.lt h k hk).2
theorem OwnB.nil (w : World) : OwnB w (.slice none 0 0) [] := World.ownsRow_nil w 0 _ 1
theorem NewB.ownB {w w' : World} {v : Value} {l : List UInt8} (h : NewB w w' v l) : OwnB w' v l := by
  refine ⟨h.own.1, ?_⟩
  rcases h.own.2 with h | ⟨g, cap, cur, hv, _, r⟩
  · exact .inl h
  · exact .inr ⟨g, cap, cur, hv, Nat.zero_le _, r⟩
theorem NewB.ge {w w' : World} {v : Value} {l : List UInt8} (h : NewB w w' v l) : ∀ k, v.ownBlock = some k → w.heap.size ≤ k := fun k hk => (h.own.lt k hk).1
theorem step_append_run {P : Program} {ops : Array Oper} {o : Oper} {a : Act} {w : World} {K : Act → World → Prop} {Q : Exit → Act → World → Prop} {E : Prop} (hgd : o.guard = none) (s x : Operand) (t tn : TypeId)
    (ho : o.op = .call { callee := .builtin .append, args := #[s, x], argTypes := #[t, tn] }) (vs vx : Value) (hs : a.eval s = vs) (hx : a.eval x = vx)
    (v' : Value) (w' : World) (hr : (Builtin.append_ #[t, tn] o.type #[vs, vx]).run P w = .ok v' w') (h : K (a.put o.dst v') w') :
    if Region.wanted o (yielded ops a.tmps) = true then Oper.wp P o a w K Q else E := by
  rw [if_pos (by simp [Region.wanted, hgd])]
  exact Lib.wp_append_run w s x t tn ho vs vx hs hx v' w' hr h
end Go.Proofs.Ytnldmhljggcnpaa
namespace Go.Proofs.Ytnldmhljggcnpaa
set_option linter.unusedSimpArgs false
set_option linter.unusedVariables false
open Go.RowKit Cantle
theorem or_step {v x k : Nat} (hk : k < 8) (hv : v < 256 ^ k) (hx : x < 256) :
    bits .or .u64 (v : Int) (IntKind.u64.wrap (IntKind.u64.wrap (x : Int) * 2 ^ (8 * k))) = ((v + 256 ^ k * x : Nat) : Int) := by
  have e : (256 : Nat) ^ k = 2 ^ (8 * k) := by rw [Nat.pow_mul]
  have hb : x * 2 ^ (8 * k) < 2 ^ (8 * k + 8) := by rw [Nat.pow_add, Nat.mul_comm]; exact Nat.mul_lt_mul_of_pos_left hx (Nat.two_pow_pos _)
  have h64 : (2 : Nat) ^ (8 * k + 8) ≤ 18446744073709551616 := Nat.le_trans (Nat.pow_le_pow_right (by decide) (show 8 * k + 8 ≤ 64 by omega)) (by decide)
  have e1 : IntKind.u64.wrap (x : Int) = x := by rw [IntKind.wrap_u64]; omega
  have e2 : IntKind.u64.wrap ((x : Int) * 2 ^ (8 * k)) = ((x * 2 ^ (8 * k) : Nat) : Int) := by
    rw [IntKind.wrap_u64]
    have : ((x : Int) * 2 ^ (8 * k)) = ((x * 2 ^ (8 * k) : Nat) : Int) := by rw [Int.natCast_mul]; simp
    rw [this]; omega
  rw [e1, e2, u64_or_nat _ _ (by rw [e] at hv; exact Nat.lt_of_lt_of_le hv (Nat.le_trans (Nat.pow_le_pow_right (by decide) (show 8 * k ≤ 64 by omega)) (by decide))) (by omega)]
  congr 1
  rw [Nat.or_comm, nat_join (8 * k) _ _ (by simp) (by rw [← e]; exact hv), e]
  rw [Nat.add_comm, Nat.mul_comm]
set_option maxHeartbeats 400000 in
theorem word_get {w : World} {F : Nat → Prop} {v : Value} {l : List UInt8} (hr : Rd w F v l.length (bv l)) (at_ n : Nat) (hn : n ≤ 8) :
    Calls Try.prog 154 #[v, .int .u64 at_, .int .u64 n] w fun e w' =>
      e = .returned (if at_ + n ≤ l.length then .tuple #[.int .u64 (le ((l.drop at_).take n) : Nat), .bool true] else .tuple #[.int .u64 0, .bool false]) ∧ w = w' := by
  by_cases hlt : at_ + n ≤ l.length
  · rw [if_pos hlt]
    by_cases h0 : l.length = 0
    · obtain ⟨A, cap, rfl, h1, h2, h3⟩ := hr
      obtain rfl : l = [] := List.eq_nil_of_length_eq_zero h0
      obtain rfl : at_ = 0 := by simp at hlt; omega
      obtain rfl : n = 0 := by simp at hlt; omega
      clear h3 h0 hlt hn
      simp only [List.length_nil]
      go_enter Try.func154, Try.ntmps154
      go_wp2
      go_loop [9, 25] (fun v i => v = .int .u64 0 ∧ i = .int .u64 0) (fun _ i => 0)
      case atStart => exact ⟨rfl, rfl⟩
      case round =>
        obtain ⟨rfl, rfl⟩ := hrel
        go_wp2
        go_ret2
        exact ⟨rfl, rfl⟩
    obtain ⟨b, o, cap, rfl, h1, h2, hF, hb, hc⟩ := hr.cells (by simp [bv]; omega)
    have hlen : l.length ≤ 9223372036854775807 := by omega
    have hc2 : ¬ ((l.length : Int) < at_) := by omega
    have hc3 : ¬ ((l.length : Int) - at_ < n) := by omega
    generalize hL : l.length = len at *
    have HL := hid hL
    clear hL h0 h1 h2
    go_enter Try.func154, Try.ntmps154
    go_wp2
    go_loop [9, 25] (fun v i => ∃ k : Nat, k ≤ n ∧ i = .int .u64 k ∧ v = .int .u64 (le ((l.drop at_).take k) : Nat)) (fun _ i => n - (intOf i).toNat)
    case atStart => exact ⟨0, by omega, rfl, rfl⟩
    case round =>
      obtain ⟨k, hk, rfl, rfl⟩ := hrel
      by_cases hlt2 : k < n
      · have hj : at_ + k < l.length := by rw [HL.out]; omega
        have hcc : w.cell? ⟨b, o + (at_ + k), none⟩ = some (.int .u8 ((l[at_ + k]'hj).toNat : Int)) := hc _ _ (bv_get? l _ hj)
        have hst := or_step (v := le ((l.drop at_).take k)) (x := (l[at_ + k]'hj).toNat) (k := k) (by omega) (by have := le_lt ((l.drop at_).take k); rwa [List.length_take, Nat.min_eq_left (by rw [List.length_drop]; omega)] at this) (l[at_ + k]'hj).toNat_lt
        have hst2 : le ((l.drop at_).take (k + 1)) = le ((l.drop at_).take k) + 256 ^ k * (l[at_ + k]'hj).toNat := by
          rw [le_take_succ _ k (by rw [List.length_drop]; omega), List.getElem_drop]
        rw [← hst2] at hst
        clear hst2
        generalize le ((l.drop at_).take k) = X at *
        generalize (l[at_ + k]'hj).toNat = Y at *
        have HST := hid hst
        clear hst
        go_wp2
        refine ⟨⟨k + 1, by omega, rfl, ?_⟩, ?_⟩
        · rw [HST.out]
        · simp [intOf]; omega
      · obtain rfl : k = n := by omega
        go_wp2
        go_ret2
        exact ⟨rfl, rfl⟩
  · rw [if_neg hlt]
    obtain ⟨A, cap, rfl, h1, h2, h3⟩ := hr
    clear h3
    generalize l.length = len at *
    by_cases hlt1 : len < at_
    · go_enter Try.func154, Try.ntmps154
      go_wp2
      go_ret2
      exact ⟨rfl, rfl⟩
    · go_enter Try.func154, Try.ntmps154
      go_wp2
      go_ret2
      exact ⟨rfl, rfl⟩
end Go.Proofs.Ytnldmhljggcnpaa
namespace Go.Proofs.Ytnldmhljggcnpaa
set_option linter.unusedSimpArgs false
set_option linter.unusedVariables false
open Go.RowKit Cantle
def getV : Option Nat → Value
  | some v => .tuple #[.int .u64 (v : Int), .bool true]
  | none => .tuple #[.int .u64 0, .bool false]
def get4V : Option Nat → Value
  | some v => .tuple #[.int .u32 (v : Int), .bool true]
  | none => .tuple #[.int .u32 0, .bool false]
theorem word_getN {w : World} {F : Nat → Prop} {v : Value} {l : List UInt8} (hr : Rd w F v l.length (bv l)) (at_ n : Nat) (hn : n ≤ 8) :
    Calls Try.prog 154 #[v, .int .u64 at_, .int .u64 n] w fun e w' => e = .returned (getV (getN l at_ n)) ∧ w = w' :=
  (word_get hr at_ n hn).mono fun e w' ⟨h, hw⟩ => ⟨by rw [h]; unfold getN; split <;> rfl, hw⟩
set_option maxHeartbeats 400000 in
set_option maxRecDepth 100000 in
theorem word_Get {w : World} {F : Nat → Prop} {v : Value} {l : List UInt8} (hr : Rd w F v l.length (bv l)) (at_ : Nat) :
    Calls Try.prog 88 #[v, .int .u64 at_] w fun e w' => e = .returned (getV (getN l at_ 8)) ∧ w = w' := by
  have H := word_getN hr at_ 8 (by omega)
  cases h : getN l at_ 8 with
  | none =>
    rw [h] at H; clear h; simp only [getV] at H ⊢
    have H := hid H
    go_enter Try.func88, Try.ntmps88
    go_wp2_with fail
    refine (H.out).mono ?_; rintro e w' ⟨rfl, rfl⟩
    go_wp2
    go_ret2
    exact ⟨rfl, rfl⟩
  | some x =>
    rw [h] at H; clear h; simp only [getV] at H ⊢
    go_enter Try.func88, Try.ntmps88
    go_wp2_with fail
    refine H.mono ?_; rintro e w' ⟨rfl, rfl⟩
    go_wp2
    go_ret2
    exact ⟨rfl, rfl⟩
theorem shr_step {n k : Nat} (hk : k < 8) : IntKind.u8.wrap ((n : Int) / 2 ^ (8 * k)) = ((UInt8.ofNat (n / 256 ^ k % 256)).toNat : Int) := by
  have e : (256 : Nat) ^ k = 2 ^ (8 * k) := by rw [Nat.pow_mul]
  have : ((n : Int) / 2 ^ (8 * k)) = ((n / 2 ^ (8 * k) : Nat) : Int) := by rw [Int.natCast_ediv]; simp
  rw [IntKind.wrap_u8, this, e]
  simp
set_option maxHeartbeats 400000 in
set_option maxRecDepth 100000 in
theorem word_Put (n : Nat) (hn : n < 18446744073709551616) (w : World) :
    Calls Try.prog 93 #[.int .u64 n] w fun e w' => ∃ v, e = .returned v ∧ NewB w w' v (low 8 n) := by
  have hmk := fun w => mk_bytes 8 (by decide) w
  simp only [Int.cast_ofNat_Int] at hmk
  go_enter Try.func93, Try.ntmps93
  go_wp2
  go_loopw [4, 8] (fun u i wr => ∃ k : Nat, k ≤ 8 ∧ i = .int .i64 k ∧ ∃ cs : Array Value, wr = w.alloc (.cells cs 5) ∧ cs.size = 8 ∧ ∀ j, j < k → cs[j]? = some (byteV (UInt8.ofNat (n / 256 ^ j % 256)))) (fun _ i _ => 8 - (intOf i).toNat)
  case atStart => exact ⟨0, by omega, rfl, _, rfl, rfl, fun j h => by omega⟩
  case round =>
    obtain ⟨k, hk, rfl, cs, rfl, hcs, hj⟩ := hrel
    have HJ := hid hj
    have HC := hid hcs
    clear hj hcs
    by_cases hlt : k < 8
    · have hlt2 : k < cs.size := by rw [HC.out]; exact hlt
      have HS := hid (shr_step (n := n) hlt)
      go_wp2
      refine ⟨⟨k + 1, by omega, rfl, _, rfl, by rw [Array.size_setIfInBounds]; exact HC.out, fun j hj => ?_⟩, by simp [intOf]; omega⟩
      by_cases e : j = k
      · subst e
        rw [Array.getElem?_setIfInBounds_self_of_lt hlt2, byteV, ← HS.out, IntKind.wrap_u8]
      · rw [Array.getElem?_setIfInBounds_ne (by omega)]
        exact HJ.out j (by omega)
    · obtain rfl : k = 8 := by omega
      go_wp2
      go_ret
      refine ⟨_, rfl, ?_⟩
      refine newB_alloc w cs (low 8 n) ?_ (by rw [low_length]; decide)
      apply List.ext_getElem
      · rw [Array.length_toList, HC.out, bv_length, low_length]
      · intro j h1 h2
        rw [bv_length, low_length] at h2
        have := HJ.out j h2
        rw [Array.getElem?_eq_getElem (by rw [HC.out]; exact h2)] at this
        rw [Array.getElem_toList, Option.some.inj this, bv_get, low_get]
        rfl
set_option maxHeartbeats 400000 in
set_option maxRecDepth 100000 in
theorem word_Get4 {w : World} {F : Nat → Prop} {v : Value} {l : List UInt8} (hr : Rd w F v l.length (bv l)) (at_ : Nat) :
    Calls Try.prog 152 #[v, .int .u64 at_] w fun e w' => e = .returned (get4V (getN l at_ 4)) ∧ w = w' := by
  have H := word_getN hr at_ 4 (by omega)
  cases h : getN l at_ 4 with
  | none =>
    rw [h] at H; clear h; simp only [getV, get4V] at H ⊢
    go_enter Try.func152, Try.ntmps152
    go_wp2_with fail
    refine H.mono ?_; rintro e w' ⟨rfl, rfl⟩
    go_wp2
    go_ret2
    exact ⟨rfl, rfl⟩
  | some x =>
    rw [h] at H
    have hx : x < 4294967296 := by
      unfold getN at h
      split at h
      · obtain rfl := Option.some.inj h
        refine Nat.lt_of_lt_of_le (le_lt _) ?_
        rw [List.length_take]
        exact Nat.le_trans (Nat.pow_le_pow_right (by decide) (Nat.min_le_left 4 _)) (by decide)
      · cases h
    clear h; simp only [getV, get4V] at H ⊢
    go_enter Try.func152, Try.ntmps152
    go_wp2_with fail
    refine H.mono ?_; rintro e w' ⟨rfl, rfl⟩
    go_wp2
    go_ret2
    exact ⟨rfl, rfl⟩
set_option maxHeartbeats 400000 in
set_option maxRecDepth 100000 in
theorem word_Put4 (n : Nat) (hn : n < 4294967296) (w : World) :
    Calls Try.prog 155 #[.int .u32 n] w fun e w' => ∃ v, e = .returned v ∧ Keep No w w' ∧ Rd w' (fun i => w.heap.size ≤ i) v 4 (bv (low 4 n)) := by
  have hw : IntKind.u64.wrap (n : Int) = n := by rw [IntKind.wrap_u64]; omega
  go_enter Try.func155, Try.ntmps155
  go_wp2_with fail
  refine (word_Put n (by omega) w).mono ?_; rintro e w' ⟨v, rfl, h⟩
  obtain ⟨g, cap, cur, rfl, hb, hg, h1, h2, h3, h4⟩ := h.own.2.resolve_left (by rintro ⟨_, h0⟩; simp [low_length] at h0)
  have hm := maxLen_le h2
  simp only [low_length] at h1 h4 ⊢
  go_wp2
  go_ret
  refine ⟨_, rfl, h.keep, some ⟨g, 0, none⟩, 4, rfl, by omega, by omega, fun _ => ⟨g, 0, rfl, hb, lt_blk hg, fun j u hu => ?_⟩⟩
  have hj : j < 4 := by have := (List.getElem?_eq_some_iff.1 hu).1; rwa [bv_length, low_length] at this
  rw [cell_blk hg, Nat.zero_add]
  rw [← low_take 4 8 n (by omega), bv, List.map_take, List.getElem?_take, if_pos hj] at hu
  have e : (bv (low 8 n))[j]? = cur[j]? := by
    rw [← h4, List.getElem?_take, if_pos (by omega)]; simp
  rw [← e]; exact hu
end Go.Proofs.Ytnldmhljggcnpaa
namespace Go.Proofs.Ytnldmhljggcnpaa
set_option linter.unusedSimpArgs false
set_option linter.unusedVariables false
open Go.RowKit Cantle
def strOf (l : List UInt8) : ByteArray := ⟨l.toArray⟩
theorem strOf_inj {a b : List UInt8} (h : strOf a = strOf b) : a = b := by
  have := congrArg (fun x => x.data.toList) h
  simpa [strOf] using this
theorem strOf_data (l : List UInt8) : (strOf l).data.toList = l := by simp [strOf]
theorem strOf_size (l : List UInt8) : (strOf l).size = l.length := by simp [strOf, ByteArray.size]
theorem strOfNums_nat (l : List UInt8) : strOfNums (l.map fun x => (x.toNat : Int)) = strOf l := by
  unfold strOfNums strOf
  rw [List.map_map]
  congr 2
  conv => rhs; rw [← List.map_id l]
  apply List.map_congr_left
  intro x _
  simp
theorem conv_nums {w : World} {F : Nat → Prop} {v : Value} {l : List UInt8} (hr : Rd w F v l.length (bv l)) :
    (convert 24 9 v).run Try.prog w = .ok (.string (strOfNums (l.map fun x => (x.toNat : Int)))) w := by
  obtain ⟨A, cap, rfl, h1, h2, h3⟩ := hr
  by_cases h0 : l = []
  · subst h0
    cases A with
    | none => rw [run_convert_bytes_nil w 24 5 Try.underlying24 Try.underlying5 _ _ 9 Try.underlying9]; rfl
    | some a =>
      simp only [List.length_nil]
      rw [run_convert_bytes_string w 24 9 5 _ _ cap Try.underlying24 Try.underlying5 Try.underlying9,
        run_bytesToString w a 0 cap [] (by simp [loadCells, loadCellsFrom])]
      simp [strOfNums, ByteArray.empty, ByteArray.emptyWithCapacity]
      rfl
  · obtain ⟨b, o, rfl, _, _, hc⟩ := h3 (by intro h; exact h0 (by simpa [bv] using h))
    refine run_convert_bytes_arg w 24 5 Try.underlying24 Try.underlying5 b o _ cap _ (by simp) (fun i hi => ?_) 9 Try.underlying9
    rw [hc i _ (bv_get? l i hi)]
    simp [List.getD_eq_getElem?_getD, List.getElem?_map, List.getElem?_eq_getElem hi]
theorem conv_str {w : World} {F : Nat → Prop} {v : Value} {l : List UInt8} (hr : Rd w F v l.length (bv l)) :
    (convert 24 9 v).run Try.prog w = .ok (.string (strOf l)) w := by rw [conv_nums hr, strOfNums_nat]
theorem str_beq (a b : List UInt8) : ((strOf a).toList == (strOf b).toList) = decide (a = b) := by
  rw [Bool.eq_iff_iff]
  simp only [beq_iff_eq, decide_eq_true_eq]
  constructor
  · intro h
    have h2 : (strOf a).toList = (strOf b).toList := h
    have e : ∀ l : List UInt8, (strOf l).toList = l := fun l => (ByteArray.toList_eq _).trans (strOf_data l)
    rwa [e, e] at h2
  · rintro rfl; rfl
theorem bytes_Equal {w : World} {F G : Nat → Prop} {v u : Value} {a b : List UInt8} (ha : Rd w F v a.length (bv a)) (hb : Rd w G u b.length (bv b)) :
    Calls Try.prog 85 #[v, u] w fun e w' => e = .returned (.bool (decide (a = b))) ∧ w = w' :=
  (Try.bytes_Equal_strs v u _ _ w (conv_str ha) (conv_str hb)).mono fun e w' ⟨h1, h2⟩ => ⟨by rw [h1, str_beq], h2.symm⟩
theorem owns_empty (w : World) : OwnB (w.alloc (.cells #[] 5)) (.slice (some ⟨w.heap.size, 0, none⟩) 0 0) [] :=
  ⟨rfl, .inr ⟨w.heap.size, 0, #[], rfl, Nat.zero_le _, heap_alloc_new w _, Nat.le_refl _, by decide, rfl, rfl⟩⟩
structure NewO (w w' : World) (v : Value) (l : List UInt8) : Prop where
  keep : Keep No w w'
  own : OwnB w' v l
  ge : ∀ k, v.ownBlock = some k → w.heap.size ≤ k
theorem NewO.rd {w w' : World} {v : Value} {l : List UInt8} (h : NewO w w' v l) : Rd w' (fun i => w.heap.size ≤ i) v l.length (bv l) :=
  h.own.rd.mono fun i _ hi => h.ge i hi
theorem NewB.newO {w w' : World} {v : Value} {l : List UInt8} (h : NewB w w' v l) : NewO w w' v l := ⟨h.keep, h.ownB, h.ge⟩
set_option maxHeartbeats 400000 in
set_option maxRecDepth 100000 in
theorem bytes_Clone {w : World} {F : Nat → Prop} {v : Value} {l : List UInt8} (hr : Rd w F v l.length (bv l)) (hm : l.length ≤ 140737488355328) :
    Calls Try.prog 92 #[v] w fun e w' => ∃ v', e = .returned v' ∧ NewO w w' v' l := by
  have hr2 := hr
  obtain ⟨A, cap, rfl, h1, h2, h3⟩ := hr
  have hnil := fun w => Lib.run_eql_slice_nil (P := Try.prog) w 24 5 A l.length cap 0 0 Try.underlying24
  cases A with
  | none =>
    have hl : l = [] := by
      by_cases h : l = []
      · exact h
      · obtain ⟨b, o, e, _⟩ := h3 (by intro q; exact h (by simpa [bv] using q)); cases e
    subst hl
    clear h3 hr2
    simp only [List.length_nil, Option.isNone_none] at hnil ⊢
    go_enter Try.func92, Try.ntmps92
    go_wp2
    go_ret
    exact ⟨_, rfl, Keep.refl _ _, OwnB.nil w, fun k h => by simp [Value.ownBlock] at h⟩
  | some a =>
    clear h3
    simp only [Option.isNone_some] at hnil
    obtain ⟨v', w2, hrun, g1, g2, g3⟩ := append_bytes (owns_empty w) (hr2.keepNo (keep_alloc w _)) (by simpa using hm) 24
    go_enter Try.func92, Try.ntmps92
    go_wp2_with (at_builtin; refine Lib.wpList_append_run _ rfl (.tmp 5) (.tmp 6) 24 24 rfl _ _ rfl rfl _ _ hrun ?_)
    go_ret
    refine ⟨_, rfl, (keep_alloc w _).then g2 (fun i hi e => ?_), g1, fun k hk => ?_⟩
    · have : w.heap.size = i := Option.some.inj e
      omega
    · rcases g3 k hk with h | h
      · have : w.heap.size = k := Option.some.inj h
        omega
      · simp at h; omega
set_option maxHeartbeats 400000 in
set_option maxRecDepth 100000 in
theorem slices_Clone {w : World} {F : Nat → Prop} {v : Value} {l : List UInt8} (hr : Rd w F v l.length (bv l)) (hm : l.length ≤ 140737488355328) :
    Calls Try.prog 144 #[v] w fun e w' => ∃ v', e = .returned v' ∧ NewO w w' v' l := by
  have hr2 := hr
  obtain ⟨A, cap, rfl, h1, h2, h3⟩ := hr
  have hnil := fun w => Lib.run_eql_slice_nil (P := Try.prog) w 24 5 A l.length cap 0 0 Try.underlying24
  cases A with
  | none =>
    have hl : l = [] := by
      by_cases h : l = []
      · exact h
      · obtain ⟨b, o, e, _⟩ := h3 (by intro q; exact h (by simpa [bv] using q)); cases e
    subst hl
    clear h3 hr2
    simp only [List.length_nil, Option.isNone_none] at hnil ⊢
    go_enter Try.func144, Try.ntmps144
    go_wp2
    go_ret
    exact ⟨_, rfl, Keep.refl _ _, OwnB.nil w, fun k h => by simp [Value.ownBlock] at h⟩
  | some a =>
    clear h3
    simp only [Option.isNone_some] at hnil
    obtain ⟨v', w2, hrun, g1, g2, g3⟩ := append_bytes (owns_empty w) (hr2.keepNo (keep_alloc w _)) (by simpa using hm) 24
    go_enter Try.func144, Try.ntmps144
    go_wp2_with (at_builtin; refine Lib.wpList_append_run _ rfl (.tmp 5) (.tmp 6) 24 24 rfl _ _ rfl rfl _ _ hrun ?_)
    go_ret
    refine ⟨_, rfl, (keep_alloc w _).then g2 (fun i hi e => ?_), g1, fun k hk => ?_⟩
    · have : w.heap.size = i := Option.some.inj e
      omega
    · rcases g3 k hk with h | h
      · have : w.heap.size = k := Option.some.inj h
        omega
      · simp at h; omega
theorem lens_flatten (d : List (List UInt8)) : Lib.lens d = d.flatten.length := by
  simp [Lib.lens, List.length_flatten]
theorem join_nil (d : List (List UInt8)) : Lib.join d [] = d.flatten := by
  simp only [Lib.join]
  induction d with
  | nil => rfl
  | cons x d ih => cases d with
    | nil => simp [List.intercalate]
    | cons y d => simp [List.intercalate, List.intersperse] at ih ⊢; exact ih
theorem fresh_cells {w : World} {l : List UInt8} {g cap : Nat} {zs : List Int} (h1 : l.length ≤ cap) (h3 : zs.length = cap) (h4 : ∀ x ∈ zs, 0 ≤ x ∧ x < 256) (h5 : Lib.bytesOf (zs.take l.length) = l)
    (h6 : ∀ i, i < cap → w.cell? ⟨g, i, none⟩ = some (.int .u8 (zs.getD i 0))) (j : Nat) (u : Value) (hu : (bv l)[j]? = some u) : w.cell? ⟨g, j, none⟩ = some u := by
  have hj : j < l.length := by have := (List.getElem?_eq_some_iff.1 hu).1; rwa [bv_length] at this
  rw [bv_get? l j hj] at hu
  rw [h6 j (by omega), ← hu]
  have e : l[j]? = ((zs.take l.length).map fun n => UInt8.ofNat n.toNat)[j]? := by
    conv => lhs; rw [← h5]
    rfl
  rw [List.getElem?_map, List.getElem?_take, if_pos hj, List.getElem?_eq_getElem hj, List.getElem?_eq_getElem (by omega), Option.map_some] at e
  have hz := h4 (zs[j]'(by omega)) (List.getElem_mem _)
  rw [Option.some.inj e]
  simp [List.getD_eq_getElem?_getD, List.getElem?_eq_getElem (show j < zs.length by omega)]
  omega
theorem fresh_rd {B : Nat} {w : World} {v : Value} {l : List UInt8} (h : Lib.FreshBytes B w v l) : Rd w (fun i => B ≤ i) v l.length (bv l) := by
  obtain ⟨g, cap, zs, rfl, hB, h1, h2, h3, h4, h5, h6, h7⟩ := h
  refine ⟨_, cap, rfl, h1, maxLen_le h2, fun hn => ⟨g, 0, rfl, hB, ?_, fun j u hu => by rw [Nat.zero_add]; exact fresh_cells h1 h3 h4 h5 h6 j u hu⟩⟩
  have hpos : 0 < l.length := by cases l with | nil => simp [bv] at hn | cons => simp
  exact block_lt_of_cell (h6 0 (by omega))
end Go.Proofs.Ytnldmhljggcnpaa
namespace Go.Proofs.Ytnldmhljggcnpaa
set_option linter.unusedSimpArgs false
set_option linter.unusedVariables false
open Go.RowKit Cantle
set_option maxRecDepth 100000
set_option maxHeartbeats 1000000
def AtV (V v : Value) (len i n : Nat) : Prop := ∃ A c, v = .slice A n c ∧ n ≤ c ∧ c ≤ 9223372036854775807 ∧ (0 < n → ∃ g cap, V = .slice (some ⟨g, 0, none⟩) len cap ∧ A = some ⟨g, i, none⟩)
theorem Ar.form2 {w : World} {p : Nat} {V : Value} {s : ArS} (h : Ar w p V s) : (V = .slice none 0 0 ∧ s.b.length = 0) ∨ ∃ g cap, V = .slice (some ⟨g, 0, none⟩) s.b.length cap ∧ s.b.length ≤ cap ∧ cap ≤ 9223372036854775807 := by
  rcases h.hq.2 with ⟨e, e2⟩ | ⟨g, cap', cur, e, _, _, h1, h2, _⟩
  · exact .inl ⟨e, e2⟩
  · exact .inr ⟨g, cap', e, h1, maxLen_le h2⟩
theorem arena_at_ok {w : World} {p : Nat} {V : Value} {s : ArS} (h : Ar w p V s) (addr n : Nat) (h1 : s.base ≤ addr) (h2 : addr - s.base + n ≤ s.b.length) :
    Calls Try.prog 143 #[.pointer (some ⟨p, 0, none⟩), .int .u64 addr, .int .u64 n] w fun e w' => ∃ v, e = .returned (.tuple #[v, .nilIface]) ∧ AtV V v s.b.length (addr - s.base) n ∧ w = w' := by
  have hf := h.form2
  have c0 := h.c0
  have c2 := h.c2
  have hb := h.base_le
  have hl := h.len_le
  have hc := h.cap_le
  clear h
  obtain ⟨base, scap, b⟩ := s
  simp only at *
  generalize b.length = len at *
  clear b
  have i0 : ¬ ((addr : Int) < base) := by omega
  have i1 : ¬ ((len : Int) < (addr : Int) - base) := by omega
  have i2 : ¬ ((len : Int) - ((addr : Int) - base) < n) := by omega
  rcases hf with ⟨rfl, rfl⟩ | ⟨g, cap, rfl, hc1, hc2⟩
  · obtain rfl : addr = base := by omega
    obtain rfl : n = 0 := by omega
    clear i0 i1 i2
    go_enter Try.func143, Try.ntmps143
    go_wp2
    go_ret2
    exact ⟨_, rfl, ⟨none, 0, rfl, by omega, by omega, fun h => by omega⟩, rfl⟩
  · have hi : (((addr : Int) - base)).toNat = addr - base := by omega
    have hi2 : (((addr : Int) - base) + n).toNat = addr - base + n := by omega
    go_enter Try.func143, Try.ntmps143
    go_wp2
    all_goals
      go_ret2
      refine ⟨_, rfl, ⟨_, _, rfl, by omega, by omega, fun h => ⟨g, _, rfl, ?_⟩⟩, rfl⟩
      first | rfl | (rw [Nat.zero_add]) | (exfalso; omega)
theorem arena_at_bad {w : World} {p : Nat} {V : Value} {s : ArS} (h : Ar w p V s) (addr n : Nat) (ha : addr < 18446744073709551616) (hn : n < 18446744073709551616) (h1 : ¬ (s.base ≤ addr ∧ addr - s.base + n ≤ s.b.length)) :
    Calls Try.prog 143 #[.pointer (some ⟨p, 0, none⟩), .int .u64 addr, .int .u64 n] w fun e w' => e = .returned (.tuple #[.slice none 0 0, errV 2]) ∧ w = w' := by
  obtain ⟨A, cap, rfl, _⟩ := h.form
  have c0 := h.c0
  have c2 := h.c2
  have hb := h.base_le
  have hl := h.len_le
  have hc := h.cap_le
  clear h
  obtain ⟨base, scap, b⟩ := s
  simp only at *
  generalize b.length = len at *
  clear b
  by_cases g0 : (addr : Int) < base
  · clear h1
    go_enter Try.func143, Try.ntmps143
    go_wp2
    go_ret2
    exact ⟨rfl, rfl⟩
  · by_cases g1 : (len : Int) < (addr : Int) - base
    · clear h1
      go_enter Try.func143, Try.ntmps143
      go_wp2
      go_ret2
      exact ⟨rfl, rfl⟩
    · have g2 : (len : Int) - ((addr : Int) - base) < n := by omega
      clear h1
      go_enter Try.func143, Try.ntmps143
      go_wp2
      go_ret2
      exact ⟨rfl, rfl⟩
theorem AtV.rd {w : World} {p : Nat} {V v : Value} {s : ArS} {i n : Nat} (h : Ar w p V s) (ha : AtV V v s.b.length i n) (hi : i + n ≤ s.b.length) : Rd w (fun k => V.ownBlock = some k) v n (bv ((s.b.drop i).take n)) := by
  obtain ⟨A, c, rfl, h1, h2, h3⟩ := ha
  refine ⟨A, c, rfl, h1, h2, fun hne => ?_⟩
  have hn : 0 < n := by
    rcases Nat.eq_zero_or_pos n with e | e
    · subst e; simp [bv] at hne
    · exact e
  obtain ⟨g, cap, rfl, rfl⟩ := h3 hn
  refine ⟨g, i, rfl, rfl, (h.hq.lt g rfl).2, fun j u hj => ?_⟩
  have := h.hq.cells (g := g) rfl (i + j) u ?_
  · rwa [addr_add, Nat.zero_add] at this
  · have hj' : j < n := by have := (List.getElem?_eq_some_iff.1 hj).1; rw [bv_length, List.length_take] at this; omega
    rw [bv, List.getElem?_map, List.getElem?_take, if_pos hj', List.getElem?_drop] at hj
    rw [bv, List.getElem?_map]; exact hj
def putAt (b : List UInt8) (i : Nat) (l : List UInt8) : List UInt8 := b.take i ++ l ++ b.drop (i + l.length)
theorem putAt_length {b : List UInt8} {i : Nat} {l : List UInt8} (h : i + l.length ≤ b.length) : (putAt b i l).length = b.length := by
  unfold putAt; simp; omega
theorem Ar.write {w : World} {p g cap : Nat} {s : ArS} {cur : Array Value} (h : Ar w p (.slice (some ⟨g, 0, none⟩) s.b.length cap) s) (hg : w.heap[g]? = some (.cells cur 5 (0, 0))) {i : Nat} {l : List UInt8} (hi : i + l.length ≤ s.b.length) :
    Ar (w.setRow g (cur.toList.take i ++ bv l ++ cur.toList.drop (i + (bv l).length)).toArray) p (.slice (some ⟨g, 0, none⟩) s.b.length cap) { s with b := putAt s.b i l } := by
  have hgp : g ≠ p := fun e => h.ne (by rw [← e]; rfl)
  obtain ⟨h0, hr⟩ := h.hq
  rcases hr with ⟨e, _⟩ | ⟨g', cap', cur', e, hb, hg', h1, h2, h3, h4⟩
  · cases e
  · cases e
    rw [hg] at hg'
    obtain rfl : cur = cur' := by cases hg'; rfl
    have hlen : (bv l).length = l.length := bv_length l
    have hcl : s.b.length ≤ cur.toList.length := by rw [Array.length_toList, h3]; omega
    obtain ⟨nw, hnw⟩ : ∃ nw : Array Value, nw = (cur.toList.take i ++ bv l ++ cur.toList.drop (i + (bv l).length)).toArray := ⟨_, rfl⟩
    rw [← hnw]
    have hgw : (w.setRow g nw).heap[g]? = some (.cells nw 5 (0, 0)) := by
      simp [World.setRow, Array.getElem?_modify, hg]
    have hpl := putAt_length hi
    have hsz : nw.size = cap * 1 := by rw [hnw]; simp [hlen]; rw [h3]; omega
    have htk : nw.toList.take (s.b.length * 1) = bv (putAt s.b i l) := by
      unfold putAt
      rw [bv_append, bv_append, hnw]
      have h4' : cur.toList.take s.b.length = bv s.b := by rw [Nat.mul_one] at h4; exact h4
      have e1 : bv (s.b.take i) = cur.toList.take i := by
        rw [bv, List.map_take]; show (bv s.b).take i = _
        rw [← h4', List.take_take, Nat.min_eq_left (by omega)]
      have e2 : bv (s.b.drop (i + l.length)) = (cur.toList.take s.b.length).drop (i + l.length) := by
        rw [bv, List.map_drop]; show (bv s.b).drop _ = _
        rw [← h4']
      rw [e1, e2, hlen, Nat.mul_one, List.append_assoc, List.append_assoc, List.take_append, List.take_append, List.length_take, hlen, Nat.min_eq_left (by omega)]
      rw [List.take_of_length_le (l := cur.toList.take i) (by rw [List.length_take]; omega), List.take_of_length_le (l := bv l) (by omega)]
      congr 2
      rw [List.drop_take]
      congr 1
      omega
    refine ⟨(setRow_other w g p _ (Ne.symm hgp)).trans h.hp, ⟨by simp [bv_length], .inr ⟨g, cap, nw, by rw [hpl], Nat.zero_le _, hgw, by rw [hpl]; exact h1, h2, hsz, by rw [hpl]; exact htk⟩⟩, h.ne, h.base_le, h.cap_le, by rw [hpl]; exact h.len_le⟩
structure Wrote (w w' : World) (p : Nat) (V : Value) (s' : ArS) : Prop where
  ar : Ar w' p V s'
  keep : Keep (fun k => V.ownBlock = some k) w w'
theorem copy_run {w : World} {p : Nat} {V v x : Value} {s : ArS} {i n : Nat} {l : List UInt8} (h : Ar w p V s) (ha : AtV V v s.b.length i n) (hi : i + n ≤ s.b.length) {F : Nat → Prop} (hx : Rd w F x n (bv l)) (hl : l.length = n) (ty : TypeId) :
    ∃ w', (Builtin.copy_ #[24, 24] ty #[v, x]).run Try.prog w = .ok (goInt n) w' ∧ Wrote w w' p V { s with b := putAt s.b i l } := by
  obtain ⟨A, c, rfl, h1, h2, h3⟩ := ha
  obtain ⟨B, c2, rfl, g1, g2, g3⟩ := hx
  have hsz : (Try.prog.info? 5).map (·.size) = some 1 := by kernel_rfl
  rcases Nat.eq_zero_or_pos n with e | e
  · subst e
    obtain rfl := List.eq_nil_of_length_eq_zero hl
    refine ⟨w, run_copy_none w 24 24 ty 5 A B 0 c 0 c2 Try.underlying24 hsz rfl, ?_, Keep.refl _ _⟩
    have : putAt s.b i [] = s.b := by simp [putAt]
    rw [this]; exact h
  · obtain ⟨g, cap, rfl, rfl⟩ := h3 e
    have hbn : bv l ≠ [] := by intro q; have := congrArg List.length q; rw [bv_length, List.length_nil] at this; omega
    obtain ⟨b, o, rfl, hF, hb, hc⟩ := g3 hbn
    obtain ⟨h0, hr⟩ := h.hq
    rcases hr with ⟨e, _⟩ | ⟨g', cap', cur, e, hb', hg', k1, k2, k3, k4⟩
    · cases e
    · cases e
      have hrun := run_copy_row (P := Try.prog) w 24 24 ty 5 g i n c ⟨b, o, none⟩ n c2 cur 5 (bv l) Try.underlying24 hsz hg' (by rw [bv_length, hl]; simp) (fun j u hu => by rw [addr_add]; exact hc j u hu) (by rw [bv_length, k3]; omega) (bv_one l)
      rw [bv_length l, hl] at hrun
      refine ⟨_, hrun, ?_, Keep.setRow w g _ rfl⟩
      have := h.write hg' (i := i) (l := l) (by omega)
      rw [bv_length, hl] at this
      exact this
theorem wpList_copy_run {P : Program} {w w' : World} {ops : Array Oper} {rest : List Oper} {o : Oper} {a : Act} {Q : Exit → Act → World → Prop} (hgd : o.guard = none) (d s : Operand) (dT sT : TypeId)
    (ho : o.op = .call { callee := .builtin .copy, args := #[d, s], argTypes := #[dT, sT] }) (vd vs : Value) (hd : a.eval d = vd) (hs : a.eval s = vs) {r : Value} (hrun : (Builtin.copy_ #[dT, sT] o.type #[vd, vs]).run P w = .ok r w')
    (h : wpList P ops Q rest (a.put o.dst r) w') : wpList P ops Q (o :: rest) a w := by
  refine wpList_plain hgd fun K hK => ?_
  unfold Oper.wp
  simp [execOp, ho, resolve, invoke, builtin, hd, hs, hrun, Result.andThen]
  exact hK _ _ h
end Go.Proofs.Ytnldmhljggcnpaa
namespace Go.Proofs.Ytnldmhljggcnpaa
set_option linter.unusedSimpArgs false
set_option linter.unusedVariables false
open Go.RowKit Cantle
set_option maxRecDepth 100000
set_option maxHeartbeats 1000000
theorem arena_Base {w : World} {p : Nat} {V : Value} {s : ArS} (h : Ar w p V s) : Calls Try.prog 51 #[.pointer (some ⟨p, 0, none⟩)] w fun e w' => e = .returned (.int .u64 (s.base : Int)) ∧ w = w' := by
  have c0 := h.c0
  clear h
  go_enter Try.func51, Try.ntmps51
  go_wp2
  go_ret
  exact ⟨rfl, rfl⟩
theorem arena_Len {w : World} {p : Nat} {V : Value} {s : ArS} (h : Ar w p V s) : Calls Try.prog 111 #[.pointer (some ⟨p, 0, none⟩)] w fun e w' => e = .returned (.int .i64 (s.b.length : Int)) ∧ w = w' := by
  obtain ⟨A, cap, rfl, _⟩ := h.form
  have c2 := h.c2
  clear h
  generalize s.b.length = len at *
  go_enter Try.func111, Try.ntmps111
  go_wp2
  go_ret
  exact ⟨rfl, rfl⟩
theorem arena_Cap {w : World} {p : Nat} {V : Value} {s : ArS} (h : Ar w p V s) : Calls Try.prog 127 #[.pointer (some ⟨p, 0, none⟩)] w fun e w' => e = .returned (.int .i64 (s.cap : Int)) ∧ w = w' := by
  have c1 := h.c1
  clear h
  go_enter Try.func127, Try.ntmps127
  go_wp2
  go_ret
  exact ⟨rfl, rfl⟩
def mayA (base : Nat) (cap : Int) : Bool := base % 16 == 0 && base ≤ 4611686018427387904 && 1024 ≤ cap && cap ≤ 16384
theorem mayA_iff {base : Nat} {cap : Int} : mayA base cap = true ↔ base % 16 = 0 ∧ base ≤ 4611686018427387904 ∧ 1024 ≤ cap ∧ cap ≤ 16384 := by simp [mayA, and_assoc]
theorem arena_New_ok (base : Nat) (cap : Int) (hm : mayA base cap = true) (w : World) :
    Calls Try.prog 103 #[.int .u64 base, .int .i64 cap] w fun e w' => ∃ p, e = .returned (.pointer (some ⟨p, 0, none⟩)) ∧ Ar w' p (.slice none 0 0) ⟨base, cap.toNat, []⟩ ∧ Keep No w w' ∧ w.heap.size ≤ p := by
  obtain ⟨h1, h2, h3, h4⟩ := mayA_iff.1 hm
  clear hm
  obtain ⟨c, rfl⟩ := Int.eq_ofNat_of_zero_le (show 0 ≤ cap by omega)
  have hb1 : (((base : Int) % 16) != 0) = false := by rw [bne_eq_false_iff_eq]; omega
  have H1 := hid h1
  clear h1
  go_enter Try.func103, Try.ntmps103
  go_wp2
  go_ret
  refine ⟨w.heap.size, rfl, ⟨heap_alloc_new _ _, OwnB.nil _, by simp [Value.ownBlock], by simpa using h2, ?_, by simp⟩, keep_alloc _ _, Nat.le_refl _⟩
  show ((c : Int)).toNat ≤ 16384
  omega
theorem arena_New_bad (base : Nat) (cap : Int) (hm : mayA base cap = false) (w : World) :
    Calls Try.prog 103 #[.int .u64 base, .int .i64 cap] w fun e w' => e = .returned (.pointer none) ∧ w = w' := by
  have hn : ¬ (base % 16 = 0 ∧ base ≤ 4611686018427387904 ∧ 1024 ≤ cap ∧ cap ≤ 16384) := fun h => by rw [mayA_iff.2 h] at hm; cases hm
  clear hm
  by_cases g1 : base % 16 = 0
  · have hb1 : (((base : Int) % 16) != 0) = false := by rw [bne_eq_false_iff_eq]; omega
    have H1 := hid g1
    by_cases g2 : 4611686018427387904 < base
    · clear hn g1
      go_enter Try.func103, Try.ntmps103
      go_wp2
      go_ret
      exact ⟨rfl, rfl⟩
    · by_cases g3 : cap < 1024
      · clear hn g1
        go_enter Try.func103, Try.ntmps103
        go_wp2
        go_ret
        exact ⟨rfl, rfl⟩
      · have g4 : 16384 < cap := by omega
        clear hn g1
        go_enter Try.func103, Try.ntmps103
        go_wp2
        go_ret
        exact ⟨rfl, rfl⟩
  · have hb1 : (((base : Int) % 16) != 0) = true := by rw [bne_iff_ne]; omega
    clear hn g1
    go_enter Try.func103, Try.ntmps103
    go_wp2
    go_ret
    exact ⟨rfl, rfl⟩
theorem arena_Load_ok {w : World} {p : Nat} {V : Value} {s : ArS} (h : Ar w p V s) (addr n : Nat) (h1 : s.base ≤ addr) (h2 : addr - s.base + n ≤ s.b.length) :
    Calls Try.prog 69 #[.pointer (some ⟨p, 0, none⟩), .int .u64 addr, .int .u64 n] w fun e w' => ∃ v, e = .returned (.tuple #[v, .nilIface]) ∧ NewO w w' v ((s.b.drop (addr - s.base)).take n) := by
  have ha := arena_at_ok h addr n h1 h2
  go_enter Try.func69, Try.ntmps69
  go_wp2_with fail
  refine ha.mono ?_; rintro e w1 ⟨v, rfl, hv, rfl⟩
  have hr := hv.rd h h2
  have hl : ((s.b.drop (addr - s.base)).take n).length = n := by rw [List.length_take, List.length_drop]; omega
  obtain ⟨A, c, rfl, _⟩ := hv
  have hc := slices_Clone (l := (s.b.drop (addr - s.base)).take n) (by rw [hl]; exact hr) (by rw [hl]; have := h.len_le; have := h.cap_le; omega)
  clear ha hr hl
  go_wp2_with fail
  refine hc.mono ?_; rintro e w2 ⟨v2, rfl, hN⟩
  clear hc
  go_wp2
  go_ret2
  exact ⟨_, rfl, hN⟩
theorem arena_Load_bad {w : World} {p : Nat} {V : Value} {s : ArS} (h : Ar w p V s) (addr n : Nat) (ha : addr < 18446744073709551616) (hn : n < 18446744073709551616) (h1 : ¬ (s.base ≤ addr ∧ addr - s.base + n ≤ s.b.length)) :
    Calls Try.prog 69 #[.pointer (some ⟨p, 0, none⟩), .int .u64 addr, .int .u64 n] w fun e w' => ∃ v, e = .returned (.tuple #[v, errV 2]) ∧ NewO w w' v [] := by
  have ha := arena_at_bad h addr n ha hn h1
  clear h1
  go_enter Try.func69, Try.ntmps69
  go_wp2_with fail
  refine ha.mono ?_; rintro e w1 ⟨rfl, rfl⟩
  have hc := slices_Clone (w := w) (l := []) (Rd.nil w No) (by simp)
  simp only [errV]
  clear ha
  go_wp2_with fail
  refine hc.mono ?_; rintro e w2 ⟨v2, rfl, hN⟩
  clear hc
  go_wp2
  go_ret2
  exact ⟨_, rfl, hN⟩
theorem arena_Store_ok {w : World} {p : Nat} {V : Value} {s : ArS} (h : Ar w p V s) (addr : Nat) {F : Nat → Prop} {x : Value} {l : List UInt8} (hx : Rd w F x l.length (bv l)) (h1 : s.base ≤ addr) (h2 : addr - s.base + l.length ≤ s.b.length) :
    Calls Try.prog 105 #[.pointer (some ⟨p, 0, none⟩), .int .u64 addr, x] w fun e w' => e = .returned .nilIface ∧ Wrote w w' p V { s with b := putAt s.b (addr - s.base) l } := by
  have ha := arena_at_ok h addr l.length h1 h2
  have hlm : l.length ≤ 16384 := by have := h.len_le; have := h.cap_le; omega
  obtain ⟨A, c, rfl, hx'⟩ := id hx
  clear hx'
  have HX := hid hx
  clear hx
  have HC := hid (fun v (hv : AtV V v s.b.length (addr - s.base) l.length) => copy_run h hv h2 HX.out rfl 3)
  generalize hl : l.length = n at *
  have HL := hid hl
  clear hl
  go_enter Try.func105, Try.ntmps105
  go_wp2_with fail
  refine ha.mono ?_; rintro e w1 ⟨v, rfl, hv, rfl⟩
  obtain ⟨w2, hrun, hW⟩ := HC.out v hv
  clear ha
  go_wp2_with (with_reducible refine wpList_copy_run rfl (.tmp 18) (.tmp 19) 24 24 rfl _ _ rfl rfl hrun ?_)
  go_ret
  exact ⟨rfl, hW⟩
theorem arena_Store_bad {w : World} {p : Nat} {V : Value} {s : ArS} (h : Ar w p V s) (addr : Nat) {F : Nat → Prop} {x : Value} {l : List UInt8} (hx : Rd w F x l.length (bv l)) (ha : addr < 18446744073709551616) (hln : l.length ≤ 1000000) (h1 : ¬ (s.base ≤ addr ∧ addr - s.base + l.length ≤ s.b.length)) :
    Calls Try.prog 105 #[.pointer (some ⟨p, 0, none⟩), .int .u64 addr, x] w fun e w' => e = .returned (errV 2) ∧ w = w' := by
  have ha := arena_at_bad h addr l.length ha (by omega) h1
  obtain ⟨A, c, rfl, hx'⟩ := id hx
  clear hx' h1
  have hsz : (Try.prog.info? 5).map (·.size) = some 1 := by kernel_rfl
  have hrun := run_copy_none (P := Try.prog) w 24 24 3 5 none A 0 0 l.length c Try.underlying24 hsz (by simp)
  generalize hl : l.length = n at *
  have HL := hid hl
  have HR := hid hrun
  clear hl hrun
  go_enter Try.func105, Try.ntmps105
  go_wp2_with fail
  refine ha.mono ?_; rintro e w1 ⟨rfl, rfl⟩
  clear ha
  simp only [errV]
  have hrun := HR.out
  go_wp2_with (with_reducible refine wpList_copy_run rfl (.tmp 18) (.tmp 19) 24 24 rfl _ _ rfl rfl hrun ?_)
  go_ret
  exact ⟨rfl, rfl⟩
theorem num_window {b : List UInt8} {o : Nat} (h : o + 8 ≤ b.length) : getN ((b.drop o).take 8) 0 8 = some (num b o) := by
  have hl : ((b.drop o).take 8).length = 8 := by rw [List.length_take, List.length_drop]; omega
  unfold getN
  rw [if_pos (by omega), num_some h, List.drop_zero, List.take_of_length_le (by omega)]
theorem arena_Word {w : World} {p : Nat} {V : Value} {s : ArS} (h : Ar w p V s) (o : Nat) (ho : o ≤ 1000000) :
    Calls Try.prog 107 #[.pointer (some ⟨p, 0, none⟩), .int .u64 ((s.base + o : Nat) : Int)] w fun e w' => e = .returned (.tuple #[.int .u64 (num s.b o : Nat), errV (if o + 8 ≤ s.b.length then 0 else 2)]) ∧ w = w' := by
  have hb := h.base_le
  by_cases hin : o + 8 ≤ s.b.length
  · rw [if_pos hin]
    have hat := arena_at_ok h (s.base + o) 8 (by omega) (by omega)
    have ew : s.base + o - s.base = o := by omega
    rw [ew] at hat
    have HG := hid (fun v (hv : AtV V v s.b.length o 8) => word_Get (l := (s.b.drop o).take 8) (by rw [show ((s.b.drop o).take 8).length = 8 from by rw [List.length_take, List.length_drop]; omega]; exact hv.rd h hin) 0)
    have HN := hid (num_window hin)
    clear ew h
    generalize s.base + o = addr at *
    generalize num s.b o = N at *
    go_enter Try.func107, Try.ntmps107
    go_wp2_with fail
    refine hat.mono ?_; rintro e w1 ⟨v, rfl, hv, rfl⟩
    have hG := HG.out v hv
    rw [HN.out] at hG
    simp only [getV] at hG
    obtain ⟨A, c, rfl, _⟩ := hv
    clear hat
    go_wp2_with fail
    refine hG.mono ?_; rintro e w1 ⟨rfl, rfl⟩
    clear hG
    go_wp2
    go_ret2
    exact ⟨rfl, rfl⟩
  · rw [if_neg hin, num_none (by omega)]
    have hat := arena_at_bad h (s.base + o) 8 (by omega) (by decide) (by omega)
    have hG := word_Get (w := w) (F := No) (l := []) (Rd.nil w No) 0
    rw [getN_none (by simp)] at hG
    simp only [getV, List.length_nil, errV] at hG hat ⊢
    clear h
    generalize s.base + o = addr at *
    go_enter Try.func107, Try.ntmps107
    go_wp2_with fail
    refine hat.mono ?_; rintro e w1 ⟨rfl, rfl⟩
    clear hat
    go_wp2_with fail
    refine hG.mono ?_; rintro e w1 ⟨rfl, rfl⟩
    clear hG
    go_wp2
    go_ret2
    exact ⟨rfl, rfl⟩
theorem lay_putAt {b : List UInt8} {o v : Nat} (h : o + 8 ≤ b.length) : putAt b o (low 8 v) = lay b o v := by
  rw [lay_some h]; unfold putAt; rw [low_length]
theorem arena_SetWord {w : World} {p : Nat} {V : Value} {s : ArS} (h : Ar w p V s) (o v : Nat) (ho : o ≤ 1000000) (hv : v < 18446744073709551616) :
    Calls Try.prog 113 #[.pointer (some ⟨p, 0, none⟩), .int .u64 ((s.base + o : Nat) : Int), .int .u64 v] w fun e w' => e = .returned (errV (if o + 8 ≤ s.b.length then 0 else 2)) ∧ Wrote w w' p V { s with b := lay s.b o v } := by
  have hb := h.base_le
  have HP := word_Put v hv w
  have HS := hid (fun wx vx (hN : NewB w wx vx (low 8 v)) => (show Calls Try.prog 105 #[.pointer (some ⟨p, 0, none⟩), .int .u64 ((s.base + o : Nat) : Int), vx] wx fun e w' => e = .returned (errV (if o + 8 ≤ s.b.length then 0 else 2)) ∧ Wrote w w' p V { s with b := lay s.b o v } from by
    have hr := hN.rd
    have hA := h.keepNo hN.keep
    by_cases hin : o + 8 ≤ s.b.length
    · rw [if_pos hin]
      refine (arena_Store_ok hA (s.base + o) hr (by omega) (by rw [low_length]; omega)).mono ?_
      rintro e w' ⟨rfl, hW⟩
      rw [show s.base + o - s.base = o from by omega, lay_putAt hin] at hW
      exact ⟨rfl, hW.ar, hN.keep.no.trans hW.keep⟩
    · rw [if_neg hin]
      refine (arena_Store_bad hA (s.base + o) hr (by omega) (by rw [low_length]; decide) (by rw [low_length]; omega)).mono ?_
      rintro e w' ⟨rfl, rfl⟩
      rw [lay_none (by omega)]
      exact ⟨rfl, hA, hN.keep.no⟩))
  clear h
  generalize s.base + o = addr at *
  generalize errV (if o + 8 ≤ s.b.length then 0 else 2) = ev at *
  go_enter Try.func113, Try.ntmps113
  go_wp2_with fail
  refine HP.mono ?_; rintro e w1 ⟨vx, rfl, hN⟩
  clear HP
  have hS := HS.out w1 vx hN
  go_wp2_with fail
  refine hS.mono ?_; rintro e w2 ⟨rfl, hW⟩
  go_wp2
  go_ret
  exact ⟨rfl, hW⟩
end Go.Proofs.Ytnldmhljggcnpaa
namespace Go.Proofs.Ytnldmhljggcnpaa
set_option linter.unusedSimpArgs false
set_option linter.unusedVariables false
open Go.RowKit Cantle
set_option maxRecDepth 100000
set_option maxHeartbeats 1000000
structure Mut (w w' : World) (p : Nat) (V V' : Value) (s' : ArS) : Prop where
  ar : Ar w' p V' s'
  keep : Keep (Fp p V) w w'
  lies : ∀ i, Fp p V' i → Fp p V i ∨ w.heap.size ≤ i
theorem Wrote.mut {w w' : World} {p : Nat} {V : Value} {s' : ArS} (h : Wrote w w' p V s') : Mut w w' p V V s' := ⟨h.ar, h.keep.mono (fun i _ hi => .inr hi), fun i hi => .inl hi⟩
theorem Mut.refl {w : World} {p : Nat} {V : Value} {s : ArS} (h : Ar w p V s) : Mut w w p V V s := ⟨h, Keep.refl _ _, fun i hi => .inl hi⟩
theorem Mut.ofNo {w w' : World} {p : Nat} {V : Value} {s : ArS} (h : Ar w p V s) (k : Keep No w w') : Mut w w' p V V s := ⟨h.keepNo k, k.no, fun i hi => .inl hi⟩
theorem Mut.trans {w w1 w2 : World} {p : Nat} {V V1 V2 : Value} {s1 s2 : ArS} (h : Mut w w1 p V V1 s1) (k : Mut w1 w2 p V1 V2 s2) : Mut w w2 p V V2 s2 :=
  ⟨k.ar, h.keep.then k.keep (fun i hi hF => by
    rcases h.lies i hF with h1 | h1
    · exact h1
    · omega), fun i hi => by
    rcases k.lies i hi with h1 | h1
    · exact h.lies i h1
    · exact .inr (Nat.le_trans h.keep.size h1)⟩
theorem Mut.thenNo {w w1 w2 : World} {p : Nat} {V V1 : Value} {s1 : ArS} (h : Mut w w1 p V V1 s1) (k : Keep No w1 w2) : Mut w w2 p V V1 s1 := h.trans (Mut.ofNo h.ar k)
theorem Mut.before {w0 w w1 : World} {p : Nat} {V V1 : Value} {s1 : ArS} (k : Keep No w0 w) (h : Mut w w1 p V V1 s1) (h0 : ∀ i, Fp p V i → i < w0.heap.size ∨ True) : Mut w0 w1 p V V1 s1 :=
  ⟨h.ar, k.no.then h.keep (fun i _ hi => hi), fun i hi => (h.lies i hi).imp id (fun q => Nat.le_trans k.size q)⟩
theorem bv_zeros (k : Nat) : bv (List.replicate k 0) = List.replicate k (.int .u8 0) := by simp [bv, byteV]
theorem zeroCells_u8 (k : Nat) : (Builtin.zeroCells (Value.cells (.int .u8 0)) k).toList = bv (List.replicate k 0) := by
  rw [bv_zeros]
  apply List.ext_getElem?
  intro j
  by_cases hj : j < k
  · simp [Builtin.zeroCells, hj, Value.cells, Nat.mod_one]
  · simp [Builtin.zeroCells, hj, Value.cells]
theorem append_zeros {w : World} {v : Value} {l : List UInt8} (ho : OwnB w v l) (k : Nat) (hm : l.length + k ≤ 1000000) (ty : TypeId) :
    ∃ v' w', (Builtin.append_ #[24, 3] ty #[v, .int .i64 (k : Int)]).run Try.prog w = .ok v' w' ∧ OwnB w' v' (l ++ List.replicate k 0) ∧ Keep (fun i => v.ownBlock = some i) w w' ∧ (∀ i, v'.ownBlock = some i → v.ownBlock = some i ∨ w.heap.size ≤ i) := by
  obtain ⟨i0, hi, hz0, hz1, hz2⟩ := info_parts info_u8
  have ht : Try.prog.underlying 24 = some (.slice 5) := Try.underlying24
  have htn : Try.prog.underlying 3 = some (.int .i64) := Try.underlying3
  have hw0 : IntKind.i64.wrap 0 = 0 := by decide
  have hll : (l ++ List.replicate k 0).length = l.length + k := by simp
  have fresh : ∀ old, (w.drew.alloc (.cells ((bv l).toArray ++ Builtin.zeroCells (Value.cells (.int .u8 0)) k ++ Builtin.zeroCells (Value.cells (.int .u8 0)) (grownCap w (l.length + k) old 5 - (l.length + k))) 5)).ownsRow 0 5 1
      (.slice (some ⟨w.heap.size, 0, none⟩) (l.length + k) (grownCap w (l.length + k) old 5)) (l.length + k) (bv (l ++ List.replicate k 0)) := by
    intro old
    have hge := grownCap_ge w (l.length + k) old 5
    have hcm : grownCap w (l.length + k) old 5 ≤ maxLen := grownCap_le_maxLen w (l.length + k) old 5 (by unfold maxLen; omega)
    have hsz : ∀ n, (Builtin.zeroCells (Value.cells (.int .u8 0)) n).size = n := fun n => by rw [← Array.length_toList, zeroCells_u8, bv_length, List.length_replicate]
    refine ⟨by rw [bv_length, hll, Nat.mul_one], .inr ⟨w.heap.size, _, _, rfl, Nat.zero_le _, heap_alloc_new w.drew _, hge, hcm, ?_, ?_⟩⟩
    · rw [Array.size_append, Array.size_append, hsz, hsz, List.size_toArray, bv_length]; omega
    · rw [Array.toList_append, Array.toList_append, zeroCells_u8, zeroCells_u8, List.toList_toArray, Nat.mul_one, bv_append]
      exact List.take_left' (by simp [bv_length])
  rcases ho.2 with ⟨rfl, hx⟩ | ⟨g, cap, cur, rfl, hbg, hg, hnc, hcm, hcs, htake⟩
  · have hl0 : l = [] := List.eq_nil_of_length_eq_zero hx
    subst hl0
    rcases Nat.eq_zero_or_pos k with e | e
    · subst e
      refine ⟨.slice none 0 0, w, ?_, by simpa using OwnB.nil w, Keep.refl _ _, fun i h => .inl h⟩
      simp [Builtin.append_, run_underlying ht, run_underlying htn, sizeOf, typeInfo, hi, asInt, asIntOf, hz1, hz2, hw0]
    · have hr := Lib.run_append_nil_zeros (P := Try.prog) w 24 3 ty 5 i0 (.int .u8 0) .i64 .i64 ht htn hi hz0 k e (by omega) (by omega) (by rw [hz2]; simp at hm; omega)
      have hf := fresh 0
      simp only [List.length_nil, Nat.zero_add, bv, List.map_nil, List.nil_append] at hf
      refine ⟨_, _, hr, ?_, Keep.drew _ _ |>.trans (Keep.alloc _ _ _), fun i h => ?_⟩
      · unfold OwnB
        simp only [List.nil_append, List.length_replicate]
        simpa [bv] using hf
      · have : w.heap.size = i := Option.some.inj h
        exact .inr (by omega)
  · by_cases hroom : l.length + k ≤ cap
    · have hr : (Builtin.append_ #[24, 3] ty #[.slice (some ⟨g, 0, none⟩) l.length cap, .int .i64 (k : Int)]).run Try.prog w = .ok (.slice (some ⟨g, 0, none⟩) (l.length + k) cap) (w.setRow g (cur.toList.take l.length ++ bv (List.replicate k 0) ++ cur.toList.drop (l.length + k)).toArray) := by
        have hst := run_storeCells_at Try.prog g 0 5 (bv (List.replicate k 0)) l.length cur w hg (by rw [bv_length, List.length_replicate, hcs]; omega) (bv_one _)
        have hw : IntKind.i64.wrap (k : Int) = k := by rw [IntKind.wrap_i64]; omega
        have hneg : ¬ ((k : Int) < 0) := by omega
        have h48i : ¬ (281474976710656 < (k : Int)) := by omega
        have hadd : ((⟨g, 0, none⟩ : Addr).add l.length) = ⟨g, l.length, none⟩ := by rw [addr_add, Nat.zero_add]
        have hst2 := run_storeCells_at Try.prog g l.length 5 (bv (List.replicate k 0)) 0 cur w hg (by rw [bv_length, List.length_replicate, hcs]; omega) (bv_one _)
        rw [bv_length, List.length_replicate, Nat.add_zero] at hst2
        rcases Nat.eq_zero_or_pos k with e | e
        · subst e
          have hs0 : w.setRow g (cur.toList.take l.length ++ bv (List.replicate 0 0) ++ cur.toList.drop (l.length + 0)).toArray = w := by
            simp only [List.replicate_zero, bv, List.map_nil, List.append_nil, Nat.add_zero, List.take_append_drop, Array.toArray_toList]
            exact setRow_self w g cur 5 (0, 0) hg
          rw [hs0]
          simp [Builtin.append_, run_underlying ht, run_underlying htn, sizeOf, typeInfo, hi, asInt, asIntOf, hnc, storeCells, hw0]
        · have hk0 : k ≠ 0 := by omega
          have hbz := bv_zeros k
          simp [Builtin.append_, run_underlying ht, run_underlying htn, sizeOf, typeInfo, zeroValue, hi, hz0, hz1, hz2, asInt, asIntOf, hw, hneg, h48i, hroom, hadd, hk0, hst2, zeroCells_u8]
      refine ⟨_, _, hr, ?_, Keep.setRow w g _ rfl, fun i h => .inl h⟩
      refine ⟨by rw [bv_length, hll, Nat.mul_one], .inr ⟨g, cap, _, by rw [hll], Nat.zero_le _, setRow_heap w g cur _ 5 _ hg, by rw [hll]; exact hroom, hcm, ?_, ?_⟩⟩
      · simp only [List.size_toArray, List.length_append, List.length_take, List.length_drop, bv_length, List.length_replicate, Array.length_toList, hcs]; omega
      · rw [Nat.mul_one] at htake
        rw [htake, hll, Nat.mul_one, bv_append]
        exact List.take_left' (by simp [bv_length])
    · have hold : (Builtin.firstCells i0.size l.length (.slice (some ⟨g, 0, none⟩) l.length cap)).run Try.prog w.drew = .ok (bv l).toArray w.drew := by
        have h1 : (loadCells ⟨g, 0, none⟩ (l.length * i0.size)).run Try.prog w.drew = .ok (bv l).toArray w.drew := by
          rw [hz1, Nat.mul_one]
          have := run_loadCells_list (P := Try.prog) w.drew ⟨g, 0, none⟩ (bv l) (fun j u hu => (ho.cells (g := g) rfl j u hu))
          rwa [bv_length] at this
        simpa [Builtin.firstCells] using h1
      have hr := Lib.run_append_grow_zeros (P := Try.prog) w 24 3 ty 5 i0 (.int .u8 0) .i64 .i64 ht htn hi hz0 (some ⟨g, 0, none⟩) l.length cap (bv l) hold k (by omega) (by omega) (by omega) (by omega) (by rw [hz2]; omega) (by
        rw [hz2]
        have := growslice_fits (need := l.length + k) (old := cap) (bytes := 1) (by omega) (by omega)
        exact this)
      have hf := fresh cap
      refine ⟨_, _, hr, ?_, Keep.drew _ _ |>.trans (Keep.alloc _ _ _), fun i h => ?_⟩
      · unfold OwnB
        rw [hll]; exact hf
      · have : w.heap.size = i := Option.some.inj h
        exact .inr (by omega)
end Go.Proofs.Ytnldmhljggcnpaa
namespace Go.Proofs.Ytnldmhljggcnpaa
set_option linter.unusedSimpArgs false
set_option linter.unusedVariables false
open Go.RowKit Cantle
set_option maxRecDepth 100000
set_option maxHeartbeats 1000000
theorem OwnB.form {w : World} {v : Value} {l : List UInt8} (h : OwnB w v l) : ∃ A c, v = .slice A l.length c ∧ l.length ≤ c := by
  rcases h.2 with ⟨rfl, h0⟩ | ⟨g, cap, cur, rfl, _, _, h1, _⟩
  · exact ⟨none, 0, by rw [h0], by omega⟩
  · exact ⟨_, _, rfl, h1⟩
theorem Ar.setV {w w1 : World} {p : Nat} {V V' : Value} {s : ArS} {b' : List UInt8} (h : Ar w p V s) (k : Keep (fun i => V.ownBlock = some i) w w1) (ho : OwnB w1 V' b') (hl : ∀ i, V'.ownBlock = some i → V.ownBlock = some i ∨ w.heap.size ≤ i) (hb : b'.length ≤ s.cap) :
    Mut w (w1.setCell ⟨p, 2, none⟩ V') p V V' { s with b := b' } := by
  have hp1 : w1.heap[p]? = some (.cells #[.int .u64 (s.base : Int), .int .i64 (s.cap : Int), V] 188 (0, 0)) := k.heap h.ne h.hp
  have hne : ∀ i, V'.ownBlock = some i → i ≠ p := fun i hi e => by
    subst e
    rcases hl i hi with q | q
    · exact h.ne q
    · have := lt_blk h.hp; omega
  refine ⟨⟨?_, ?_, fun q => hne p q rfl, h.base_le, h.cap_le, hb⟩, ?_, fun i hi => ?_⟩
  · rw [setCell_blk hp1]; rfl
  · exact ho.keep (Keep.setCell (S := fun i => i = p) w1 ⟨p, 2, none⟩ V' rfl) (fun i hi e => hne i hi e)
  · exact (k.mono fun i _ hi => .inr hi).trans (Keep.setCell w1 ⟨p, 2, none⟩ V' (.inl rfl))
  · rcases hi with rfl | hi
    · exact .inl (.inl rfl)
    · exact (hl i hi).imp .inr id
theorem arena_Grow_ok {w : World} {p : Nat} {V : Value} {s : ArS} (h : Ar w p V s) (n : Nat) (hn : s.b.length + n ≤ s.cap) :
    Calls Try.prog 104 #[.pointer (some ⟨p, 0, none⟩), .int .i64 n] w fun e w' => e = .returned .nilIface ∧ ∃ V', Mut w w' p V V' { s with b := s.b ++ List.replicate n 0 } := by
  have hcl := h.cap_le
  have hll := h.len_le
  have hz : (s.b ++ List.replicate n 0).length = s.b.length + n := by simp
  have HA : Hid (∀ wx : World, Keep No w wx → ∃ A' c' w', (Builtin.append_ #[24, 3] 24 #[V, .int .i64 (n : Int)]).run Try.prog wx = .ok (.slice A' (s.b.length + n) c') w' ∧ Hid (OwnB w' (.slice A' (s.b.length + n) c') (s.b ++ List.replicate n 0)) ∧ Keep (fun i => V.ownBlock = some i) wx w' ∧ (∀ i, (Value.slice A' (s.b.length + n) c').ownBlock = some i → V.ownBlock = some i ∨ wx.heap.size ≤ i)) := hid (by
    intro wx k
    obtain ⟨V', w', hrun, ho, hk, hl⟩ := append_zeros (w := wx) (v := V) (l := s.b) ((show OwnB w V s.b from h.hq).keepNo k) n (by omega) 24
    obtain ⟨A', c', rfl, _⟩ := ho.form
    rw [hz] at hrun ho hl
    exact ⟨A', c', w', hrun, ho, hk, hl⟩)
  have HS := hid (fun wx w1 V' b' (k : Keep No w wx) => Ar.setV (w := wx) (w1 := w1) (V' := V') (b' := b') (h.keepNo k))
  clear hz
  obtain ⟨A, cap, rfl, _⟩ := h.form
  have c1 := h.c1
  have c2 := h.c2
  have hlp := lt_blk h.hp
  have HP := hid h.hp
  have HNE := hid h.ne
  clear h
  generalize hL : s.b.length = len at *
  generalize hSC : s.cap = sc at *
  have HL := hid hL
  have HSC := hid hSC
  clear hL hSC
  have g1 : ¬ (n : Int) < 0 := by omega
  have g2 : ¬ (sc : Int) - len < n := by omega
  go_enter Try.func104, Try.ntmps104
  go_wp2
  go_quiet (fail)
  obtain ⟨A', c', w1, hrun, ho, hk, hl⟩ := HA.out (w.drewN nq) (Keep.drewN _ _ _)
  have hp1 := hk.heap (fun e => HNE.out e) (show (w.drewN nq).heap[p]? = _ from HP.out)
  have d2 := (cell_blk hp1 2).trans (show _ = some (Value.slice A len cap) from rfl)
  have f2 := frozen_blk hp1 2
  have HLI := hid hl
  clear hp1 hl
  go_wp2_with (at_builtin; refine Lib.wpList_append_run _ rfl (.tmp 27) (.tmp 28) 24 3 rfl _ _ rfl rfl _ _ hrun ?_)
  go_ret
  refine ⟨rfl, .slice A' (len + n) c', ?_⟩
  have := HS.out (w.drewN nq) w1 _ _ (Keep.drewN _ _ _) hk ho.out HLI.out (by rw [List.length_append, List.length_replicate, HL.out]; omega)
  exact ⟨this.ar, (Keep.drewN _ w nq).trans this.keep, this.lies⟩
theorem arena_Grow_neg {w : World} {p : Nat} {V : Value} {s : ArS} (n : Int) (hn : n < 0) :
    Calls Try.prog 104 #[.pointer (some ⟨p, 0, none⟩), .int .i64 n] w fun e w' => e = .returned (errV 1) ∧ w = w' := by
  go_enter Try.func104, Try.ntmps104
  go_wp2
  go_ret
  exact ⟨rfl, rfl⟩
theorem arena_Grow_no {w : World} {p : Nat} {V : Value} {s : ArS} (h : Ar w p V s) (n : Int) (hn : 0 ≤ n) (hn2 : (s.cap : Int) < s.b.length + n) (hn3 : n ≤ 1000000) :
    Calls Try.prog 104 #[.pointer (some ⟨p, 0, none⟩), .int .i64 n] w fun e w' => e = .returned (errV 5) ∧ Keep No w w' := by
  obtain ⟨A, cap, rfl, _⟩ := h.form
  have c1 := h.c1
  have c2 := h.c2
  have hl := h.len_le
  have hc := h.cap_le
  clear h
  generalize s.b.length = len at *
  generalize s.cap = sc at *
  have g1 : ¬ n < 0 := by omega
  have g2 : (sc : Int) - len < n := by omega
  go_enter Try.func104, Try.ntmps104
  go_wp2
  go_quiet (fail)
  go_wp2
  go_ret
  exact ⟨rfl, Keep.drewN _ _ _⟩
theorem putAt_get {b : List UInt8} {i : Nat} {l : List UInt8} (h : i + l.length ≤ b.length) (j : Nat) : (putAt b i l)[j]? = if i ≤ j ∧ j < i + l.length then l[j - i]? else b[j]? := by
  have hm : (b.take i).length = i := by rw [List.length_take]; omega
  unfold putAt
  rw [List.append_assoc]
  by_cases h1 : j < i
  · rw [List.getElem?_append_left (by omega), List.getElem?_take, if_pos h1, if_neg (by omega)]
  · rw [List.getElem?_append_right (by omega), hm]
    by_cases h2 : j - i < l.length
    · rw [List.getElem?_append_left h2, if_pos (by omega)]
    · rw [List.getElem?_append_right (by omega), List.getElem?_drop, if_neg (by omega)]
      congr 1; omega
theorem putAt_next {b : List UInt8} {i k : Nat} {x : UInt8} (h : i + k < b.length) : (putAt b i (List.replicate k x)).set (i + k) x = putAt b i (List.replicate (k + 1) x) := by
  have hl1 : (List.replicate k x).length = k := List.length_replicate
  have hl2 : (List.replicate (k + 1) x).length = k + 1 := List.length_replicate
  apply List.ext_getElem?
  intro j
  rw [putAt_get (by omega), hl2]
  by_cases hj : j = i + k
  · subst hj
    rw [List.getElem?_set_self (by rw [putAt_length (by omega)]; omega), if_pos (by omega), List.getElem?_replicate, if_pos (by omega)]
  · rw [List.getElem?_set_ne (by omega), putAt_get (by omega), hl1]
    by_cases h1 : i ≤ j ∧ j < i + k
    · rw [if_pos h1, if_pos (by omega), List.getElem?_replicate, List.getElem?_replicate, if_pos (by omega), if_pos (by omega)]
    · rw [if_neg h1, if_neg (by omega)]
theorem Ar.setByte {w : World} {p g cap : Nat} {s : ArS} (h : Ar w p (.slice (some ⟨g, 0, none⟩) s.b.length cap) s) (j : Nat) (x : UInt8) (hj : j < s.b.length) :
    Wrote w (w.setCell ⟨g, j, none⟩ (.int .u8 (x.toNat : Int))) p (.slice (some ⟨g, 0, none⟩) s.b.length cap) { s with b := s.b.set j x } := by
  have hgp : g ≠ p := fun e => h.ne (by rw [← e]; rfl)
  have hst := (World.ownsRow.stored (w := w) h.hq j (.int .u8 (x.toNat : Int))).1
  have k : Keep (fun k => (Value.slice (some ⟨g, 0, none⟩) s.b.length cap).ownBlock = some k) w (w.setCell ⟨g, j, none⟩ (.int .u8 (x.toNat : Int))) := Keep.setCell w ⟨g, j, none⟩ _ rfl
  refine ⟨⟨k.heap (fun e => hgp (Option.some.inj e)) h.hp, ?_, h.ne, h.base_le, h.cap_le, by rw [List.length_set]; exact h.len_le⟩, k⟩
  have e : bv (s.b.set j x) = (bv s.b).set j (.int .u8 (x.toNat : Int)) := by rw [bv, List.map_set]; rfl
  simp only [List.length_set]
  rw [e]; exact hst
theorem arena_Fill_ok {w : World} {p : Nat} {V : Value} {s : ArS} (h : Ar w p V s) (addr n : Nat) (x : UInt8) (h1 : s.base ≤ addr) (h2 : addr - s.base + n ≤ s.b.length) :
    Calls Try.prog 68 #[.pointer (some ⟨p, 0, none⟩), .int .u64 addr, .int .u64 n, .int .u8 (x.toNat : Int)] w fun e w' => e = .returned .nilIface ∧ Wrote w w' p V { s with b := putAt s.b (addr - s.base) (List.replicate n x) } := by
  have hat := arena_at_ok h addr n h1 h2
  have hcl := h.cap_le
  have hll := h.len_le
  have HA := hid h
  have HV := hid (fun v => AtV.rd (v := v) (i := addr - s.base) (n := n) h)
  clear h
  generalize hi : addr - s.base = i at *
  have HI := hid hi
  clear hi
  go_enter Try.func68, Try.ntmps68
  go_wp2_with fail
  refine hat.mono ?_; rintro e w1 ⟨v, rfl, hv, rfl⟩
  clear hat
  obtain ⟨A, c, rfl, hc1, hc2, hc3⟩ := hv
  have HC := hid hc3
  clear hc3
  go_wp2_with fail
  go_loopw [21] (fun t wr => ∃ k : Nat, k ≤ n ∧ t = .int .i64 k ∧ Wrote w wr p V { s with b := putAt s.b i (List.replicate k x) }) (fun t _ => n - (intOf t).toNat)
  case atStart =>
    refine ⟨0, by omega, rfl, ?_⟩
    have : putAt s.b i (List.replicate 0 x) = s.b := by simp [putAt]
    rw [this]; exact ⟨HA.out, Keep.refl _ _⟩
  case round =>
    obtain ⟨k, hk, rfl, hW⟩ := hrel
    by_cases hlt : k < n
    · obtain ⟨g, cap, hVe, rfl⟩ := HC.out (by omega)
      have hpl : (putAt s.b i (List.replicate k x)).length = s.b.length := putAt_length (by simp; omega)
      have hA := hW.ar
      subst hVe
      have hA' : Ar wr p (.slice (some ⟨g, 0, none⟩) ({ s with b := putAt s.b i (List.replicate k x) } : ArS).b.length cap) { s with b := putAt s.b i (List.replicate k x) } := by
        show Ar wr p (.slice (some ⟨g, 0, none⟩) (putAt s.b i (List.replicate k x)).length cap) _
        rw [hpl]; exact hA
      have hset := hA'.setByte (i + k) x (by show i + k < (putAt s.b i (List.replicate k x)).length; omega)
      have hcell : ∃ u, wr.cell? ⟨g, i + k, none⟩ = some (.int .u8 u) := by
        have hb := bv_get? (putAt s.b i (List.replicate k x)) (i + k) (by omega)
        have := hA.hq.cells (g := g) rfl (i + k) _ hb
        rw [addr_add, Nat.zero_add] at this
        exact ⟨_, this⟩
      obtain ⟨u, hcell⟩ := hcell
      have hfz : wr.frozen? ⟨g, i + k, none⟩ = false := hA'.hq.frozenAt (i + k)
      have HSET := hid hset
      have HPL := hid hpl
      have HW := hid hW
      clear hset hpl hA hA' hW
      go_wp2
      refine ⟨⟨k + 1, by omega, rfl, ?_⟩, ?_⟩
      · have hs := HSET.out
        simp only [HPL.out] at hs
        rw [putAt_next (by omega)] at hs
        exact ⟨hs.ar, HW.out.keep.trans hs.keep⟩
      · simp [intOf]; omega
    · obtain rfl : k = n := by omega
      have HW := hid hW
      clear hW
      go_wp2
      go_ret
      exact ⟨rfl, HW.out⟩
end Go.Proofs.Ytnldmhljggcnpaa
namespace Go.Proofs.Ytnldmhljggcnpaa
set_option linter.unusedSimpArgs false
set_option linter.unusedVariables false
open Go.RowKit Cantle
theorem pack_some {s : Int} {u : Bool} (h1 : 32 ≤ s) (h2 : s ≤ 16384) (h3 : s % 16 = 0) : pack s u = s.toNat + b2n u := by
  unfold pack; rw [if_pos ((isSize_iff s).2 ⟨h1, h2, h3⟩)]
theorem pack_none {s : Int} {u : Bool} (h : ¬ (32 ≤ s ∧ s ≤ 16384 ∧ s % 16 = 0)) : pack s u = 0 := by
  unfold pack; rw [if_neg (fun e => h ((isSize_iff s).1 e))]
set_option maxHeartbeats 400000 in
set_option maxRecDepth 100000 in
theorem tag_Pack (s : Int) (u : Bool) (w : World) :
    Calls Try.prog 94 #[.int .i64 s, .bool u] w fun e w' => e = .returned (.int .u64 (pack s u : Nat)) ∧ w = w' := by
  by_cases h1 : s < 32
  · rw [pack_none (by omega)]
    go_enter Try.func94, Try.ntmps94
    go_wp2
    go_ret
    exact ⟨rfl, rfl⟩
  by_cases h2 : 16384 < s
  · rw [pack_none (by omega)]
    go_enter Try.func94, Try.ntmps94
    go_wp2
    go_ret
    exact ⟨rfl, rfl⟩
  by_cases h3 : s % 16 = 0
  · rw [pack_some (by omega) (by omega) h3]
    have hor : bits .or .u64 s 1 = s + 1 := by
      obtain ⟨n, rfl⟩ := Int.eq_ofNat_of_zero_le (show 0 ≤ s by omega)
      have := u64_or_nat n 1 (by omega) (by decide)
      rw [nat_join 1 n 1 (by omega) (by decide)] at this
      exact this
    cases u with
    | true =>
      go_enter Try.func94, Try.ntmps94
      go_wp2
      go_ret
      exact ⟨by simp [b2n]; omega, rfl⟩
    | false =>
      go_enter Try.func94, Try.ntmps94
      go_wp2
      go_ret
      exact ⟨by simp [b2n]; omega, rfl⟩
  · rw [pack_none (by omega)]
    go_enter Try.func94, Try.ntmps94
    go_wp2
    go_ret
    exact ⟨rfl, rfl⟩
def unpackV : Option (Nat × Bool) → Value
  | some (s, u) => .tuple #[.int .i64 (s : Int), .bool u, .bool true]
  | none => .tuple #[.int .i64 0, .bool false, .bool false]
set_option maxHeartbeats 400000 in
set_option maxRecDepth 100000 in
theorem tag_Unpack (x : Nat) (hx : x < 18446744073709551616) (w : World) :
    Calls Try.prog 90 #[.int .u64 x] w fun e w' => e = .returned (unpackV (unpack x)) ∧ w = w' := by
  have ha1 : bits .and .u64 (x : Int) 1 = ((x % 2 : Nat) : Int) := by
    have := u64_and_nat x 1 hx (by decide)
    rw [nat_mask1] at this
    exact this
  have han1 : bits .andNot .u64 (x : Int) 1 = ((x / 2 * 2 : Nat) : Int) := by
    have h := u64_andNot_nat x 1 hx (by decide)
    rw [show (1 : Int) = ((1 : Nat) : Int) from rfl, h]
    congr 1
    have h2 : (x &&& (18446744073709551615 - 1)) / 2 = x / 2 := by
      have := Nat.shiftRight_and_distrib (a := x) (b := 18446744073709551615 - 1) (i := 1)
      simp only [Nat.shiftRight_eq_div_pow, Nat.pow_one] at this
      rw [this, show (18446744073709551615 - 1) / 2 = 2 ^ 63 - 1 from by decide, Nat.and_two_pow_sub_one_eq_mod]
      omega
    have h3 : (x &&& (18446744073709551615 - 1)) % 2 = 0 := by
      have := Nat.and_mod_two_pow (a := x) (b := 18446744073709551615 - 1) (n := 1)
      rw [Nat.pow_one] at this
      rw [this, show (18446744073709551615 - 1) % 2 = 0 from by decide, Nat.and_zero]
    omega
  have han : bits .and .u64 ((x / 2 * 2 : Nat) : Int) 65535 = ((x / 2 * 2 % 65536 : Nat) : Int) := by
    have h := u64_and_nat (x / 2 * 2) 65535 (by omega) (by decide)
    rw [show (65535 : Nat) = 2 ^ 16 - 1 from by decide, Nat.and_two_pow_sub_one_eq_mod] at h
    exact h
  have hu : (((x % 2 : Nat) : Int) == 1) = (x % 2 == 1) := by
    rw [Bool.eq_iff_iff]; simp; omega
  have hp := tag_Pack ((x / 2 * 2 % 65536 : Nat) : Int) (x % 2 == 1) w
  have hps : x ≠ 0 → unpack x = none → (((pack ((x / 2 * 2 % 65536 : Nat) : Int) (x % 2 == 1) : Nat) : Int) == (x : Int)) = false := by
    intro h0 h1
    rcases unpack_none_of_ne (s := x / 2 * 2 % 65536) (u := x % 2 == 1) h1 with h | h
    · exact absurd h h0
    · exact beq_eq_false_iff_ne.2 (fun e => h (Int.ofNat.inj e))
  have hpt : ∀ s u, unpack x = some (s, u) → s = x / 2 * 2 % 65536 ∧ u = (x % 2 == 1) ∧ (((pack ((x / 2 * 2 % 65536 : Nat) : Int) (x % 2 == 1) : Nat) : Int) == (x : Int)) = true := by
    intro s u h
    obtain ⟨h1, h2, h3⟩ := unpack_some h
    have h4 := (isSize_iff _).1 h1
    have h5 : s = x / 2 * 2 ∧ u = (x % 2 == 1) := by
      unfold unpack at h
      split at h
      · simp only [Option.some.injEq, Prod.mk.injEq] at h; exact ⟨h.1.symm, h.2.symm⟩
      · cases h
    have h6 : x / 2 * 2 % 65536 = s := by omega
    refine ⟨h6.symm, h5.2, ?_⟩
    rw [h6, ← h5.2, h3]; simp
  generalize hX : (x / 2 * 2 : Nat) = X at *
  generalize hY : (X % 65536 : Nat) = Y at *
  generalize hU : (x % 2 == 1) = U at *
  generalize hP : pack (Y : Int) U = P at *
  generalize hM : x % 2 = M at *
  have HU := hid hU
  have HP := hid hp
  have HPS := hid hps
  have HPT := hid hpt
  have hYl : Y < 65536 := by omega
  clear hp hps hpt hU
  by_cases h0 : x = 0
  · subst h0
    have hn : unpack 0 = none := by decide
    rw [hn]
    clear HPS HPT HP HU
    go_enter Try.func90, Try.ntmps90
    go_wp2
    go_ret3
    exact ⟨rfl, rfl⟩
  · have hx0 : ((x : Int) == 0) = false := by simp; exact h0
    cases h : unpack x with
    | none =>
      have h1 := HPS.out h0 h
      clear HPS HPT h
      have h1' : ((P : Int) != (x : Int)) = true := by simp only [bne, h1, Bool.not_false]
      go_enter Try.func90, Try.ntmps90
      go_wp2_with fail
      refine HP.out.mono ?_; rintro e w' ⟨rfl, rfl⟩
      go_wp2
      go_ret3
      exact ⟨rfl, rfl⟩
    | some r =>
      obtain ⟨s, u⟩ := r
      obtain ⟨hs1, hs2, h1⟩ := HPT.out s u h
      subst hs1
      subst hs2
      clear HPS HPT h
      have h1' : ((P : Int) != (x : Int)) = false := by simp only [bne, h1, Bool.not_true]
      go_enter Try.func90, Try.ntmps90
      go_wp2_with fail
      refine HP.out.mono ?_; rintro e w' ⟨rfl, rfl⟩
      go_wp2
      go_ret3
      exact ⟨rfl, rfl⟩
end Go.Proofs.Ytnldmhljggcnpaa
namespace Go.Proofs.Ytnldmhljggcnpaa
set_option linter.unusedSimpArgs false
set_option linter.unusedVariables false
open Go.RowKit Cantle
def blkC (x : Blk) : List Value := [.int .i64 x.off, .int .i64 x.size, .bool x.used]
def blkV (x : Blk) : Value := .agg #[.int .i64 x.off, .int .i64 x.size, .bool x.used]
def bks (l : List Blk) : List Value := l.flatMap blkC
theorem bks_length (l : List Blk) : (bks l).length = l.length * 3 := by
  induction l with
  | nil => rfl
  | cons x l ih => simp only [bks, List.flatMap_cons, List.length_append, List.length_cons] at ih ⊢; rw [ih]; simp [blkC]; omega
theorem bks_append (a b : List Blk) : bks (a ++ b) = bks a ++ bks b := by simp [bks]
theorem bks_one (l : List Blk) : ∀ u ∈ bks l, u.oneCell' = true := by
  intro u hu
  simp only [bks, List.mem_flatMap, blkC, List.mem_cons, List.not_mem_nil, or_false] at hu
  obtain ⟨x, _, rfl | rfl | rfl⟩ := hu <;> rfl
theorem bks_get (l : List Blk) : ∀ (k j : Nat) (h : k < l.length), j < 3 → (bks l)[k * 3 + j]? = (blkC l[k])[j]? := by
  induction l with
  | nil => intro k j h; simp at h
  | cons x l ih =>
    intro k j h hj
    cases k with
    | zero =>
      simp only [bks, List.flatMap_cons, Nat.zero_mul, Nat.zero_add, List.getElem_cons_zero]
      rw [List.getElem?_append_left (by simpa [blkC] using hj)]
    | succ k =>
      simp only [bks, List.flatMap_cons, List.getElem_cons_succ]
      rw [List.getElem?_append_right (by simp [blkC]; omega), show (k + 1) * 3 + j - (blkC x).length = k * 3 + j from by simp [blkC]; omega]
      exact ih k j (by simpa using h) hj
theorem Rd.blk {w : World} {b o : Nat} {l : List Blk} (hc : ∀ j u, (bks l)[j]? = some u → w.cell? ⟨b, o + j, none⟩ = some u) (k : Nat) (h : k < l.length) :
    w.cell? ⟨b, o + k * 3, none⟩ = some (.int .i64 l[k].off) ∧ w.cell? ⟨b, o + k * 3 + 1, none⟩ = some (.int .i64 l[k].size) ∧ w.cell? ⟨b, o + k * 3 + 2, none⟩ = some (.bool l[k].used) :=
  ⟨hc (k * 3) _ (by have := bks_get l k 0 h (by omega); simpa [blkC] using this),
   by rw [Nat.add_assoc]; exact hc (k * 3 + 1) _ (by rw [bks_get l k 1 h (by omega)]; rfl),
   by rw [Nat.add_assoc]; exact hc (k * 3 + 2) _ (by rw [bks_get l k 2 h (by omega)]; rfl)⟩
end Go.Proofs.Ytnldmhljggcnpaa
namespace Go.Proofs.Ytnldmhljggcnpaa
set_option linter.unusedSimpArgs false
set_option linter.unusedVariables false
open Go.RowKit Cantle
def OwnK (w : World) (v : Value) (l : List Blk) : Prop := w.ownsRow 0 57 3 v l.length (bks l)
theorem OwnK.rd {w : World} {v : Value} {l : List Blk} (h : OwnK w v l) : Rd w (fun i => v.ownBlock = some i) v l.length (bks l) := Rd.ofOwn h
theorem OwnK.keep {S : Nat → Prop} {w w' : World} {v : Value} {l : List Blk} (h : OwnK w v l) (k : Keep S w w') (hs : ∀ i, v.ownBlock = some i → ¬ S i) : OwnK w' v l := k.owns hs h
theorem OwnK.keepNo {w w' : World} {v : Value} {l : List Blk} (h : OwnK w v l) (k : Keep No w w') : OwnK w' v l := h.keep k (fun _ _ q => q)
theorem OwnK.lt {w : World} {v : Value} {l : List Blk} (h : OwnK w v l) : ∀ k, v.ownBlock = some k → k < w.heap.size := fun k hk => (World.ownsRow.lt h k hk).2
theorem OwnK.nil (w : World) : OwnK w (.slice none 0 0) [] := World.ownsRow_nil w 0 _ 3
theorem info_blk : (Try.prog.info? 57).map (fun i => (i.zero, i.size, i.bytes)) = some (some (.agg #[.int .i64 0, .int .i64 0, .bool false]), 3, 24) := by kernel_rfl
theorem append_blk {w : World} {v : Value} {l : List Blk} (ho : OwnK w v l) (x : Blk) (hm : l.length ≤ 1000000) (ty : TypeId) :
    ∃ g cap w', (Builtin.append_ #[22, 22] ty #[v, .slice (some ⟨w.heap.size, 0, none⟩) 1 1]).run Try.prog (w.alloc (.cells #[.int .i64 x.off, .int .i64 x.size, .bool x.used] 57)) = .ok (.slice (some ⟨g, 0, none⟩) (l.length + 1) cap) w' ∧
      OwnK w' (.slice (some ⟨g, 0, none⟩) (l.length + 1) cap) (l ++ [x]) ∧ Keep (fun i => v.ownBlock = some i) w w' ∧ (v.ownBlock = some g ∨ w.heap.size < g) ∧ g < w'.heap.size := by
  obtain ⟨i0, hi, hz0, hz1, hz2⟩ := info_parts info_blk
  have ka := keep_alloc w (.cells #[.int .i64 x.off, .int .i64 x.size, .bool x.used] 57)
  have hx : Rd (w.alloc (.cells #[.int .i64 x.off, .int .i64 x.size, .bool x.used] 57)) (fun _ => True) (.slice (some ⟨w.heap.size, 0, none⟩) 1 1) 1 (bks [x]) :=
    ⟨_, 1, rfl, Nat.le_refl _, by omega, fun _ => ⟨w.heap.size, 0, rfl, trivial, by simp, fun j u hu => by
      rw [cell_blk (heap_alloc_new w _), Nat.zero_add]
      simpa [bks, blkC] using hu⟩⟩
  obtain ⟨v', w', hr, h⟩ := append_own (P := Try.prog) _ 0 22 ty 57 i0 (.agg #[.int .i64 0, .int .i64 0, .bool false]) 3 24 Try.underlying22 hi hz0 hz1 hz2 rfl (by decide) v _ _ (ho.keepNo ka) _ _ _ _ hx rfl
    (bks_one _) (by unfold maxLen; omega) (by omega) (Nat.zero_le _)
  obtain ⟨g, cap, rfl, _, hg⟩ := h.own.form (by omega)
  refine ⟨g, cap, w', hr, ?_, (ka.no).trans h.keep, ?_, hg⟩
  · have := h.own
    unfold OwnK
    rwa [bks_append, List.length_append]
  · rcases h.lies g rfl with h | h
    · exact .inl h
    · right; simp at h; omega
theorem Rd.blkAt {w : World} {F : Nat → Prop} {v : Value} {l : List Blk} (h : Rd w F v l.length (bks l)) (hp : 0 < l.length) :
    ∃ b o cap, v = .slice (some ⟨b, o, none⟩) l.length cap ∧ F b ∧ b < w.heap.size ∧ ∀ k (hk : k < l.length), w.cell? ⟨b, o + k * 3, none⟩ = some (.int .i64 l[k].off) ∧ w.cell? ⟨b, o + k * 3 + 1, none⟩ = some (.int .i64 l[k].size) ∧ w.cell? ⟨b, o + k * 3 + 2, none⟩ = some (.bool l[k].used) := by
  obtain ⟨b, o, cap, rfl, _, _, hF, hb, hc⟩ := h.cells (by rw [bks_length]; omega)
  exact ⟨b, o, cap, rfl, hF, hb, fun k hk => Rd.blk hc k hk⟩
end Go.Proofs.Ytnldmhljggcnpaa
namespace Go.Proofs.Ytnldmhljggcnpaa
set_option linter.unusedSimpArgs false
set_option linter.unusedVariables false
open Go.RowKit Cantle
set_option maxRecDepth 100000
set_option maxHeartbeats 1000000
theorem block_fits {w : World} {p : Nat} {V : Value} {s : ArS} (h : Ar w p V s) (o z : Int) (hz1 : -1000000 ≤ z) (hz2 : z ≤ 1000000) :
    Calls Try.prog 112 #[.pointer (some ⟨p, 0, none⟩), .int .i64 o, .int .i64 z] w fun e w' => e = .returned (.bool (could s.b.length o z)) ∧ w = w' := by
  obtain ⟨A, cap, rfl, _⟩ := h.form
  have c2 := h.c2
  have hl := h.len_le
  have hc := h.cap_le
  clear h
  generalize hB : could s.b.length o z = B at *
  generalize s.b.length = len at *
  by_cases g1 : 184 ≤ o
  · by_cases g2 : o % 16 = 8
    · have g2' : (o % 16 == 8) = true := by rw [beq_iff_eq]; exact g2
      by_cases g3 : o ≤ len
      · by_cases g4 : z ≤ len - o
        · obtain rfl : true = B := by rw [← hB, could_iff.2 ⟨g1, g2, g3, g4⟩]
          clear hB g2
          go_enter Try.func112, Try.ntmps112
          go_wp2
          go_ret
          exact ⟨rfl, rfl⟩
        · obtain rfl : false = B := by rw [← hB, Eq.comm, ← Bool.not_eq_true, could_iff]; omega
          clear hB g2
          go_enter Try.func112, Try.ntmps112
          go_wp2
          go_ret
          exact ⟨rfl, rfl⟩
      · obtain rfl : false = B := by rw [← hB, Eq.comm, ← Bool.not_eq_true, could_iff]; omega
        clear hB g2
        go_enter Try.func112, Try.ntmps112
        go_wp2
        go_ret
        exact ⟨rfl, rfl⟩
    · have g2' : (o % 16 == 8) = false := by rw [beq_eq_false_iff_ne]; exact g2
      obtain rfl : false = B := by rw [← hB, Eq.comm, ← Bool.not_eq_true, could_iff]; omega
      clear hB g2
      go_enter Try.func112, Try.ntmps112
      go_wp2
      go_ret
      exact ⟨rfl, rfl⟩
  · obtain rfl : false = B := by rw [← hB, Eq.comm, ← Bool.not_eq_true, could_iff]; omega
    clear hB
    go_enter Try.func112, Try.ntmps112
    go_wp2
    go_ret
    exact ⟨rfl, rfl⟩
def blkR : Option Blk → Value
  | none => .tuple #[.agg #[.int .i64 0, .int .i64 0, .bool false], errV 3]
  | some x => .tuple #[blkV x, .nilIface]
theorem info_blkS : (Try.prog.info? 57).map (·.size) = some 3 := by kernel_rfl
theorem blk_done {f : Func} {R : Ending → World → Prop} {tmps : Array Value} {wx : World} {B0 i j : Nat} {a b c e : Value} {cs : Array Value} (hf : f.results = #[.cell i 57, .tmp j]) (hg : wx.heap[B0]? = some (.cells cs 57 (0, 0))) (hs : cs.size = 3)
    (hp : tmps.getD i undef = .pointer (some ⟨B0, 0, none⟩)) (he : tmps.getD j undef = e)
    (hR : Keep (fun i => i = B0) wx (((wx.setCell ⟨B0, 0, none⟩ a).setCell ⟨B0, 1, none⟩ b).setCell ⟨B0, 2, none⟩ c) → R (.returned (.tuple #[.agg #[a, b, c], e])) (((wx.setCell ⟨B0, 0, none⟩ a).setCell ⟨B0, 1, none⟩ b).setCell ⟨B0, 2, none⟩ c)) :
    bodyPost Try.prog f R .ret ⟨tmps, []⟩ (((wx.setCell ⟨B0, 0, none⟩ a).setCell ⟨B0, 1, none⟩ b).setCell ⟨B0, 2, none⟩ c) := by
  have hW : (((wx.setCell ⟨B0, 0, none⟩ a).setCell ⟨B0, 1, none⟩ b).setCell ⟨B0, 2, none⟩ c).heap[B0]? = some (.cells #[a, b, c] 57 (0, 0)) := by
    rw [setCell_blk (setCell_blk (setCell_blk hg 0 a) 1 b) 2 c]
    match cs, hs with
    | ⟨[x, y, z]⟩, _ => rfl
  have hp' : tmps[i]?.getD undef = .pointer (some ⟨B0, 0, none⟩) := by simpa using hp
  have he' : tmps[j]?.getD undef = e := by simpa using he
  refine bodyPost_ret (v := .tuple #[.agg #[a, b, c], e]) ?_ rfl (hR (((Keep.setCell (S := fun i => i = B0) _ _ _ rfl).trans (Keep.setCell _ _ _ rfl)).trans (Keep.setCell _ _ _ rfl)))
  have hl := run_loadVar_row (P := Try.prog) _ B0 57 57 #[a, b, c] (0, 0) _ hW Try.underlying57 rfl info_blkS
  simp [results, hf, hp', he', asAddr, hl]
theorem blk_at {f : Func} {R : Ending → World → Prop} {tmps : Array Value} {W : World} {B0 i j : Nat} {a b c e : Value} (hf : f.results = #[.cell i 57, .tmp j]) (hW : W.heap[B0]? = some (.cells #[a, b, c] 57 (0, 0)))
    (hp : tmps.getD i undef = .pointer (some ⟨B0, 0, none⟩)) (he : tmps.getD j undef = e) (hR : R (.returned (.tuple #[.agg #[a, b, c], e])) W) : bodyPost Try.prog f R .ret ⟨tmps, []⟩ W := by
  have hp' : tmps[i]?.getD undef = .pointer (some ⟨B0, 0, none⟩) := by simpa using hp
  have he' : tmps[j]?.getD undef = e := by simpa using he
  refine bodyPost_ret (v := .tuple #[.agg #[a, b, c], e]) ?_ rfl hR
  have hl := run_loadVar_row (P := Try.prog) _ B0 57 57 #[a, b, c] (0, 0) _ hW Try.underlying57 rfl info_blkS
  simp [results, hf, hp', he', asAddr, hl]
theorem res_Get : Try.f62.results = #[.cell 4 57, .tmp 5] := rfl
theorem cast_add (a k : Nat) : ((a + k : Nat) : Int) = (a : Int) + (k : Int) := Int.natCast_add a k
theorem block_Get {w : World} {p : Nat} {V : Value} {s : ArS} (h : Ar w p V s) (o : Int) :
    Calls Try.prog 62 #[.pointer (some ⟨p, 0, none⟩), .int .i64 o] w fun e w' => e = .returned (blkR (bget s.b o)) ∧ Keep No w w' := by
  have hl := h.len_le
  have hc := h.cap_le
  have hb := h.base_le
  have HF := hid (fun z h1 h2 => block_fits (h.keepNo (keep_alloc w (.cells #[.int .i64 0, .int .i64 0, .bool false] 57))) o z h1 h2)
  have HB := hid (arena_Base (h.keepNo (keep_alloc w (.cells #[.int .i64 0, .int .i64 0, .bool false] 57))))
  have HW := hid (fun k hk => arena_Word (h.keepNo (keep_alloc w (.cells #[.int .i64 0, .int .i64 0, .bool false] 57))) k hk)
  have hk := keep_alloc w (.cells #[.int .i64 0, .int .i64 0, .bool false] 57)
  have hbx := heap_alloc_new w (.cells #[.int .i64 0, .int .i64 0, .bool false] 57)
  have HFIN : Hid (∀ k : Keep (fun i => i = w.heap.size) (w.alloc (.cells #[.int .i64 0, .int .i64 0, .bool false] 57)) = Keep (fun i => i = w.heap.size) (w.alloc (.cells #[.int .i64 0, .int .i64 0, .bool false] 57)), True) := hid (fun _ => trivial)
  clear h HFIN
  generalize hB : s.base = base at *
  generalize hbb : s.b = b at *
  clear hB hbb
  have h1 := HF.out 32 (by omega) (by omega)
  cases g1 : could b.length o 32 with
  | false =>
    have hg : bget b o = none := by unfold bget; rw [g1]; rfl
    rw [g1] at h1
    rw [hg]
    clear g1 hg
    go_enter Try.func62, Try.ntmps62
    go_wp2_with fail
    refine h1.mono ?_; rintro e w1 ⟨rfl, rfl⟩
    go_wp2
    exact blk_at res_Get hbx rfl rfl ⟨rfl, hk⟩
  | true =>
    rw [g1] at h1
    have g2 := could_iff.1 g1
    obtain ⟨k, rfl⟩ := Int.eq_ofNat_of_zero_le (show 0 ≤ o by omega)
    have hW1 := HW.out k (by omega)
    rw [if_pos (by omega), cast_add] at hW1
    have hU := fun wx => tag_Unpack (num b k) (num_lt b k) wx
    have hbg : bget b (k : Int) = match unpack (num b k) with
      | none => none
      | some (s, u) => if could b.length (k : Int) s = true ∧ num b (k + s - 8) = num b k then some ⟨(k : Int), s, u⟩ else none := by
      unfold bget; rw [g1]; rfl
    have HBG := hid hbg
    clear hbg g1
    cases hu : unpack (num b k) with
    | none =>
      have hg := HBG.out
      rw [hu] at hg
      simp only at hg
      rw [hu] at hU
      rw [hg]
      clear hu hg
      simp only [unpackV, errV] at hU hW1
      generalize num b k = N at *
      go_enter Try.func62, Try.ntmps62
      go_wp2_with fail
      refine h1.mono ?_; rintro e w1 ⟨rfl, rfl⟩
      go_wp2_with fail
      refine HB.out.mono ?_; rintro e w1 ⟨rfl, rfl⟩
      go_wp2_with fail
      refine hW1.mono ?_; rintro e w1 ⟨rfl, rfl⟩
      go_wp2_with fail
      refine (hU _).mono ?_; rintro e w1 ⟨rfl, rfl⟩
      go_wp2
      exact blk_at res_Get hbx rfl rfl ⟨rfl, hk⟩
    | some r =>
      obtain ⟨sz, u⟩ := r
      have hg := HBG.out
      rw [hu] at hg
      simp only at hg
      rw [hu] at hU
      have hsz := (isSize_iff _).1 (unpack_some hu).1
      have h2 := HF.out sz (by omega) (by omega)
      simp only [unpackV, errV] at hU hW1
      have HNL := hid (num_lt b k)
      clear hu
      cases g3 : could b.length (k : Int) sz with
      | false =>
        rw [g3] at h2 hg
        simp only [Bool.false_eq_true, false_and, if_false] at hg
        rw [hg]
        clear hg g3
        generalize num b k = N at *
        go_enter Try.func62, Try.ntmps62
        go_wp2_with fail
        refine h1.mono ?_; rintro e w1 ⟨rfl, rfl⟩
        go_wp2_with fail
        refine HB.out.mono ?_; rintro e w1 ⟨rfl, rfl⟩
        go_wp2_with fail
        refine hW1.mono ?_; rintro e w1 ⟨rfl, rfl⟩
        go_wp2_with fail
        refine (hU _).mono ?_; rintro e w1 ⟨rfl, rfl⟩
        go_wp2_with fail
        refine h2.mono ?_; rintro e w1 ⟨rfl, rfl⟩
        go_wp2
        exact blk_at res_Get hbx rfl rfl ⟨rfl, hk⟩
      | true =>
        rw [g3] at h2 hg
        have g4 := could_iff.1 g3
        have hW2 := HW.out (k + sz - 8) (by omega)
        rw [if_pos (by omega), show ((base + (k + sz - 8) : Nat) : Int) = (base : Int) + ((k : Int) + sz - 8) from by omega] at hW2
        simp only [true_and, errV] at hg hW2
        clear g3
        by_cases g5 : num b (k + sz - 8) = num b k
        · have HG5 := hid g5
          rw [if_pos g5] at hg
          rw [g5] at hW2
          rw [hg]
          have hne : (((num b k : Nat) : Int) != (num b k : Nat)) = false := by simp
          clear hg g5
          generalize num b k = N at *
          go_enter Try.func62, Try.ntmps62
          go_wp2_with fail
          refine h1.mono ?_; rintro e w1 ⟨rfl, rfl⟩
          go_wp2_with fail
          refine HB.out.mono ?_; rintro e w1 ⟨rfl, rfl⟩
          go_wp2_with fail
          refine hW1.mono ?_; rintro e w1 ⟨rfl, rfl⟩
          go_wp2_with fail
          refine (hU _).mono ?_; rintro e w1 ⟨rfl, rfl⟩
          go_wp2_with fail
          refine h2.mono ?_; rintro e w1 ⟨rfl, rfl⟩
          go_wp2_with fail
          refine HB.out.mono ?_; rintro e w1 ⟨rfl, rfl⟩
          go_wp2_with fail
          refine hW2.mono ?_; rintro e w1 ⟨rfl, rfl⟩
          go_wp2
          exact blk_at res_Get (heap_alloc_new _ _) rfl rfl ⟨rfl, keep_alloc _ _⟩
        · rw [if_neg g5] at hg
          rw [hg]
          have hne : (((num b (k + sz - 8) : Nat) : Int) != (num b k : Nat)) = true := by rw [bne_iff_ne]; exact fun e => g5 (Int.ofNat.inj e)
          clear hg g5
          generalize num b (k + sz - 8) = N2 at *
          generalize num b k = N at *
          go_enter Try.func62, Try.ntmps62
          go_wp2_with fail
          refine h1.mono ?_; rintro e w1 ⟨rfl, rfl⟩
          go_wp2_with fail
          refine HB.out.mono ?_; rintro e w1 ⟨rfl, rfl⟩
          go_wp2_with fail
          refine hW1.mono ?_; rintro e w1 ⟨rfl, rfl⟩
          go_wp2_with fail
          refine (hU _).mono ?_; rintro e w1 ⟨rfl, rfl⟩
          go_wp2_with fail
          refine h2.mono ?_; rintro e w1 ⟨rfl, rfl⟩
          go_wp2_with fail
          refine HB.out.mono ?_; rintro e w1 ⟨rfl, rfl⟩
          go_wp2_with fail
          refine hW2.mono ?_; rintro e w1 ⟨rfl, rfl⟩
          go_wp2
          exact blk_at res_Get hbx rfl rfl ⟨rfl, hk⟩
end Go.Proofs.Ytnldmhljggcnpaa
namespace Go.Proofs.Ytnldmhljggcnpaa
set_option linter.unusedSimpArgs false
set_option linter.unusedVariables false
open Go.RowKit Cantle
set_option maxRecDepth 100000
set_option maxHeartbeats 2000000
structure NewK (w w' : World) (v : Value) (l : List Blk) : Prop where
  keep : Keep No w w'
  own : OwnK w' v l
  ge : ∀ k, v.ownBlock = some k → w.heap.size ≤ k
theorem NewK.rd {w w' : World} {v : Value} {l : List Blk} (h : NewK w w' v l) : Rd w' (fun i => w.heap.size ≤ i) v l.length (bks l) := h.own.rd.mono fun i _ hi => h.ge i hi
theorem Rd.form' {w : World} {F : Nat → Prop} {v : Value} {n : Nat} {cs : List Value} (h : Rd w F v n cs) : ∃ A c, v = .slice A n c ∧ n ≤ c ∧ c ≤ 9223372036854775807 := by
  obtain ⟨A, c, e, h1, h2, _⟩ := h; exact ⟨A, c, e, h1, h2⟩
theorem OwnK.form {w : World} {v : Value} {l : List Blk} (h : OwnK w v l) : ∃ A c, v = .slice A l.length c ∧ l.length ≤ c ∧ c ≤ 9223372036854775807 := h.rd.form'
theorem bx3 {w : World} {g : Nat} {x y z : Value} {e : TypeId} (h : w.heap[g]? = some (.cells #[x, y, z] e (0, 0))) :
    w.cell? ⟨g, 0, none⟩ = some x ∧ w.cell? ⟨g, 1, none⟩ = some y ∧ w.cell? ⟨g, 2, none⟩ = some z ∧ w.frozen? ⟨g, 0, none⟩ = false ∧ w.frozen? ⟨g, 1, none⟩ = false ∧ w.frozen? ⟨g, 2, none⟩ = false ∧ g < w.heap.size :=
  ⟨(cell_blk h 0).trans rfl, (cell_blk h 1).trans rfl, (cell_blk h 2).trans rfl, frozen_blk h 0, frozen_blk h 1, frozen_blk h 2, lt_blk h⟩
theorem walkGo_stop {b : List UInt8} {o : Int} {k : Nat} (h : (b.length : Int) ≤ o) : walkGo b k o = some [] := by
  cases k with
  | zero => rfl
  | succ k => unfold walkGo; rw [if_neg (by omega)]
theorem walkGo_next {b : List UInt8} {o : Int} {k : Nat} {x : Blk} (h : o < b.length) (hx : bget b o = some x) (hk : (b.length : Int) ≤ o + (k + 1 : Nat)) : walkGo b (k + 1) o = (walkGo b k (o + x.size)).map (x :: ·) := by
  conv => lhs; unfold walkGo
  rw [if_pos h, hx]
def WkRel (w wr : World) (b : List UInt8) (vo : Value) (o : Int) : Prop := ∃ (done : List Blk) (k : Nat), walk b = (walkGo b k o).map (done ++ ·) ∧ (b.length : Int) ≤ o + k ∧ 184 ≤ o ∧ o ≤ b.length ∧ done.length * 32 ≤ o ∧ NewK w wr vo done
theorem block_Walk {w : World} {p : Nat} {V : Value} {s : ArS} (h : Ar w p V s) :
    Calls Try.prog 59 #[.pointer (some ⟨p, 0, none⟩)] w fun e w' => match walk s.b with
      | none => e = .returned (.tuple #[.slice none 0 0, errV 3]) ∧ Keep No w w'
      | some l => ∃ v, e = .returned (.tuple #[v, .nilIface]) ∧ NewK w w' v l := by
  have hll := h.len_le
  have hcl := h.cap_le
  have HL := hid (fun wx (k : Keep No w wx) => arena_Len (h.keepNo k))
  have HG := hid (fun wx o (k : Keep No w wx) => block_Get (h.keepNo k) o)
  clear h
  generalize s.b = b at *
  generalize hlen : b.length = len at *
  have HLEN := hid hlen
  clear hlen
  have hL0 := HL.out w (Keep.refl _ _)
  by_cases h0 : (len : Int) < 184
  · have hw : walk b = none := by unfold walk; rw [HLEN.out, if_pos (by omega)]
    rw [hw]
    simp only
    clear hw
    go_enter Try.func59, Try.ntmps59
    go_wp2_with fail
    refine hL0.mono ?_; rintro e w1 ⟨rfl, rfl⟩
    go_wp2
    go_ret2
    exact ⟨rfl, Keep.refl _ _⟩
  · have HW0 : Hid (WkRel w w b (.slice none 0 0) 184) := hid ⟨[], len, by
      have : walk b = walkGo b len 184 := by unfold walk; rw [HLEN.out, if_neg (by omega)]
      rw [this]; simp, by rw [HLEN.out]; omega, by omega, by rw [HLEN.out]; omega, by simp, Keep.refl _ _, OwnK.nil w, fun k hk => by simp [Value.ownBlock] at hk⟩
    generalize hwk : walk b = WK
    have HWK := hid hwk
    clear hwk
    go_enter Try.func59, Try.ntmps59
    go_wp2_with fail
    refine hL0.mono ?_; rintro e w1 ⟨rfl, rfl⟩
    clear hL0
    go_wp2_with fail
    go_loopw [4, 5] (fun vo t wr => ∃ o : Int, t = .int .i64 o ∧ WkRel w wr b vo o) (fun _ t _ => len - (intOf t).toNat)
    case atStart => exact ⟨184, rfl, HW0.out⟩
    case round =>
      obtain ⟨o, rfl, hR⟩ := hrel
      obtain ⟨done, k, r1, r2, r3, r4, r5, r6⟩ := hR
      rw [HLEN.out] at r2 r4
      have hL1 := HL.out wr r6.keep
      have hG1 := HG.out wr o r6.keep
      have hdl : done.length ≤ 1000000 := by omega
      have R1 := hid r1
      have R6 := hid r6
      obtain ⟨Ao, co, rfl, hco1, hco2⟩ := r6.own.form
      clear r1 r6
      by_cases hlt : o < len
      · cases hg : bget b o with
        | none =>
          rw [hg] at hG1
          have hw : WK = none := by
            rw [← HWK.out, R1.out]
            cases k with
            | zero => exfalso; omega
            | succ k => unfold walkGo; rw [HLEN.out, if_pos hlt, hg]; rfl
          subst hw
          simp only [blkR, errV] at hG1
          clear hg
          go_wp2_with fail
          refine hL1.mono ?_; rintro e w1 ⟨rfl, rfl⟩
          go_wp2_with fail
          refine hG1.mono ?_; rintro e w1 ⟨rfl, k1⟩
          go_wp2
          go_ret2
          exact ⟨rfl, (R6.out.keep.thenNo k1).thenNo (keep_alloc _ _)⟩
        | some x =>
          rw [hg] at hG1
          have hst := bget_stands hg
          have hxo := (bget_some hg).1
          have s1 := hst.s1
          have s2 := hst.s2
          have s3 : o + x.size ≤ len := by have := hst.hi; rw [HLEN.out, hxo] at this; exact this
          have HX := hid hg
          clear hg hst hxo
          simp only [blkR, blkV] at hG1
          go_wp2_with fail
          refine hL1.mono ?_; rintro e w1 ⟨rfl, rfl⟩
          go_wp2_with fail
          refine hG1.mono ?_; rintro e w1 ⟨rfl, k1⟩
          clear hG1 hL1
          have KB := keep_alloc w1 (.cells #[.int .i64 x.off, .int .i64 x.size, .bool x.used] 57)
          have hown1 := (R6.out.own.keepNo k1).keepNo KB
          have hvlt : ∀ i, (Value.slice Ao done.length co).ownBlock = some i → i < w1.heap.size := fun i hi => by have := (R6.out.own).lt i hi; have := k1.size; omega
          obtain ⟨g, cap, w8, ha1, ha2, ha3, ha4, ha5⟩ := append_blk hown1 x hdl 22
          have hsz : (w1.alloc (.cells #[.int .i64 x.off, .int .i64 x.size, .bool x.used] 57)).heap.size = w1.heap.size + 1 := by simp
          rw [hsz] at ha1 ha4
          clear hsz
          have hbx := ha3.heap (fun e => by have := hvlt _ e; omega) (heap_alloc_new w1 (.cells #[.int .i64 x.off, .int .i64 x.size, .bool x.used] 57))
          obtain ⟨b0, b1, b2, f0, f1, f2, bl⟩ := bx3 hbx
          have HN : Hid (WkRel w w8 b (.slice (some ⟨g, 0, none⟩) (done.length + 1) cap) (o + x.size)) := hid (by
            cases k with
            | zero => exfalso; omega
            | succ k =>
              refine ⟨done ++ [x], k, ?_, by rw [HLEN.out]; omega, by omega, by rw [HLEN.out]; omega, by simp; omega, ?_, ha2, fun i hi => ?_⟩
              · rw [R1.out, walkGo_next (by rw [HLEN.out]; exact hlt) HX.out (by rw [HLEN.out]; omega), Option.map_map]
                congr 1
                funext r
                simp
              · exact ((R6.out.keep.thenNo k1).thenNo KB).then ha3 (fun i hi e => by have := R6.out.ge i e; omega)
              · have hgi : g = i := Option.some.inj hi
                subst hgi
                have hs := R6.out.keep.size
                have hs1 := k1.size
                rcases ha4 with q | q
                · exact R6.out.ge _ q
                · omega)
          clear KB hown1 hvlt ha2 ha3 ha4 ha5 hbx f0 f1 f2
          go_wp2_with (at_builtin; refine Lib.wpList_append_run _ rfl (.tmp 25) (.tmp 27) 22 22 rfl _ _ rfl rfl _ _ ha1 ?_)
          refine ⟨⟨o + x.size, rfl, HN.out⟩, ?_⟩
          simp [intOf]; omega
      · have hw : WK = some done := by
          rw [← HWK.out, R1.out, walkGo_stop (by rw [HLEN.out]; omega)]; simp
        subst hw
        go_wp2_with fail
        refine hL1.mono ?_; rintro e w1 ⟨rfl, rfl⟩
        go_wp2
        go_ret2
        exact ⟨_, rfl, R6.out⟩
end Go.Proofs.Ytnldmhljggcnpaa
namespace Go.Proofs.Ytnldmhljggcnpaa
set_option linter.unusedSimpArgs false
set_option linter.unusedVariables false
open Go.RowKit Cantle
set_option maxRecDepth 100000
set_option maxHeartbeats 2000000
theorem block_Set_no {w : World} {p : Nat} {V : Value} {s : ArS} (h : Ar w p V s) (x : Blk) (hx : bset s.b x = none) :
    Calls Try.prog 35 #[.pointer (some ⟨p, 0, none⟩), blkV x] w fun e w' => e = .returned (errV 1) ∧ Keep No w w' := by
  have hk := keep_alloc w (.cells #[.int .i64 x.off, .int .i64 x.size, .bool x.used] 57)
  have hbx := heap_alloc_new w (.cells #[.int .i64 x.off, .int .i64 x.size, .bool x.used] 57)
  obtain ⟨b0, b1, b2, f0, f1, f2, bl⟩ := bx3 hbx
  have HP := hid (fun wx => tag_Pack x.size x.used wx)
  have HF := hid (fun h1 h2 => block_fits (h.keepNo hk) x.off x.size h1 h2)
  have hx' : ¬ (isSize x.size = true ∧ could s.b.length x.off x.size = true) := by
    intro h; unfold bset at hx; rw [if_pos h] at hx; cases hx
  clear h hx hbx
  simp only [blkV]
  cases g1 : isSize x.size with
  | false =>
    have hp : pack x.size x.used = 0 := by unfold pack; rw [g1]; rfl
    have HP := HP.out
    rw [hp] at HP
    clear hp g1 hx'
    go_enter Try.func35, Try.ntmps35
    go_wp2_with fail
    refine (HP _).mono ?_; rintro e w1 ⟨rfl, rfl⟩
    go_wp2
    go_ret
    exact ⟨rfl, hk⟩
  | true =>
    have g2 : could s.b.length x.off x.size = false := by
      cases g : could s.b.length x.off x.size with
      | false => rfl
      | true => exact absurd ⟨g1, g⟩ hx'
    have hs := (isSize_iff _).1 g1
    have hF := HF.out (by omega) (by omega)
    rw [g2] at hF
    have hp : pack x.size x.used ≠ 0 := by unfold pack; rw [g1]; simp; omega
    have hp0 : (((pack x.size x.used : Nat) : Int) == 0) = false := by rw [beq_eq_false_iff_ne]; omega
    have HP := HP.out
    clear hx' g1 g2 hp
    generalize pack x.size x.used = N at *
    go_enter Try.func35, Try.ntmps35
    go_wp2_with fail
    refine (HP _).mono ?_; rintro e w1 ⟨rfl, rfl⟩
    go_wp2_with fail
    refine hF.mono ?_; rintro e w1 ⟨rfl, rfl⟩
    go_wp2
    go_ret
    exact ⟨rfl, hk⟩
theorem block_Set_ok {w : World} {p : Nat} {V : Value} {s : ArS} (h : Ar w p V s) (x : Blk) {b' : List UInt8} (hx : bset s.b x = some b') :
    Calls Try.prog 35 #[.pointer (some ⟨p, 0, none⟩), blkV x] w fun e w' => e = .returned .nilIface ∧ Mut w w' p V V { s with b := b' } := by
  have hk := keep_alloc w (.cells #[.int .i64 x.off, .int .i64 x.size, .bool x.used] 57)
  have hbx := heap_alloc_new w (.cells #[.int .i64 x.off, .int .i64 x.size, .bool x.used] 57)
  obtain ⟨b0, b1, b2, f0, f1, f2, bl⟩ := bx3 hbx
  have HP := hid (fun wx => tag_Pack x.size x.used wx)
  have hFb : w.heap.size ≠ p := by have := lt_blk h.hp; omega
  have hFv : V.ownBlock ≠ some w.heap.size := fun e => by have := h.lt _ (.inr e); omega
  have hx' : isSize x.size = true ∧ could s.b.length x.off x.size = true := by
    unfold bset at hx; split at hx
    · assumption
    · cases hx
  obtain ⟨g1, g2⟩ := hx'
  unfold bset at hx
  rw [if_pos ⟨g1, g2⟩] at hx
  have hx := Option.some.inj hx
  have hs := (isSize_iff _).1 g1
  have hF := block_fits (h.keepNo hk) x.off x.size (by omega) (by omega)
  rw [g2] at hF
  have hg := could_iff.1 g2
  have hll := h.len_le
  have hcl := h.cap_le
  have hpl : pack x.size x.used < 18446744073709551616 := Nat.lt_of_lt_of_le pack_lt (by decide)
  have hp : pack x.size x.used ≠ 0 := by unfold pack; rw [g1]; simp; omega
  have hp0 : (((pack x.size x.used : Nat) : Int) == 0) = false := by rw [beq_eq_false_iff_ne]; omega
  obtain ⟨o, ho⟩ := Int.eq_ofNat_of_zero_le (show 0 ≤ x.off by omega)
  obtain ⟨z, hz⟩ := Int.eq_ofNat_of_zero_le (show 0 ≤ x.size by omega)
  clear g1 g2
  simp only [blkV]
  generalize hN : pack x.size x.used = N at *
  obtain ⟨xo, xs, xu⟩ := x
  simp only at *
  subst ho; subst hz
  rw [Int.toNat_natCast, show ((o : Int) + (z : Int) - 8).toNat = o + z - 8 from by omega] at hx
  have HS1 := hid (fun wx (hA : Ar wx p V s) => arena_SetWord hA o N (by omega) hpl)
  have HS2 := hid (fun wx (hA : Ar wx p V { s with b := lay s.b o N }) => arena_SetWord hA (o + z - 8) N (by omega) hpl)
  have HB := hid (fun wx s' (hA : Ar wx p V s') => arena_Base hA)
  have HX := hid hx
  have HN := hid hN
  have HH := hid h
  have hb := h.base_le
  clear hx hN h hp hbx
  go_enter Try.func35, Try.ntmps35
  go_wp2_with fail
  refine (HP.out _).mono ?_; rintro e w1 ⟨rfl, rfl⟩
  go_wp2_with fail
  refine hF.mono ?_; rintro e w1 ⟨rfl, rfl⟩
  go_wp2_with fail
  have A0 : Ar (w.alloc (.cells #[.int .i64 (o : Int), .int .i64 (z : Int), .bool xu] 57)).drew p V s := (HH.out.keepNo hk).keepNo (Keep.drew _ _)
  have w0 : IntKind.u64.wrap (o : Int) = o := by rw [IntKind.wrap_u64]; omega
  have w1 : IntKind.u64.wrap ((s.base : Int) + (o : Int)) = (s.base : Int) + (o : Int) := by rw [IntKind.wrap_u64]; omega
  have hs1 := HS1.out _ A0
  rw [cast_add, if_pos (by omega)] at hs1
  simp only [errV] at hs1
  have hb1 := HB.out _ _ A0
  go_region_held3 (fun w' => w'.cell? ⟨w.heap.size, 0, none⟩ = some (.int .i64 (o : Int)) ∧ w'.cell? ⟨w.heap.size, 1, none⟩ = some (.int .i64 (z : Int)))
    (first | exact ⟨b0, b1⟩ | exact ⟨W1.out.keep.cell hFv b0, W1.out.keep.cell hFv b1⟩)
    (first
      | (go_at_call 51; refine hb1.mono ?_; rintro e wa ⟨rfl, rfl⟩)
      | (go_at_call 113; refine hs1.mono ?_; rintro e wb ⟨rfl, hW1⟩; have W1 := hid hW1; clear hW1))
  all_goals
    go_wp2_with fail
    have c0 := W1.out.keep.cell hFv b0
    have c1 := W1.out.keep.cell hFv b1
    clear hs1 hb1 w1
    have A1 := W1.out.ar.keepNo (Keep.drew No wb)
    have hs2 := HS2.out _ A1
    have hb2 := HB.out _ _ A1
    have w1 : IntKind.u64.wrap ((o : Int) + (z : Int) - 8) = (o : Int) + (z : Int) - 8 := by rw [IntKind.wrap_u64]; omega
    have w2 : IntKind.u64.wrap ((s.base : Int) + ((o : Int) + (z : Int) - 8)) = (s.base : Int) + ((o : Int) + (z : Int) - 8) := by rw [IntKind.wrap_u64]; omega
    have w3 : IntKind.i64.wrap ((o : Int) + (z : Int)) = (o : Int) + (z : Int) := IntWalk.i64_in _ (by omega)
    have w4 : IntKind.i64.wrap ((o : Int) + (z : Int) - 8) = (o : Int) + (z : Int) - 8 := IntWalk.i64_in _ (by omega)
    rw [lay_length, if_pos (by omega), show ((s.base + (o + z - 8) : Nat) : Int) = (s.base : Int) + ((o : Int) + (z : Int) - 8) from by omega] at hs2
    simp only [errV] at hs2
    go_region_held3 (fun w' => w'.cell? ⟨w.heap.size, 0, none⟩ = some (.int .i64 (o : Int)) ∧ w'.cell? ⟨w.heap.size, 1, none⟩ = some (.int .i64 (z : Int)))
      (first | exact ⟨c0, c1⟩ | exact ⟨W2.out.keep.cell hFv c0, W2.out.keep.cell hFv c1⟩)
      (first
        | (go_at_call 51; refine hb2.mono ?_; rintro e wa ⟨rfl, rfl⟩)
        | (go_at_call 113; refine hs2.mono ?_; rintro e wc ⟨rfl, hW2⟩; have W2 := hid hW2; clear hW2))
    all_goals
      go_wp2
      go_ret
      rw [HX.out] at W2
      refine ⟨rfl, ?_⟩
      have M1 := (Mut.ofNo HH.out (hk.thenNo (Keep.drew No _))).trans W1.out.mut
      exact (M1.thenNo (Keep.drew No _)).trans W2.out.mut
end Go.Proofs.Ytnldmhljggcnpaa
namespace Go.Proofs.Ytnldmhljggcnpaa
set_option linter.unusedSimpArgs false
set_option linter.unusedVariables false
open Go.RowKit Cantle
set_option maxRecDepth 100000
set_option maxHeartbeats 2000000
theorem bitLenAux_pow : ∀ (k f x : Nat), 2 ^ k ≤ x → x < 2 ^ (k + 1) → k < f → Lib.bitLenAux f x = k + 1 := by
  intro k
  induction k with
  | zero =>
    intro f x h1 h2 hf
    obtain rfl : x = 1 := by simp at h1 h2; omega
    obtain ⟨f, rfl⟩ : ∃ g, f = g + 1 := ⟨f - 1, by omega⟩
    cases f with
    | zero => rfl
    | succ f => rfl
  | succ k ih =>
    intro f x h1 h2 hf
    obtain ⟨f, rfl⟩ : ∃ g, f = g + 1 := ⟨f - 1, by omega⟩
    have hx : x ≠ 0 := by have := Nat.two_pow_pos (k + 1); omega
    unfold Lib.bitLenAux
    rw [if_neg hx, ih f (x / 2) (by rw [Nat.pow_succ] at h1; omega) (by rw [Nat.pow_succ] at h2; omega) (by omega)]
    omega
theorem bitLen_pow {k x : Nat} (h1 : 2 ^ k ≤ x) (h2 : x < 2 ^ (k + 1)) (hk : k < 64) : Lib.bitLen x = k + 1 := bitLenAux_pow k 64 x h1 h2 hk
theorem cls_big {s : Int} (h : isSize s = true) (hb : 256 < s) : cls s = 6 + (Lib.bitLen s.toNat : Int) := by
  have h1 := (isSize_iff _).1 h
  obtain ⟨n, rfl⟩ := Int.eq_ofNat_of_zero_le (show 0 ≤ s by omega)
  rw [Int.toNat_natCast]
  unfold cls
  rw [if_pos h, if_neg (by omega)]
  by_cases a1 : (n : Int) < 512
  · rw [if_pos a1, bitLen_pow (k := 8) (by simp; omega) (by simp; omega) (by decide)]; rfl
  rw [if_neg a1]
  by_cases a2 : (n : Int) < 1024
  · rw [if_pos a2, bitLen_pow (k := 9) (by simp; omega) (by simp; omega) (by decide)]; rfl
  rw [if_neg a2]
  by_cases a3 : (n : Int) < 2048
  · rw [if_pos a3, bitLen_pow (k := 10) (by simp; omega) (by simp; omega) (by decide)]; rfl
  rw [if_neg a3]
  by_cases a4 : (n : Int) < 4096
  · rw [if_pos a4, bitLen_pow (k := 11) (by simp; omega) (by simp; omega) (by decide)]; rfl
  rw [if_neg a4]
  by_cases a5 : (n : Int) < 8192
  · rw [if_pos a5, bitLen_pow (k := 12) (by simp; omega) (by simp; omega) (by decide)]; rfl
  rw [if_neg a5]
  by_cases a6 : (n : Int) < 16384
  · rw [if_pos a6, bitLen_pow (k := 13) (by simp; omega) (by simp; omega) (by decide)]; rfl
  · rw [if_neg a6, bitLen_pow (k := 14) (by simp; omega) (by simp; omega) (by decide)]; rfl
theorem class_Class (s : Int) (w : World) : Calls Try.prog 122 #[.int .i64 s] w fun e w' => e = .returned (.int .i64 (cls s)) ∧ w = w' := by
  by_cases g1 : s < 32
  · have hc : cls s = -1 := cls_none (by rw [← Bool.not_eq_true, isSize_iff]; omega)
    rw [hc]
    clear hc
    go_enter Try.func122, Try.ntmps122
    go_wp2
    go_ret
    exact ⟨rfl, rfl⟩
  by_cases g2 : 16384 < s
  · have hc : cls s = -1 := cls_none (by rw [← Bool.not_eq_true, isSize_iff]; omega)
    rw [hc]
    clear hc
    go_enter Try.func122, Try.ntmps122
    go_wp2
    go_ret
    exact ⟨rfl, rfl⟩
  by_cases g3 : s % 16 = 0
  · have hs : isSize s = true := (isSize_iff _).2 (by omega)
    have b3 : ((s % 16) != 0) = false := by rw [bne_eq_false_iff_eq]; exact g3
    by_cases g4 : s ≤ 256
    · have hc : cls s = s / 16 - 2 := by unfold cls; rw [if_pos hs, if_pos g4]
      rw [hc]
      clear hc hs g3
      go_enter Try.func122, Try.ntmps122
      go_wp2
      go_ret
      exact ⟨rfl, rfl⟩
    · have hc := cls_big hs (by omega)
      have hB := fun wx => Try.bits_Len s wx (by omega) (by omega)
      have hbl : Lib.bitLen s.toNat ≤ 64 := Any.bitLen_leU s (by omega) (by omega)
      have hw : IntKind.u64.wrap s = s := by rw [IntKind.wrap_u64]; omega
      rw [hc]
      clear hc hs g3
      generalize Lib.bitLen s.toNat = B at *
      go_enter Try.func122, Try.ntmps122
      go_wp2_with fail
      refine (hB _).mono ?_; rintro e w1 ⟨rfl, rfl⟩
      go_wp2
      go_ret
      exact ⟨rfl, rfl⟩
  · have hc : cls s = -1 := cls_none (by rw [← Bool.not_eq_true, isSize_iff]; omega)
    have b3 : ((s % 16) != 0) = true := by rw [bne_iff_ne]; exact g3
    rw [hc]
    clear hc g3
    go_enter Try.func122, Try.ntmps122
    go_wp2
    go_ret
    exact ⟨rfl, rfl⟩
theorem list_head (c : Nat) (hc : c ≤ 10000) (w : World) : Calls Try.prog 117 #[.int .i64 c] w fun e w' => e = .returned (.int .i64 (hd c : Nat)) ∧ w = w' := by
  unfold hd
  go_enter Try.func117, Try.ntmps117
  go_wp2
  go_ret
  refine ⟨?_, rfl⟩
  rfl
theorem list_word {w : World} {p : Nat} {V : Value} {s : ArS} (h : Ar w p V s) (o : Int) (h0 : 0 ≤ o) (h1 : o ≤ 1000000) :
    Calls Try.prog 116 #[.pointer (some ⟨p, 0, none⟩), .int .i64 o] w fun e w' => e = .returned (.int .u64 (num s.b o.toNat : Nat)) ∧ w = w' := by
  obtain ⟨k, rfl⟩ := Int.eq_ofNat_of_zero_le h0
  rw [Int.toNat_natCast]
  have hb := h.base_le
  have hB := arena_Base h
  have hW := arena_Word h k (by omega)
  rw [cast_add] at hW
  have HN := hid (fun hn => num_none (b := s.b) (o := k) hn)
  clear h
  generalize s.base = base at *
  generalize s.b = b at *
  by_cases hin : k + 8 ≤ b.length
  · rw [if_pos hin] at hW
    simp only [errV] at hW
    generalize num b k = N at *
    clear hin HN
    go_enter Try.func116, Try.ntmps116
    go_wp2_with fail
    refine hB.mono ?_; rintro e w1 ⟨rfl, rfl⟩
    go_wp2_with fail
    refine hW.mono ?_; rintro e w1 ⟨rfl, rfl⟩
    go_wp2
    go_ret
    exact ⟨rfl, rfl⟩
  · rw [if_neg hin] at hW
    rw [HN.out (by omega)] at hW ⊢
    simp only [errV] at hW
    clear hin HN
    go_enter Try.func116, Try.ntmps116
    go_wp2_with fail
    refine hB.mono ?_; rintro e w1 ⟨rfl, rfl⟩
    go_wp2_with fail
    refine hW.mono ?_; rintro e w1 ⟨rfl, rfl⟩
    go_wp2
    go_ret
    exact ⟨rfl, rfl⟩
theorem list_set {w : World} {p : Nat} {V : Value} {s : ArS} (h : Ar w p V s) (o : Int) (v : Nat) (h0 : 0 ≤ o) (h1 : o ≤ 1000000) (hv : v < 18446744073709551616) :
    Calls Try.prog 119 #[.pointer (some ⟨p, 0, none⟩), .int .i64 o, .int .u64 v] w fun e w' => e = .returned (.tuple #[]) ∧ Wrote w w' p V { s with b := lay s.b o.toNat v } := by
  obtain ⟨k, rfl⟩ := Int.eq_ofNat_of_zero_le h0
  rw [Int.toNat_natCast]
  have hb := h.base_le
  have hB := arena_Base h
  have hS := arena_SetWord h k v (by omega) hv
  rw [cast_add] at hS
  clear h
  generalize hbs : s.base = base at *
  by_cases hin : k + 8 ≤ s.b.length
  · rw [if_pos hin] at hS
    simp only [errV] at hS
    clear hin hbs
    go_enter Try.func119, Try.ntmps119
    go_wp2_with fail
    refine hB.mono ?_; rintro e w1 ⟨rfl, rfl⟩
    go_wp2_with fail
    refine hS.mono ?_; rintro e w1 ⟨rfl, hW⟩
    go_wp2
    go_end0
    exact ⟨rfl, hW⟩
  · rw [if_neg hin] at hS
    simp only [errV] at hS
    clear hin hbs
    go_enter Try.func119, Try.ntmps119
    go_wp2_with fail
    refine hB.mono ?_; rintro e w1 ⟨rfl, rfl⟩
    go_wp2_with fail
    refine hS.mono ?_; rintro e w1 ⟨rfl, hW⟩
    go_wp2
    exact bodyPost_ret (results_none rfl _ _ _) rfl ⟨rfl, hW⟩
end Go.Proofs.Ytnldmhljggcnpaa
namespace Go.Proofs.Ytnldmhljggcnpaa
set_option linter.unusedSimpArgs false
set_option linter.unusedVariables false
open Go.RowKit Cantle
set_option maxRecDepth 100000
set_option maxHeartbeats 2000000
theorem list_member {w : World} {p : Nat} {V : Value} {s : ArS} (h : Ar w p V s) (at_ : Nat) (c : Int) (ha : at_ < 18446744073709551616) :
    Calls Try.prog 118 #[.pointer (some ⟨p, 0, none⟩), .int .u64 at_, .int .i64 c] w fun e w' => e = .returned (.bool (member s.b at_ c)) ∧ Keep No w w' := by
  by_cases g0 : 16384 < at_
  · have hm : member s.b at_ c = false := by unfold member; rw [decide_eq_false (by omega)]; rfl
    rw [hm]
    clear hm h
    go_enter Try.func118, Try.ntmps118
    go_wp2
    go_ret
    exact ⟨rfl, Keep.refl _ _⟩
  · have hm : member s.b at_ c = (match bget s.b at_ with | none => false | some x => !x.used && cls x.size == c) := by unfold member; rw [decide_eq_true (by omega), Bool.true_and] <;> rfl
    have hG := block_Get h (at_ : Int)
    have hi : IntKind.i64.wrap (at_ : Int) = at_ := IntWalk.i64_in _ (by omega)
    have hC := fun s wx => class_Class s wx
    rw [hm]
    clear hm h
    cases hg : bget s.b (at_ : Int) with
    | none =>
      rw [hg] at hG
      simp only [blkR, errV] at hG ⊢
      clear hg
      go_enter Try.func118, Try.ntmps118
      go_wp2_with fail
      refine hG.mono ?_; rintro e w1 ⟨rfl, k1⟩
      go_wp2
      go_ret
      exact ⟨rfl, k1.thenNo (keep_alloc _ _)⟩
    | some x =>
      obtain ⟨xo, xs, xu⟩ := x
      rw [hg] at hG
      simp only [blkR, blkV] at hG ⊢
      clear hg
      cases xu with
      | true =>
        go_enter Try.func118, Try.ntmps118
        go_wp2_with fail
        refine hG.mono ?_; rintro e w1 ⟨rfl, k1⟩
        go_wp2
        go_ret
        exact ⟨rfl, k1.thenNo (keep_alloc _ _)⟩
      | false =>
        have hC := fun wx => hC xs wx
        generalize cls xs = C at *
        go_enter Try.func118, Try.ntmps118
        go_wp2_with fail
        refine hG.mono ?_; rintro e w1 ⟨rfl, k1⟩
        go_wp2_with fail
        refine (hC _).mono ?_; rintro e w2 ⟨rfl, rfl⟩
        go_wp2
        go_ret
        refine ⟨?_, k1.thenNo (keep_alloc _ _)⟩
        simp
def freeR : Option Nat → Value
  | none => .tuple #[.int .i64 0, errV 3]
  | some c => .tuple #[.int .i64 (c : Int), .nilIface]
theorem list_free {w : World} {p : Nat} {V : Value} {s : ArS} (h : Ar w p V s) (o : Int) :
    Calls Try.prog 115 #[.pointer (some ⟨p, 0, none⟩), .int .i64 o] w fun e w' => e = .returned (freeR (freeC s.b o)) ∧ Keep No w w' := by
  have hG := block_Get h o
  clear h
  cases hg : bget s.b o with
  | none =>
    have hf : freeC s.b o = none := by unfold freeC; rw [hg]
    rw [hg] at hG
    rw [hf]
    simp only [blkR, errV] at hG ⊢
    clear hg hf
    go_enter Try.func115, Try.ntmps115
    go_wp2_with fail
    refine hG.mono ?_; rintro e w1 ⟨rfl, k1⟩
    go_wp2
    go_ret2
    exact ⟨rfl, k1.thenNo (keep_alloc _ _)⟩
  | some x =>
    have hr := cls_range (bget_some hg).2.2.2.2.1
    have hf : freeC s.b o = if x.used then none else some (cls x.size).toNat := by unfold freeC; rw [hg]
    obtain ⟨xo, xs, xu⟩ := x
    rw [hg] at hG
    rw [hf]
    simp only [blkR, blkV] at hG hr ⊢
    clear hg hf
    cases xu with
    | true =>
      simp only [if_true]
      go_enter Try.func115, Try.ntmps115
      go_wp2_with fail
      refine hG.mono ?_; rintro e w1 ⟨rfl, k1⟩
      go_wp2
      go_ret2
      exact ⟨rfl, k1.thenNo (keep_alloc _ _)⟩
    | false =>
      have hC := fun wx => class_Class xs wx
      obtain ⟨C, hCe⟩ := Int.eq_ofNat_of_zero_le hr.1
      rw [hCe] at hC ⊢
      clear hr hCe
      simp only [Bool.false_eq_true, if_false, Int.toNat_natCast, freeR]
      go_enter Try.func115, Try.ntmps115
      go_wp2_with fail
      refine hG.mono ?_; rintro e w1 ⟨rfl, k1⟩
      go_wp2_with fail
      refine (hC _).mono ?_; rintro e w2 ⟨rfl, rfl⟩
      go_wp2
      go_ret2
      exact ⟨rfl, k1.thenNo (keep_alloc _ _)⟩
theorem or_bit {w c : Nat} (hw : w < 18446744073709551616) (hc : c < 64) : bits .or .u64 (w : Int) ((2 ^ c : Nat) : Int) = ((setBit w c : Nat) : Int) := by
  rw [u64_or_nat _ _ hw (Nat.lt_of_lt_of_le (Nat.pow_lt_pow_right (by decide) hc) (by decide))]
  rfl
theorem andNot_bit {w c : Nat} (hw : w < 18446744073709551616) (hc : c < 64) : bits .andNot .u64 (w : Int) ((2 ^ c : Nat) : Int) = ((clearBit w c : Nat) : Int) := by
  rw [u64_andNot_nat _ _ hw (Nat.lt_of_lt_of_le (Nat.pow_lt_pow_right (by decide) hc) (by decide))]
  congr 1
  apply Nat.eq_of_testBit_eq
  intro i
  have hp : 2 ^ c < 2 ^ 64 := Nat.pow_lt_pow_right (by decide) hc
  rw [Nat.testBit_and, clearBit_test, show 18446744073709551615 - 2 ^ c = 2 ^ 64 - (2 ^ c + 1) from by omega, Nat.testBit_two_pow_sub_succ hp, Nat.testBit_two_pow]
  by_cases hi : i < 64
  · simp [hi]
  · have : w.testBit i = false := Nat.testBit_lt_two_pow (Nat.lt_of_lt_of_le hw (by
      have : 2 ^ 64 ≤ 2 ^ i := Nat.pow_le_pow_right (by decide) (by omega)
      simpa using this))
    simp [this]
theorem list_mark {w : World} {p : Nat} {V : Value} {s : ArS} (h : Ar w p V s) (c : Nat) (hc : c < 22) :
    Calls Try.prog 120 #[.pointer (some ⟨p, 0, none⟩), .int .i64 c] w fun e w' => e = .returned (.tuple #[]) ∧ Wrote w w' p V { s with b := Cantle.mark s.b c } := by
  have hH := fun wx => list_head c (by omega) wx
  have hd2 : hd c ≤ 1000000 := by unfold hd; omega
  have hW := list_word h (hd c : Nat) (by omega) (by omega)
  have hW0 := list_word h 0 (by omega) (by omega)
  rw [Int.toNat_natCast] at hW
  have HS := hid (fun v hv => list_set h 0 v (by omega) (by omega) hv)
  have h1 := andNot_bit (num_lt s.b 0) (show c < 64 by omega)
  have h2 := or_bit (num_lt s.b 0) (show c < 64 by omega)
  have hcl : clearBit (num s.b 0) c < 18446744073709551616 := clearBit_lt (n := 64) (num_lt s.b 0) (by omega)
  have hsl : setBit (num s.b 0) c < 18446744073709551616 := setBit_lt (n := 64) (num_lt s.b 0) (by omega)
  have hsh : IntKind.u64.wrap (2 ^ c) = ((2 ^ c : Nat) : Int) := by
    have hp : (2 : Nat) ^ c < 2 ^ 64 := Nat.pow_lt_pow_right (by decide) (by omega)
    rw [show ((2 : Int) ^ c) = ((2 ^ c : Nat) : Int) from by simp]
    generalize (2 : Nat) ^ c = P at *
    rw [IntKind.wrap_u64]; omega
  have e2c : ((2 ^ c : Nat) : Int) = (2 : Int) ^ c := by simp
  rw [e2c] at h1 h2 hsh
  clear e2c
  have hm : Cantle.mark s.b c = lay s.b 0 (if num s.b (hd c) = 0 then clearBit (num s.b 0) c else setBit (num s.b 0) c) := rfl
  clear h
  simp only [Int.toNat_zero] at hW0 HS
  generalize hd c = H at *
  rw [hm]
  clear hm
  by_cases g : num s.b H = 0
  · rw [if_pos g]
    rw [g] at hW
    have hS := HS.out _ hcl
    generalize num s.b 0 = N at *
    generalize clearBit N c = C at *
    clear g
    go_enter Try.func120, Try.ntmps120
    go_wp2_with fail
    refine (hH _).mono ?_; rintro e w2 ⟨rfl, rfl⟩
    go_wp2_with fail
    refine hW.mono ?_; rintro e w2 ⟨rfl, rfl⟩
    go_wp2_with fail
    refine hW0.mono ?_; rintro e w2 ⟨rfl, rfl⟩
    go_wp2_with fail
    refine hS.mono ?_; rintro e w2 ⟨rfl, hW⟩
    go_wp2
    go_end0
    exact ⟨rfl, hW⟩
  · rw [if_neg g]
    have hS := HS.out _ hsl
    have g' : (((num s.b H : Nat) : Int) == 0) = false := by rw [beq_eq_false_iff_ne]; omega
    generalize num s.b H = M at *
    generalize num s.b 0 = N at *
    generalize setBit N c = C at *
    clear g
    go_enter Try.func120, Try.ntmps120
    go_wp2_with fail
    refine (hH _).mono ?_; rintro e w2 ⟨rfl, rfl⟩
    go_wp2_with fail
    refine hW.mono ?_; rintro e w2 ⟨rfl, rfl⟩
    go_wp2_with fail
    refine hW0.mono ?_; rintro e w2 ⟨rfl, rfl⟩
    go_wp2_with fail
    refine hS.mono ?_; rintro e w2 ⟨rfl, hW⟩
    go_wp2
    go_end0
    exact ⟨rfl, hW⟩
end Go.Proofs.Ytnldmhljggcnpaa
namespace Go.Proofs.Ytnldmhljggcnpaa
set_option linter.unusedSimpArgs false
set_option linter.unusedVariables false
open Go.RowKit Cantle
set_option maxRecDepth 100000
set_option maxHeartbeats 2000000
theorem freeC_some {b : List UInt8} {o : Int} {c : Nat} (h : freeC b o = some c) : c < 22 ∧ 184 ≤ o ∧ o + 32 ≤ b.length ∧ o % 16 = 8 := by
  unfold freeC at h
  split at h
  · cases h
  · rename_i x hx
    split at h
    · cases h
    · have := bget_some hx
      have hr := cls_range this.2.2.2.2.1
      have hs := (isSize_iff _).1 this.2.2.2.2.1
      have := Option.some.inj h
      omega
theorem lput_some {b : List UInt8} {o : Int} {c : Nat} (h : freeC b o = some c) : lput b o = if (num b (hd c) : Int) = o ∨ (num b (hd c) ≠ 0 ∧ member b (num b (hd c)) c = false) then none else
    some (Cantle.mark (lay (if num b (hd c) = 0 then lay (lay b (o.toNat + 8) (num b (hd c))) (o.toNat + 16) 0 else lay (lay (lay b (o.toNat + 8) (num b (hd c))) (o.toNat + 16) 0) (num b (hd c) + 16) o.toNat) (hd c) o.toNat) c) := by
  unfold lput; rw [h]
theorem lput_none {b : List UInt8} {o : Int} (h : freeC b o = none) : lput b o = none := by unfold lput; rw [h]
def TurnR (w w' : World) (p : Nat) (V : Value) (s : ArS) (e : Ending) : Option (List UInt8) → Prop
  | none => e = .returned (errV 3) ∧ Keep No w w'
  | some b' => e = .returned .nilIface ∧ Mut w w' p V V { s with b := b' }
theorem list_Put {w : World} {p : Nat} {V : Value} {s : ArS} (h : Ar w p V s) (o : Int) :
    Calls Try.prog 37 #[.pointer (some ⟨p, 0, none⟩), .int .i64 o] w fun e w' => TurnR w w' p V s e (lput s.b o) := by
  have hF := list_free h o
  cases hf : freeC s.b o with
  | none =>
    rw [hf] at hF
    rw [lput_none hf]
    simp only [freeR, errV, TurnR] at hF ⊢
    clear hf h
    go_enter Try.func37, Try.ntmps37
    go_wp2_with fail
    refine hF.mono ?_; rintro e w1 ⟨rfl, k1⟩
    go_wp2
    go_ret
    exact ⟨rfl, k1⟩
  | some c =>
    rw [hf] at hF
    obtain ⟨hc, ho1, ho2, ho3⟩ := freeC_some hf
    rw [lput_some hf]
    have hll := h.len_le
    have hcl := h.cap_le
    obtain ⟨k, rfl⟩ := Int.eq_ofNat_of_zero_le (show 0 ≤ o by omega)
    rw [Int.toNat_natCast]
    have hd2 : hd c ≤ 1000000 := by unfold hd; omega
    have hH := fun wx => list_head c (by omega) wx
    have HW := hid (fun wx (kk : Keep No w wx) => list_word (h.keepNo kk) (hd c : Nat) (by omega) (by omega))
    have HM := hid (fun wx (kk : Keep No w wx) => list_member (h.keepNo kk) (num s.b (hd c)) c (num_lt _ _))
    have HMK := hid (fun wx s' (hA : Ar wx p V s') => list_mark hA c hc)
    have HAR := hid h
    have hfl := num_lt s.b (hd c)
    have HFL := hid hfl
    have HMB := hid (fun hm : member s.b (num s.b (hd c)) c = true => (show num s.b (hd c) ≤ 16384 from by unfold member at hm; simp at hm; exact hm.1))
    obtain ⟨base, cap, b⟩ := s
    simp only [freeR, Int.toNat_natCast] at *
    clear hf h hfl
    generalize hHd : hd c = H at *
    clear hHd
    generalize num b H = first at *
    by_cases e1 : first = k
    · rw [if_pos (.inl (by omega))]
      simp only [TurnR]
      have e1b : (((first : Nat) : Int) == (k : Int)) = true := by rw [beq_iff_eq]; omega
      clear e1 HMB HFL
      go_enter Try.func37, Try.ntmps37
      go_wp2_with fail
      refine hF.mono ?_; rintro e w1 ⟨rfl, k1⟩
      go_wp2_with fail
      refine (hH _).mono ?_; rintro e w2 ⟨rfl, rfl⟩
      go_wp2_with fail
      refine (HW.out _ k1).mono ?_; rintro e w2 ⟨rfl, rfl⟩
      go_wp2
      go_ret
      exact ⟨rfl, k1⟩
    · have e1b : (((first : Nat) : Int) == (k : Int)) = false := by rw [beq_eq_false_iff_ne]; omega
      by_cases e2 : first = 0
      · subst e2
        rw [if_neg (by omega), if_pos rfl]
        simp only [TurnR]
        clear e1 HMB HFL HM
        have HS1 := hid (fun wx (hA : Ar wx p V ⟨base, cap, b⟩) => list_set hA ((k : Int) + 8) 0 (by omega) (by omega) (by decide))
        have HS2 := hid (fun wx b' (hA : Ar wx p V ⟨base, cap, b'⟩) => list_set hA ((k : Int) + 16) 0 (by omega) (by omega) (by decide))
        have HS3 := hid (fun wx b' (hA : Ar wx p V ⟨base, cap, b'⟩) => list_set hA (H : Nat) k (by omega) (by omega) (by omega))
        have t1 : ((k : Int) + 8).toNat = k + 8 := by omega
        have t2 : ((k : Int) + 16).toNat = k + 16 := by omega
        simp only [t1, t2, Int.toNat_natCast] at HS1 HS2 HS3
        clear t1 t2
        go_enter Try.func37, Try.ntmps37
        go_wp2_with fail
        refine hF.mono ?_; rintro e w1 ⟨rfl, k1⟩
        go_wp2_with fail
        refine (hH _).mono ?_; rintro e w2 ⟨rfl, rfl⟩
        go_wp2_with fail
        refine (HW.out _ k1).mono ?_; rintro e w2 ⟨rfl, rfl⟩
        go_wp2_with fail
        refine (HS1.out _ (HAR.out.keepNo k1)).mono ?_; rintro e w2 ⟨rfl, hA⟩
        go_wp2_with fail
        refine (HS2.out _ _ hA.ar).mono ?_; rintro e w3 ⟨rfl, hB⟩
        go_wp2_with fail
        refine (hH _).mono ?_; rintro e w4 ⟨rfl, rfl⟩
        go_wp2_with fail
        refine (HS3.out _ _ hB.ar).mono ?_; rintro e w4 ⟨rfl, hC⟩
        go_wp2_with fail
        refine (HMK.out _ _ hC.ar).mono ?_; rintro e w5 ⟨rfl, hD⟩
        go_wp2
        go_ret
        exact ⟨rfl, ((((Mut.ofNo HAR.out k1).trans hA.mut).trans hB.mut).trans hC.mut).trans hD.mut⟩
      · have e2b : (((first : Nat) : Int) != 0) = true := by rw [bne_iff_ne]; omega
        cases hm : member b first c with
        | false =>
          rw [hm] at HM
          rw [if_pos (.inr ⟨e2, rfl⟩)]
          simp only [TurnR]
          clear e1 e2 HMB HFL hm
          go_enter Try.func37, Try.ntmps37
          go_wp2_with fail
          refine hF.mono ?_; rintro e w1 ⟨rfl, k1⟩
          go_wp2_with fail
          refine (hH _).mono ?_; rintro e w2 ⟨rfl, rfl⟩
          go_wp2_with fail
          refine (HW.out _ k1).mono ?_; rintro e w2 ⟨rfl, rfl⟩
          go_wp2_with fail
          refine (HM.out _ k1).mono ?_; rintro e w2 ⟨rfl, k2⟩
          go_wp2
          go_ret
          exact ⟨rfl, k1.thenNo k2⟩
        | true =>
          rw [hm] at HM
          have hf1 := HMB.out hm
          have hfl := HFL.out
          rw [if_neg (by simp; omega), if_neg e2]
          simp only [TurnR]
          have HS1 := hid (fun wx (hA : Ar wx p V ⟨base, cap, b⟩) => list_set hA ((k : Int) + 8) first (by omega) (by omega) hfl)
          have HS2 := hid (fun wx b' (hA : Ar wx p V ⟨base, cap, b'⟩) => list_set hA ((k : Int) + 16) 0 (by omega) (by omega) (by decide))
          have HS4 := hid (fun wx b' (hA : Ar wx p V ⟨base, cap, b'⟩) => list_set hA ((first : Int) + 16) k (by omega) (by omega) (by omega))
          have HS3 := hid (fun wx b' (hA : Ar wx p V ⟨base, cap, b'⟩) => list_set hA (H : Nat) k (by omega) (by omega) (by omega))
          have t1 : ((k : Int) + 8).toNat = k + 8 := by omega
          have t2 : ((k : Int) + 16).toNat = k + 16 := by omega
          have t3 : ((first : Int) + 16).toNat = first + 16 := by omega
          simp only [t1, t2, t3, Int.toNat_natCast] at HS1 HS2 HS3 HS4
          clear t1 t2 t3 e1 e2 HMB HFL hm hfl
          go_enter Try.func37, Try.ntmps37
          go_wp2_with fail
          refine hF.mono ?_; rintro e w1 ⟨rfl, k1⟩
          go_wp2_with fail
          refine (hH _).mono ?_; rintro e w2 ⟨rfl, rfl⟩
          go_wp2_with fail
          refine (HW.out _ k1).mono ?_; rintro e w2 ⟨rfl, rfl⟩
          go_wp2_with fail
          refine (HM.out _ k1).mono ?_; rintro e w2 ⟨rfl, k2⟩
          have k2 := k1.thenNo k2
          go_wp2_with fail
          refine (HS1.out _ (HAR.out.keepNo k2)).mono ?_; rintro e w3 ⟨rfl, hA⟩
          go_wp2_with fail
          refine (HS2.out _ _ hA.ar).mono ?_; rintro e w4 ⟨rfl, hB⟩
          go_wp2_with fail
          refine (HS4.out _ _ hB.ar).mono ?_; rintro e w5 ⟨rfl, hB2⟩
          go_wp2_with fail
          refine (hH _).mono ?_; rintro e w6 ⟨rfl, rfl⟩
          go_wp2_with fail
          refine (HS3.out _ _ hB2.ar).mono ?_; rintro e w6 ⟨rfl, hC⟩
          go_wp2_with fail
          refine (HMK.out _ _ hC.ar).mono ?_; rintro e w7 ⟨rfl, hD⟩
          go_wp2
          go_ret
          exact ⟨rfl, (((((Mut.ofNo HAR.out k2).trans hA.mut).trans hB.mut).trans hB2.mut).trans hC.mut).trans hD.mut⟩
end Go.Proofs.Ytnldmhljggcnpaa
namespace Go.Proofs.Ytnldmhljggcnpaa
set_option linter.unusedSimpArgs false
set_option linter.unusedVariables false
open Go.RowKit Cantle
set_option maxRecDepth 100000
set_option maxHeartbeats 4000000
theorem ltake_none {b : List UInt8} {o : Int} (h : freeC b o = none) : ltake b o = none := by unfold ltake; rw [h]
theorem ltake_some {b : List UInt8} {o : Int} {c : Nat} (h : freeC b o = some c) : ltake b o =
    if num b (o.toNat + 16) = 0 ∧ (num b (hd c) : Int) ≠ o then none else
    if num b (o.toNat + 16) ≠ 0 ∧ (member b (num b (o.toNat + 16)) c = false ∨ (num b (num b (o.toNat + 16) + 8) : Int) ≠ o) then none else
    if num b (o.toNat + 8) ≠ 0 ∧ (member b (num b (o.toNat + 8)) c = false ∨ (num b (num b (o.toNat + 8) + 16) : Int) ≠ o) then none else
    some (Cantle.mark (if num b (o.toNat + 8) = 0 then (if num b (o.toNat + 16) = 0 then lay b (hd c) (num b (o.toNat + 8)) else lay b (num b (o.toNat + 16) + 8) (num b (o.toNat + 8)))
      else lay (if num b (o.toNat + 16) = 0 then lay b (hd c) (num b (o.toNat + 8)) else lay b (num b (o.toNat + 16) + 8) (num b (o.toNat + 8))) (num b (o.toNat + 8) + 16) (num b (o.toNat + 16))) c) := by
  unfold ltake; rw [h]
theorem member_le {b : List UInt8} {a : Nat} {c : Int} (h : member b a c = true) : a ≤ 16384 := by
  unfold member at h; simp at h; exact h.1
theorem list_Take {w : World} {p : Nat} {V : Value} {s : ArS} (h : Ar w p V s) (o : Int) :
    Calls Try.prog 38 #[.pointer (some ⟨p, 0, none⟩), .int .i64 o] w fun e w' => TurnR w w' p V s e (ltake s.b o) := by
  have hF := list_free h o
  cases hf : freeC s.b o with
  | none =>
    rw [hf] at hF
    rw [ltake_none hf]
    simp only [freeR, errV, TurnR] at hF ⊢
    clear hf h
    go_enter Try.func38, Try.ntmps38
    go_wp2_with fail
    refine hF.mono ?_; rintro e w1 ⟨rfl, k1⟩
    go_wp2
    go_ret
    exact ⟨rfl, k1⟩
  | some c =>
    rw [hf] at hF
    obtain ⟨hc, ho1, ho2, ho3⟩ := freeC_some hf
    rw [ltake_some hf]
    have hll := h.len_le
    have hcl := h.cap_le
    obtain ⟨k, rfl⟩ := Int.eq_ofNat_of_zero_le (show 0 ≤ o by omega)
    rw [Int.toNat_natCast]
    have hd2 : hd c ≤ 1000000 := by unfold hd; omega
    have hH := fun wx => list_head c (by omega) wx
    have HW := hid (fun wx (kk : Keep No w wx) o h0 h1 => list_word (h.keepNo kk) o h0 h1)
    have HM := hid (fun wx (kk : Keep No w wx) a ha => list_member (h.keepNo kk) a c ha)
    have HMK := hid (fun wx s' (hA : Ar wx p V s') => list_mark hA c hc)
    have HST := hid (fun wx s' (hA : Ar wx p V s') o v h0 h1 hv => list_set hA o v h0 h1 hv)
    have HAR := hid h
    have HP := hid (fun wx (kk : Keep No w wx) => HW.out wx kk ((k : Int) + 16) (by omega) (by omega))
    have HN := hid (fun wx (kk : Keep No w wx) => HW.out wx kk ((k : Int) + 8) (by omega) (by omega))
    have HH := hid (fun wx (kk : Keep No w wx) => HW.out wx kk (hd c : Nat) (by omega) (by omega))
    rw [show ((k : Int) + 16).toNat = k + 16 from by omega] at HP
    rw [show ((k : Int) + 8).toNat = k + 8 from by omega] at HN
    rw [Int.toNat_natCast] at HH
    have hpl := num_lt s.b (k + 16)
    have hnl := num_lt s.b (k + 8)
    obtain ⟨base, cap, b⟩ := s
    simp only [freeR] at *
    clear hf h
    generalize hHd : hd c = H at *
    clear hHd
    generalize num b H = hv at *
    generalize num b (k + 16) = p' at *
    generalize num b (k + 8) = n at *
    have HPL := hid hpl
    have HNL := hid hnl
    clear hpl hnl
    by_cases ep : p' = 0
    · subst ep
      by_cases eh : (hv : Int) = k
      · have ehb : (((hv : Nat) : Int) != (k : Int)) = false := by rw [bne_eq_false_iff_eq]; exact eh
        rw [if_neg (by simp [eh]), if_neg (by simp)]
        clear eh
        by_cases en : n = 0
        · subst en
          rw [if_neg (by simp), if_pos rfl, if_pos rfl]
          simp only [TurnR]
          have S1 := hid (fun wx s' (hA : Ar wx p V s') => HST.out wx s' hA (H : Nat) 0 (by omega) (by omega) (by decide))
          rw [Int.toNat_natCast] at S1
          clear HW HM HST HPL HNL
          go_enter Try.func38, Try.ntmps38
          go_wp2_with fail
          refine hF.mono ?_; rintro e w1 ⟨rfl, k1⟩
          go_wp2_with fail
          refine (HP.out _ k1).mono ?_; rintro e wa ⟨rfl, rfl⟩
          go_wp2_with fail
          refine (HN.out _ k1).mono ?_; rintro e wa ⟨rfl, rfl⟩
          go_wp2_with fail
          refine (hH _).mono ?_; rintro e wa ⟨rfl, rfl⟩
          go_wp2_with fail
          refine (HH.out _ k1).mono ?_; rintro e wa ⟨rfl, rfl⟩
          go_wp2_with fail
          refine (hH _).mono ?_; rintro e wa ⟨rfl, rfl⟩
          go_wp2_with fail
          refine (S1.out _ _ (HAR.out.keepNo k1)).mono ?_; rintro e w2 ⟨rfl, m2⟩
          go_wp2_with fail
          refine (HMK.out _ _ m2.ar).mono ?_; rintro e w3 ⟨rfl, m3⟩
          go_wp2
          go_ret
          exact ⟨rfl, (((Mut.ofNo HAR.out k1).trans m2.mut).trans m3.mut)⟩
        · have enb : (((n : Nat) : Int) != 0) = true := by rw [bne_iff_ne]; omega
          have MN := hid (fun wx (kk : Keep No w wx) => HM.out wx kk n HNL.out)
          cases hmn : member b n c with
          | false =>
            rw [hmn] at MN
            rw [if_pos ⟨en, .inl rfl⟩]
            simp only [TurnR]
            clear HW HM HST HPL HNL hmn en
            go_enter Try.func38, Try.ntmps38
            go_wp2_with fail
            refine hF.mono ?_; rintro e w1 ⟨rfl, k1⟩
            go_wp2_with fail
            refine (HP.out _ k1).mono ?_; rintro e wa ⟨rfl, rfl⟩
            go_wp2_with fail
            refine (HN.out _ k1).mono ?_; rintro e wa ⟨rfl, rfl⟩
            go_wp2_with fail
            refine (hH _).mono ?_; rintro e wa ⟨rfl, rfl⟩
            go_wp2_with fail
            refine (HH.out _ k1).mono ?_; rintro e wa ⟨rfl, rfl⟩
            go_wp2_with fail
            refine (MN.out _ k1).mono ?_; rintro e w2 ⟨rfl, k2⟩
            have k2 := k1.thenNo k2
            go_wp2
            go_ret
            exact ⟨rfl, k2⟩
          | true =>
            rw [hmn] at MN
            have hn16 := member_le hmn
            have N16 := hid (fun wx (kk : Keep No w wx) => HW.out wx kk ((n : Int) + 16) (by omega) (by omega))
            rw [show ((n : Int) + 16).toNat = n + 16 from by omega] at N16
            clear hmn
            generalize num b (n + 16) = nv at *
            by_cases ev : (nv : Int) = k
            · have evb : (((nv : Nat) : Int) != (k : Int)) = false := by rw [bne_eq_false_iff_eq]; exact ev
              rw [if_neg (by simp [ev]), if_neg en, if_pos rfl]
              simp only [TurnR]
              have hnl := HNL.out
              have hpl := HPL.out
              have S1 := hid (fun wx s' (hA : Ar wx p V s') => HST.out wx s' hA (H : Nat) n (by omega) (by omega) hnl)
              rw [Int.toNat_natCast] at S1
              have S2 := hid (fun wx s' (hA : Ar wx p V s') => HST.out wx s' hA ((n : Int) + 16) 0 (by omega) (by omega) (by decide))
              rw [show ((n : Int) + 16).toNat = n + 16 from by omega] at S2
              clear HW HM HST HPL HNL ev en hnl hpl
              go_enter Try.func38, Try.ntmps38
              go_wp2_with fail
              refine hF.mono ?_; rintro e w1 ⟨rfl, k1⟩
              go_wp2_with fail
              refine (HP.out _ k1).mono ?_; rintro e wa ⟨rfl, rfl⟩
              go_wp2_with fail
              refine (HN.out _ k1).mono ?_; rintro e wa ⟨rfl, rfl⟩
              go_wp2_with fail
              refine (hH _).mono ?_; rintro e wa ⟨rfl, rfl⟩
              go_wp2_with fail
              refine (HH.out _ k1).mono ?_; rintro e wa ⟨rfl, rfl⟩
              go_wp2_with fail
              refine (MN.out _ k1).mono ?_; rintro e w2 ⟨rfl, k2⟩
              have k2 := k1.thenNo k2
              go_wp2_with fail
              refine (N16.out _ k2).mono ?_; rintro e wa ⟨rfl, rfl⟩
              go_wp2_with fail
              refine (hH _).mono ?_; rintro e wa ⟨rfl, rfl⟩
              go_wp2_with fail
              refine (S1.out _ _ (HAR.out.keepNo k2)).mono ?_; rintro e w3 ⟨rfl, m3⟩
              go_wp2_with fail
              refine (S2.out _ _ m3.ar).mono ?_; rintro e w4 ⟨rfl, m4⟩
              go_wp2_with fail
              refine (HMK.out _ _ m4.ar).mono ?_; rintro e w5 ⟨rfl, m5⟩
              go_wp2
              go_ret
              exact ⟨rfl, ((((Mut.ofNo HAR.out k2).trans m3.mut).trans m4.mut).trans m5.mut)⟩
            · have evb : (((nv : Nat) : Int) != (k : Int)) = true := by rw [bne_iff_ne]; exact ev
              rw [if_pos ⟨en, .inr ev⟩]
              simp only [TurnR]
              clear HW HM HST HPL HNL ev en
              go_enter Try.func38, Try.ntmps38
              go_wp2_with fail
              refine hF.mono ?_; rintro e w1 ⟨rfl, k1⟩
              go_wp2_with fail
              refine (HP.out _ k1).mono ?_; rintro e wa ⟨rfl, rfl⟩
              go_wp2_with fail
              refine (HN.out _ k1).mono ?_; rintro e wa ⟨rfl, rfl⟩
              go_wp2_with fail
              refine (hH _).mono ?_; rintro e wa ⟨rfl, rfl⟩
              go_wp2_with fail
              refine (HH.out _ k1).mono ?_; rintro e wa ⟨rfl, rfl⟩
              go_wp2_with fail
              refine (MN.out _ k1).mono ?_; rintro e w2 ⟨rfl, k2⟩
              have k2 := k1.thenNo k2
              go_wp2_with fail
              refine (N16.out _ k2).mono ?_; rintro e wa ⟨rfl, rfl⟩
              go_wp2
              go_ret
              exact ⟨rfl, k2⟩
      · have ehb : (((hv : Nat) : Int) != (k : Int)) = true := by rw [bne_iff_ne]; exact eh
        rw [if_pos ⟨rfl, eh⟩]
        simp only [TurnR]
        clear HW HM HST HPL HNL eh
        go_enter Try.func38, Try.ntmps38
        go_wp2_with fail
        refine hF.mono ?_; rintro e w1 ⟨rfl, k1⟩
        go_wp2_with fail
        refine (HP.out _ k1).mono ?_; rintro e wa ⟨rfl, rfl⟩
        go_wp2_with fail
        refine (HN.out _ k1).mono ?_; rintro e wa ⟨rfl, rfl⟩
        go_wp2_with fail
        refine (hH _).mono ?_; rintro e wa ⟨rfl, rfl⟩
        go_wp2_with fail
        refine (HH.out _ k1).mono ?_; rintro e wa ⟨rfl, rfl⟩
        go_wp2
        go_ret
        exact ⟨rfl, k1⟩
    · have epb : (((p' : Nat) : Int) == 0) = false := by rw [beq_eq_false_iff_ne]; omega
      have epc : (((p' : Nat) : Int) != 0) = true := by rw [bne_iff_ne]; omega
      rw [if_neg (by simp [ep])]
      have MP := hid (fun wx (kk : Keep No w wx) => HM.out wx kk p' HPL.out)
      cases hmp : member b p' c with
      | false =>
        rw [hmp] at MP
        rw [if_pos ⟨ep, .inl rfl⟩]
        simp only [TurnR]
        clear HW HM HST HPL HNL hmp ep
        go_enter Try.func38, Try.ntmps38
        go_wp2_with fail
        refine hF.mono ?_; rintro e w1 ⟨rfl, k1⟩
        go_wp2_with fail
        refine (HP.out _ k1).mono ?_; rintro e wa ⟨rfl, rfl⟩
        go_wp2_with fail
        refine (HN.out _ k1).mono ?_; rintro e wa ⟨rfl, rfl⟩
        go_wp2_with fail
        refine (MP.out _ k1).mono ?_; rintro e w2 ⟨rfl, k2⟩
        have k2 := k1.thenNo k2
        go_wp2
        go_ret
        exact ⟨rfl, k2⟩
      | true =>
        rw [hmp] at MP
        have hp16 := member_le hmp
        have P8 := hid (fun wx (kk : Keep No w wx) => HW.out wx kk ((p' : Int) + 8) (by omega) (by omega))
        rw [show ((p' : Int) + 8).toNat = p' + 8 from by omega] at P8
        clear hmp
        generalize num b (p' + 8) = pv at *
        by_cases eu : (pv : Int) = k
        · have eub : (((pv : Nat) : Int) != (k : Int)) = false := by rw [bne_eq_false_iff_eq]; exact eu
          rw [if_neg (by simp [eu])]
          clear eu
          by_cases en : n = 0
          · subst en
            rw [if_neg (by simp), if_pos rfl, if_neg ep]
            simp only [TurnR]
            have S1 := hid (fun wx s' (hA : Ar wx p V s') => HST.out wx s' hA ((p' : Int) + 8) 0 (by omega) (by omega) (by decide))
            rw [show ((p' : Int) + 8).toNat = p' + 8 from by omega] at S1
            clear HW HM HST HPL HNL
            clear ep
            go_enter Try.func38, Try.ntmps38
            go_wp2_with fail
            refine hF.mono ?_; rintro e w1 ⟨rfl, k1⟩
            go_wp2_with fail
            refine (HP.out _ k1).mono ?_; rintro e wa ⟨rfl, rfl⟩
            go_wp2_with fail
            refine (HN.out _ k1).mono ?_; rintro e wa ⟨rfl, rfl⟩
            go_wp2_with fail
            refine (MP.out _ k1).mono ?_; rintro e w2 ⟨rfl, k2⟩
            have k2 := k1.thenNo k2
            go_wp2_with fail
            refine (P8.out _ k2).mono ?_; rintro e wa ⟨rfl, rfl⟩
            go_wp2_with fail
            refine (S1.out _ _ (HAR.out.keepNo k2)).mono ?_; rintro e w3 ⟨rfl, m3⟩
            go_wp2_with fail
            refine (HMK.out _ _ m3.ar).mono ?_; rintro e w4 ⟨rfl, m4⟩
            go_wp2
            go_ret
            exact ⟨rfl, (((Mut.ofNo HAR.out k2).trans m3.mut).trans m4.mut)⟩
          · have enb : (((n : Nat) : Int) != 0) = true := by rw [bne_iff_ne]; omega
            have MN := hid (fun wx (kk : Keep No w wx) => HM.out wx kk n HNL.out)
            cases hmn : member b n c with
            | false =>
              rw [hmn] at MN
              rw [if_pos ⟨en, .inl rfl⟩]
              simp only [TurnR]
              clear HW HM HST HPL HNL hmn en ep
              go_enter Try.func38, Try.ntmps38
              go_wp2_with fail
              refine hF.mono ?_; rintro e w1 ⟨rfl, k1⟩
              go_wp2_with fail
              refine (HP.out _ k1).mono ?_; rintro e wa ⟨rfl, rfl⟩
              go_wp2_with fail
              refine (HN.out _ k1).mono ?_; rintro e wa ⟨rfl, rfl⟩
              go_wp2_with fail
              refine (MP.out _ k1).mono ?_; rintro e w2 ⟨rfl, k2⟩
              have k2 := k1.thenNo k2
              go_wp2_with fail
              refine (P8.out _ k2).mono ?_; rintro e wa ⟨rfl, rfl⟩
              go_wp2_with fail
              refine (MN.out _ k2).mono ?_; rintro e w3 ⟨rfl, k3⟩
              have k3 := k2.thenNo k3
              go_wp2
              go_ret
              exact ⟨rfl, k3⟩
            | true =>
              rw [hmn] at MN
              have hn16 := member_le hmn
              have N16 := hid (fun wx (kk : Keep No w wx) => HW.out wx kk ((n : Int) + 16) (by omega) (by omega))
              rw [show ((n : Int) + 16).toNat = n + 16 from by omega] at N16
              clear hmn
              generalize num b (n + 16) = nv at *
              by_cases ev : (nv : Int) = k
              · have evb : (((nv : Nat) : Int) != (k : Int)) = false := by rw [bne_eq_false_iff_eq]; exact ev
                rw [if_neg (by simp [ev]), if_neg en, if_neg ep]
                simp only [TurnR]
                have hnl := HNL.out
                have hpl := HPL.out
                have S1 := hid (fun wx s' (hA : Ar wx p V s') => HST.out wx s' hA ((p' : Int) + 8) n (by omega) (by omega) hnl)
                rw [show ((p' : Int) + 8).toNat = p' + 8 from by omega] at S1
                have S2 := hid (fun wx s' (hA : Ar wx p V s') => HST.out wx s' hA ((n : Int) + 16) p' (by omega) (by omega) hpl)
                rw [show ((n : Int) + 16).toNat = n + 16 from by omega] at S2
                clear HW HM HST HPL HNL ev en hnl hpl ep
                go_enter Try.func38, Try.ntmps38
                go_wp2_with fail
                refine hF.mono ?_; rintro e w1 ⟨rfl, k1⟩
                go_wp2_with fail
                refine (HP.out _ k1).mono ?_; rintro e wa ⟨rfl, rfl⟩
                go_wp2_with fail
                refine (HN.out _ k1).mono ?_; rintro e wa ⟨rfl, rfl⟩
                go_wp2_with fail
                refine (MP.out _ k1).mono ?_; rintro e w2 ⟨rfl, k2⟩
                have k2 := k1.thenNo k2
                go_wp2_with fail
                refine (P8.out _ k2).mono ?_; rintro e wa ⟨rfl, rfl⟩
                go_wp2_with fail
                refine (MN.out _ k2).mono ?_; rintro e w3 ⟨rfl, k3⟩
                have k3 := k2.thenNo k3
                go_wp2_with fail
                refine (N16.out _ k3).mono ?_; rintro e wa ⟨rfl, rfl⟩
                go_wp2_with fail
                refine (S1.out _ _ (HAR.out.keepNo k3)).mono ?_; rintro e w4 ⟨rfl, m4⟩
                go_wp2_with fail
                refine (S2.out _ _ m4.ar).mono ?_; rintro e w5 ⟨rfl, m5⟩
                go_wp2_with fail
                refine (HMK.out _ _ m5.ar).mono ?_; rintro e w6 ⟨rfl, m6⟩
                go_wp2
                go_ret
                exact ⟨rfl, ((((Mut.ofNo HAR.out k3).trans m4.mut).trans m5.mut).trans m6.mut)⟩
              · have evb : (((nv : Nat) : Int) != (k : Int)) = true := by rw [bne_iff_ne]; exact ev
                rw [if_pos ⟨en, .inr ev⟩]
                simp only [TurnR]
                clear HW HM HST HPL HNL ev en ep
                go_enter Try.func38, Try.ntmps38
                go_wp2_with fail
                refine hF.mono ?_; rintro e w1 ⟨rfl, k1⟩
                go_wp2_with fail
                refine (HP.out _ k1).mono ?_; rintro e wa ⟨rfl, rfl⟩
                go_wp2_with fail
                refine (HN.out _ k1).mono ?_; rintro e wa ⟨rfl, rfl⟩
                go_wp2_with fail
                refine (MP.out _ k1).mono ?_; rintro e w2 ⟨rfl, k2⟩
                have k2 := k1.thenNo k2
                go_wp2_with fail
                refine (P8.out _ k2).mono ?_; rintro e wa ⟨rfl, rfl⟩
                go_wp2_with fail
                refine (MN.out _ k2).mono ?_; rintro e w3 ⟨rfl, k3⟩
                have k3 := k2.thenNo k3
                go_wp2_with fail
                refine (N16.out _ k3).mono ?_; rintro e wa ⟨rfl, rfl⟩
                go_wp2
                go_ret
                exact ⟨rfl, k3⟩
        · have eub : (((pv : Nat) : Int) != (k : Int)) = true := by rw [bne_iff_ne]; exact eu
          rw [if_pos ⟨ep, .inr eu⟩]
          simp only [TurnR]
          clear HW HM HST HPL HNL eu ep
          go_enter Try.func38, Try.ntmps38
          go_wp2_with fail
          refine hF.mono ?_; rintro e w1 ⟨rfl, k1⟩
          go_wp2_with fail
          refine (HP.out _ k1).mono ?_; rintro e wa ⟨rfl, rfl⟩
          go_wp2_with fail
          refine (HN.out _ k1).mono ?_; rintro e wa ⟨rfl, rfl⟩
          go_wp2_with fail
          refine (MP.out _ k1).mono ?_; rintro e w2 ⟨rfl, k2⟩
          have k2 := k1.thenNo k2
          go_wp2_with fail
          refine (P8.out _ k2).mono ?_; rintro e wa ⟨rfl, rfl⟩
          go_wp2
          go_ret
          exact ⟨rfl, k2⟩
end Go.Proofs.Ytnldmhljggcnpaa
namespace Go.Proofs.Ytnldmhljggcnpaa
set_option linter.unusedSimpArgs false
set_option linter.unusedVariables false
open Go.RowKit Cantle
set_option maxRecDepth 100000
set_option maxHeartbeats 4000000
def intV (x : Int) : Value := .int .i64 x
def iv (l : List Int) : List Value := l.map intV
theorem iv_length (l : List Int) : (iv l).length = l.length := by simp [iv]
theorem iv_append (a b : List Int) : iv (a ++ b) = iv a ++ iv b := by simp [iv]
theorem iv_one (l : List Int) : ∀ u ∈ iv l, u.oneCell' = true := by
  intro u hu
  simp only [iv, List.mem_map] at hu
  obtain ⟨x, _, rfl⟩ := hu
  rfl
theorem iv_get? (l : List Int) (j : Nat) (h : j < l.length) : (iv l)[j]? = some (.int .i64 l[j]) := by
  rw [iv, List.getElem?_map, List.getElem?_eq_getElem h]; rfl
def OwnI (w : World) (v : Value) (l : List Int) : Prop := w.ownsRow 0 3 1 v l.length (iv l)
theorem OwnI.rd {w : World} {v : Value} {l : List Int} (h : OwnI w v l) : Rd w (fun i => v.ownBlock = some i) v l.length (iv l) := Rd.ofOwn h
theorem OwnI.keep {S : Nat → Prop} {w w' : World} {v : Value} {l : List Int} (h : OwnI w v l) (k : Keep S w w') (hs : ∀ i, v.ownBlock = some i → ¬ S i) : OwnI w' v l := k.owns hs h
theorem OwnI.keepNo {w w' : World} {v : Value} {l : List Int} (h : OwnI w v l) (k : Keep No w w') : OwnI w' v l := h.keep k (fun _ _ q => q)
theorem OwnI.lt {w : World} {v : Value} {l : List Int} (h : OwnI w v l) : ∀ k, v.ownBlock = some k → k < w.heap.size := fun k hk => (World.ownsRow.lt h k hk).2
theorem OwnI.nil (w : World) : OwnI w (.slice none 0 0) [] := World.ownsRow_nil w 0 _ 1
theorem OwnI.form {w : World} {v : Value} {l : List Int} (h : OwnI w v l) : ∃ A c, v = .slice A l.length c ∧ l.length ≤ c ∧ c ≤ 9223372036854775807 := h.rd.form'
structure NewI (w w' : World) (v : Value) (l : List Int) : Prop where
  keep : Keep No w w'
  own : OwnI w' v l
  ge : ∀ k, v.ownBlock = some k → w.heap.size ≤ k
theorem NewI.rd {w w' : World} {v : Value} {l : List Int} (h : NewI w w' v l) : Rd w' (fun i => w.heap.size ≤ i) v l.length (iv l) := h.own.rd.mono fun i _ hi => h.ge i hi
theorem append_int {w : World} {v : Value} {l : List Int} (ho : OwnI w v l) (x : Int) (hm : l.length ≤ 1000000) (ty : TypeId) :
    ∃ g cap w', (Builtin.append_ #[43, 43] ty #[v, .slice (some ⟨w.heap.size, 0, none⟩) 1 1]).run Try.prog (w.alloc (.cells #[.int .i64 x] 3)) = .ok (.slice (some ⟨g, 0, none⟩) (l.length + 1) cap) w' ∧
      OwnI w' (.slice (some ⟨g, 0, none⟩) (l.length + 1) cap) (l ++ [x]) ∧ Keep (fun i => v.ownBlock = some i) w w' ∧ (v.ownBlock = some g ∨ w.heap.size < g) ∧ g < w'.heap.size := by
  obtain ⟨i0, hi, hz0, hz1, hz2⟩ := info_parts info_int
  have ka := keep_alloc w (.cells #[.int .i64 x] 3)
  have hx : Rd (w.alloc (.cells #[.int .i64 x] 3)) (fun _ => True) (.slice (some ⟨w.heap.size, 0, none⟩) 1 1) 1 (iv [x]) :=
    ⟨_, 1, rfl, Nat.le_refl _, by omega, fun _ => ⟨w.heap.size, 0, rfl, trivial, by simp, fun j u hu => by
      rw [cell_blk (heap_alloc_new w _), Nat.zero_add]
      simpa [iv, intV] using hu⟩⟩
  obtain ⟨v', w', hr, h⟩ := append_own (P := Try.prog) _ 0 43 ty 3 i0 (.int .i64 0) 1 8 Try.underlying43 hi hz0 hz1 hz2 rfl (by decide) v _ _ (ho.keepNo ka) _ _ _ _ hx rfl
    (iv_one _) (by unfold maxLen; omega) (by omega) (Nat.zero_le _)
  obtain ⟨g, cap, rfl, _, hg⟩ := h.own.form (by omega)
  refine ⟨g, cap, w', hr, ?_, (ka.no).trans h.keep, ?_, hg⟩
  · have := h.own
    unfold OwnI
    rwa [iv_append, List.length_append]
  · rcases h.lies g rfl with h | h
    · exact .inl h
    · right; simp at h; omega
theorem NewI.snoc {w wr w1 : World} {v : Value} {l : List Int} (h : NewI w wr v l) (k : Keep No wr w1) (x : Int) (hm : l.length ≤ 1000000) (ty : TypeId) :
    ∃ g cap w', (Builtin.append_ #[43, 43] ty #[v, .slice (some ⟨w1.heap.size, 0, none⟩) 1 1]).run Try.prog (w1.alloc (.cells #[.int .i64 x] 3)) = .ok (.slice (some ⟨g, 0, none⟩) (l.length + 1) cap) w' ∧
      NewI w w' (.slice (some ⟨g, 0, none⟩) (l.length + 1) cap) (l ++ [x]) := by
  obtain ⟨g, cap, w', h1, h2, h3, h4, h5⟩ := append_int (h.own.keepNo k) x hm ty
  refine ⟨g, cap, w', h1, (h.keep.thenNo k).then h3 (fun i hi e => by have := h.ge i e; omega), h2, fun i hi => ?_⟩
  have hgi : g = i := Option.some.inj hi
  subst hgi
  have := h.keep.size
  have := k.size
  rcases h4 with q | q
  · exact h.ge _ q
  · omega
def slLen : Value → Nat
  | .slice _ n _ => n
  | _ => 0
def AllRel (w wr : World) (b : List UInt8) (c : Nat) (h0 : Nat) (vo : Value) (at_ last : Nat) : Prop :=
  ∃ (done : List Int) (f : Nat), chain b c 1024 h0 0 = (chain b c f at_ last).map (done ++ ·) ∧ f + done.length = 1024 ∧ at_ < 18446744073709551616 ∧ last < 18446744073709551616 ∧ NewI w wr vo done
def allR (w w' : World) (e : Ending) : Option (List Int) → Prop
  | none => e = .returned (.tuple #[.slice none 0 0, errV 3]) ∧ Keep No w w'
  | some l => ∃ v, e = .returned (.tuple #[v, .nilIface]) ∧ NewI w w' v l
theorem list_All_no {w : World} (p : Nat) (c : Int) (hc : ¬ (0 ≤ c ∧ c < 22)) :
    Calls Try.prog 39 #[.pointer (some ⟨p, 0, none⟩), .int .i64 c] w fun e w' => e = .returned (.tuple #[.slice none 0 0, errV 1]) ∧ w = w' := by
  by_cases g : c < 0
  · clear hc
    go_enter Try.func39, Try.ntmps39
    go_wp2
    go_ret2
    exact ⟨rfl, rfl⟩
  · have g2 : ¬ c < 22 := by omega
    clear hc
    go_enter Try.func39, Try.ntmps39
    go_wp2
    go_ret2
    exact ⟨rfl, rfl⟩
theorem shr_bit (N c : Nat) (hN : N < 18446744073709551616) : bits .and .u64 ((N : Int) / 2 ^ c) 1 = ((N / 2 ^ c % 2 : Nat) : Int) := by
  have e : ((N : Int) / 2 ^ c) = ((N / 2 ^ c : Nat) : Int) := by rw [Int.natCast_ediv]; simp
  have hl : N / 2 ^ c < 18446744073709551616 := Nat.lt_of_le_of_lt (Nat.div_le_self _ _) hN
  rw [e]
  have := u64_and_nat (N / 2 ^ c) 1 hl (by decide)
  rw [nat_mask1] at this
  exact this
theorem testBit_mod (N c : Nat) : N.testBit c = decide (N / 2 ^ c % 2 = 1) := by
  rw [Nat.testBit_eq_decide_div_mod_eq]
theorem list_All {w : World} {p : Nat} {V : Value} {s : ArS} (h : Ar w p V s) (c : Nat) (hc : c < 22) :
    Calls Try.prog 39 #[.pointer (some ⟨p, 0, none⟩), .int .i64 c] w fun e w' => allR w w' e (lall s.b c) := by
  have hL := arena_Len h
  have hll := h.len_le
  have hcl := h.cap_le
  have hH := fun wx => list_head c (by omega) wx
  have hd2 : hd c ≤ 1000000 := by unfold hd; omega
  have HW := hid (fun wx (kk : Keep No w wx) o h0 h1 => list_word (h.keepNo kk) o h0 h1)
  have HM := hid (fun wx (kk : Keep No w wx) a ha => list_member (h.keepNo kk) a c ha)
  clear h
  generalize s.b = b at *
  by_cases g0 : b.length < 184
  · have hn : lall b c = none := by unfold lall; rw [if_pos g0]
    rw [hn]
    simp only [allR]
    have g0' : ((b.length : Nat) : Int) < 184 := by omega
    clear hn HW HM g0
    generalize b.length = len at *
    go_enter Try.func39, Try.ntmps39
    go_wp2_with fail
    refine hL.mono ?_; rintro e w1 ⟨rfl, rfl⟩
    go_wp2
    go_ret2
    exact ⟨rfl, Keep.refl _ _⟩
  · have g0' : ¬ ((b.length : Nat) : Int) < 184 := by omega
    have hWH := HW.out w (Keep.refl _ _) (hd c : Nat) (by omega) (by omega)
    have hW0 := HW.out w (Keep.refl _ _) 0 (by omega) (by omega)
    rw [Int.toNat_natCast] at hWH
    rw [Int.toNat_zero] at hW0
    have hat := num_lt b (hd c)
    have hla : lall b c = if (num b 0).testBit c ≠ decide (num b (hd c) ≠ 0) then none else chain b c 1024 (num b (hd c)) 0 := by unfold lall; rw [if_neg g0]
    rw [testBit_mod] at hla
    have hsb := shr_bit (num b 0) c (num_lt b 0)
    have HAT := hid hat
    have HNA := hid (fun o => num_lt b o)
    rw [hla]
    clear hla g0 hat
    generalize hd c = H at *
    generalize b.length = len at *
    generalize hA0 : num b H = at0 at *
    clear hA0
    generalize num b 0 = N at *
    generalize hMM : N / 2 ^ c % 2 = M at *
    clear hMM
    by_cases e1 : M = 1
    · have e1b : (((M : Nat) : Int) == 1) = true := by rw [beq_iff_eq]; omega
      by_cases e2 : at0 = 0
      · have e2b : (((at0 : Nat) : Int) != 0) = false := by rw [bne_eq_false_iff_eq]; omega
        rw [if_pos (by simp [e1, e2])]
        simp only [allR]
        clear HW HM e1 e2
        go_enter Try.func39, Try.ntmps39
        go_wp2_with fail
        refine hL.mono ?_; rintro e w1 ⟨rfl, rfl⟩
        go_wp2_with fail
        refine (hH _).mono ?_; rintro e w1 ⟨rfl, rfl⟩
        go_wp2_with fail
        refine hWH.mono ?_; rintro e w1 ⟨rfl, rfl⟩
        go_wp2_with fail
        refine hW0.mono ?_; rintro e w1 ⟨rfl, rfl⟩
        go_wp2
        go_ret2
        exact ⟨rfl, Keep.refl _ _⟩
      · have e2b : (((at0 : Nat) : Int) != 0) = true := by rw [bne_iff_ne]; omega
        rw [if_neg (by simp [e1, e2])]
        have e1 := e1
        have HR0 : Hid (AllRel w w b c at0 (.slice none 0 0) at0 0) := hid ⟨[], 1024, by simp, by simp, HAT.out, by decide, Keep.refl _ _, OwnI.nil w, fun k hk => by simp [Value.ownBlock] at hk⟩
        generalize hCH : chain b c 1024 at0 0 = CH
        have HCH := hid hCH
        clear hCH e1 e2
        go_enter Try.func39, Try.ntmps39
        go_wp2_with fail
        refine hL.mono ?_; rintro e w1 ⟨rfl, rfl⟩
        go_wp2_with fail
        refine (hH _).mono ?_; rintro e w1 ⟨rfl, rfl⟩
        go_wp2_with fail
        refine hWH.mono ?_; rintro e w1 ⟨rfl, rfl⟩
        go_wp2_with fail
        refine hW0.mono ?_; rintro e w1 ⟨rfl, rfl⟩
        go_wp2_with fail
        clear hL hWH hW0 hsb e1b e2b
        go_loopw [6, 7, 8] (fun a l vo wr => ∃ at_ last : Nat, a = .int .u64 at_ ∧ l = .int .u64 last ∧ AllRel w wr b c at0 vo at_ last) (fun _ _ vo _ => 1025 - slLen vo)
        case atStart => exact ⟨at0, 0, rfl, rfl, HR0.out⟩
        case round =>
          obtain ⟨at_, last, rfl, rfl, done, f, r1, r2, r3, r4, r5⟩ := hrel
          obtain ⟨Ao, co, rfl, hco1, hco2⟩ := r5.own.form
          have R1 := hid r1
          have R2 := hid r2
          have R3 := hid r3
          have R5 := hid r5
          have hdl : done.length ≤ 1024 := by omega
          clear r1 r2 r5
          by_cases f0 : at_ = 0
          · subst f0
            have hCH : CH = some done := by
              rw [← HCH.out, R1.out]
              have : chain b c f 0 last = some [] := by cases f <;> simp [chain]
              rw [this]; simp
            subst hCH
            clear HW HM HNA
            go_wp2
            go_ret2
            exact ⟨_, rfl, R5.out⟩
          · have f0b : (((at_ : Nat) : Int) != 0) = true := by rw [bne_iff_ne]; omega
            cases f with
            | zero =>
              have hCH : CH = none := by
                rw [← HCH.out, R1.out]; simp [chain, f0]
              subst hCH
              have hfull : ((done.length : Int) == 1024) = true := by rw [beq_iff_eq]; have := R2.out; omega
              clear HW HM HNA f0
              go_wp2
              go_ret2
              exact ⟨rfl, R5.out.keep⟩
            | succ f =>
              have hfull : ((done.length : Int) == 1024) = false := by rw [beq_eq_false_iff_ne]; have := R2.out; omega
              have hM := HM.out wr R5.out.keep at_ R3.out
              cases hm : member b at_ c with
              | false =>
                rw [hm] at hM
                have hCH : CH = none := by
                  rw [← HCH.out, R1.out]; simp [chain, f0, hm]
                subst hCH
                clear HW HM HNA f0 hm
                go_wp2_with fail
                refine hM.mono ?_; rintro e w2 ⟨rfl, k2⟩
                go_wp2
                go_ret2
                exact ⟨rfl, R5.out.keep.thenNo k2⟩
              | true =>
                rw [hm] at hM
                have hle := member_le hm
                have HW16 := hid (fun wx (kk : Keep No w wx) => HW.out wx kk ((at_ : Int) + 16) (by omega) (by omega))
                rw [show ((at_ : Int) + 16).toNat = at_ + 16 from by omega] at HW16
                by_cases f1 : num b (at_ + 16) = last
                · have f1b : (((num b (at_ + 16) : Nat) : Int) != (last : Int)) = false := by rw [bne_eq_false_iff_eq]; omega
                  have HW8 := hid (fun wx (kk : Keep No w wx) => HW.out wx kk ((at_ : Int) + 8) (by omega) (by omega))
                  rw [show ((at_ : Int) + 8).toNat = at_ + 8 from by omega] at HW8
                  have HN : Hid (chain b c (f + 1) at_ last = (chain b c f (num b (at_ + 8)) at_).map ((at_ : Int) :: ·)) := hid (by simp [chain, f0, hm, f1])
                  have HNX := hid (HNA.out (at_ + 8))
                  clear HW HM HNA f0 hm f1
                  generalize num b (at_ + 8) = nx at *
                  generalize num b (at_ + 16) = pv at *
                  go_wp2_with fail
                  refine hM.mono ?_; rintro e w2 ⟨rfl, k2⟩
                  go_wp2_with fail
                  refine (HW16.out _ (R5.out.keep.thenNo k2)).mono ?_; rintro e w3 ⟨rfl, rfl⟩
                  obtain ⟨g, cap, w4, ha1, ha2⟩ := R5.out.snoc k2 (at_ : Int) (by omega) 43
                  have HA2 := hid ha2
                  clear ha2 hM
                  go_wp2_with (at_builtin; refine Lib.wpList_append_run _ rfl (.tmp 56) (.tmp 59) 43 43 rfl _ _ rfl rfl _ _ ha1 ?_)
                  refine (HW8.out _ HA2.out.keep).mono ?_; rintro e w5 ⟨rfl, rfl⟩
                  clear ha1
                  go_wp2
                  refine ⟨⟨nx, at_, rfl, rfl, done ++ [(at_ : Int)], f, ?_, ?_, HNX.out, R3.out, ?_⟩, ?_⟩
                  · rw [R1.out, HN.out, Option.map_map]
                    congr 1
                    funext r
                    simp
                  · have := R2.out; simp; omega
                  · exact HA2.out
                  · simp [slLen]; omega
                · have f1b : (((num b (at_ + 16) : Nat) : Int) != (last : Int)) = true := by rw [bne_iff_ne]; omega
                  have hCH : CH = none := by
                    rw [← HCH.out, R1.out]; simp [chain, f0, hm, f1]
                  subst hCH
                  clear HW HM HNA f0 hm f1
                  generalize num b (at_ + 16) = pv at *
                  go_wp2_with fail
                  refine hM.mono ?_; rintro e w2 ⟨rfl, k2⟩
                  go_wp2_with fail
                  refine (HW16.out _ (R5.out.keep.thenNo k2)).mono ?_; rintro e w3 ⟨rfl, rfl⟩
                  go_wp2
                  go_ret2
                  exact ⟨rfl, R5.out.keep.thenNo k2⟩
    · have e1b : (((M : Nat) : Int) == 1) = false := by rw [beq_eq_false_iff_ne]; omega
      by_cases e2 : at0 = 0
      · have e2b : (((at0 : Nat) : Int) != 0) = false := by rw [bne_eq_false_iff_eq]; omega
        rw [if_neg (by simp [e1, e2])]
        have e1 := e1
        have HR0 : Hid (AllRel w w b c at0 (.slice none 0 0) at0 0) := hid ⟨[], 1024, by simp, by simp, HAT.out, by decide, Keep.refl _ _, OwnI.nil w, fun k hk => by simp [Value.ownBlock] at hk⟩
        generalize hCH : chain b c 1024 at0 0 = CH
        have HCH := hid hCH
        clear hCH e1 e2
        go_enter Try.func39, Try.ntmps39
        go_wp2_with fail
        refine hL.mono ?_; rintro e w1 ⟨rfl, rfl⟩
        go_wp2_with fail
        refine (hH _).mono ?_; rintro e w1 ⟨rfl, rfl⟩
        go_wp2_with fail
        refine hWH.mono ?_; rintro e w1 ⟨rfl, rfl⟩
        go_wp2_with fail
        refine hW0.mono ?_; rintro e w1 ⟨rfl, rfl⟩
        go_wp2_with fail
        clear hL hWH hW0 hsb e1b e2b
        go_loopw [6, 7, 8] (fun a l vo wr => ∃ at_ last : Nat, a = .int .u64 at_ ∧ l = .int .u64 last ∧ AllRel w wr b c at0 vo at_ last) (fun _ _ vo _ => 1025 - slLen vo)
        case atStart => exact ⟨at0, 0, rfl, rfl, HR0.out⟩
        case round =>
          obtain ⟨at_, last, rfl, rfl, done, f, r1, r2, r3, r4, r5⟩ := hrel
          obtain ⟨Ao, co, rfl, hco1, hco2⟩ := r5.own.form
          have R1 := hid r1
          have R2 := hid r2
          have R3 := hid r3
          have R5 := hid r5
          have hdl : done.length ≤ 1024 := by omega
          clear r1 r2 r5
          by_cases f0 : at_ = 0
          · subst f0
            have hCH : CH = some done := by
              rw [← HCH.out, R1.out]
              have : chain b c f 0 last = some [] := by cases f <;> simp [chain]
              rw [this]; simp
            subst hCH
            clear HW HM HNA
            go_wp2
            go_ret2
            exact ⟨_, rfl, R5.out⟩
          · have f0b : (((at_ : Nat) : Int) != 0) = true := by rw [bne_iff_ne]; omega
            cases f with
            | zero =>
              have hCH : CH = none := by
                rw [← HCH.out, R1.out]; simp [chain, f0]
              subst hCH
              have hfull : ((done.length : Int) == 1024) = true := by rw [beq_iff_eq]; have := R2.out; omega
              clear HW HM HNA f0
              go_wp2
              go_ret2
              exact ⟨rfl, R5.out.keep⟩
            | succ f =>
              have hfull : ((done.length : Int) == 1024) = false := by rw [beq_eq_false_iff_ne]; have := R2.out; omega
              have hM := HM.out wr R5.out.keep at_ R3.out
              cases hm : member b at_ c with
              | false =>
                rw [hm] at hM
                have hCH : CH = none := by
                  rw [← HCH.out, R1.out]; simp [chain, f0, hm]
                subst hCH
                clear HW HM HNA f0 hm
                go_wp2_with fail
                refine hM.mono ?_; rintro e w2 ⟨rfl, k2⟩
                go_wp2
                go_ret2
                exact ⟨rfl, R5.out.keep.thenNo k2⟩
              | true =>
                rw [hm] at hM
                have hle := member_le hm
                have HW16 := hid (fun wx (kk : Keep No w wx) => HW.out wx kk ((at_ : Int) + 16) (by omega) (by omega))
                rw [show ((at_ : Int) + 16).toNat = at_ + 16 from by omega] at HW16
                by_cases f1 : num b (at_ + 16) = last
                · have f1b : (((num b (at_ + 16) : Nat) : Int) != (last : Int)) = false := by rw [bne_eq_false_iff_eq]; omega
                  have HW8 := hid (fun wx (kk : Keep No w wx) => HW.out wx kk ((at_ : Int) + 8) (by omega) (by omega))
                  rw [show ((at_ : Int) + 8).toNat = at_ + 8 from by omega] at HW8
                  have HN : Hid (chain b c (f + 1) at_ last = (chain b c f (num b (at_ + 8)) at_).map ((at_ : Int) :: ·)) := hid (by simp [chain, f0, hm, f1])
                  have HNX := hid (HNA.out (at_ + 8))
                  clear HW HM HNA f0 hm f1
                  generalize num b (at_ + 8) = nx at *
                  generalize num b (at_ + 16) = pv at *
                  go_wp2_with fail
                  refine hM.mono ?_; rintro e w2 ⟨rfl, k2⟩
                  go_wp2_with fail
                  refine (HW16.out _ (R5.out.keep.thenNo k2)).mono ?_; rintro e w3 ⟨rfl, rfl⟩
                  obtain ⟨g, cap, w4, ha1, ha2⟩ := R5.out.snoc k2 (at_ : Int) (by omega) 43
                  have HA2 := hid ha2
                  clear ha2 hM
                  go_wp2_with (at_builtin; refine Lib.wpList_append_run _ rfl (.tmp 56) (.tmp 59) 43 43 rfl _ _ rfl rfl _ _ ha1 ?_)
                  refine (HW8.out _ HA2.out.keep).mono ?_; rintro e w5 ⟨rfl, rfl⟩
                  clear ha1
                  go_wp2
                  refine ⟨⟨nx, at_, rfl, rfl, done ++ [(at_ : Int)], f, ?_, ?_, HNX.out, R3.out, ?_⟩, ?_⟩
                  · rw [R1.out, HN.out, Option.map_map]
                    congr 1
                    funext r
                    simp
                  · have := R2.out; simp; omega
                  · exact HA2.out
                  · simp [slLen]; omega
                · have f1b : (((num b (at_ + 16) : Nat) : Int) != (last : Int)) = true := by rw [bne_iff_ne]; omega
                  have hCH : CH = none := by
                    rw [← HCH.out, R1.out]; simp [chain, f0, hm, f1]
                  subst hCH
                  clear HW HM HNA f0 hm f1
                  generalize num b (at_ + 16) = pv at *
                  go_wp2_with fail
                  refine hM.mono ?_; rintro e w2 ⟨rfl, k2⟩
                  go_wp2_with fail
                  refine (HW16.out _ (R5.out.keep.thenNo k2)).mono ?_; rintro e w3 ⟨rfl, rfl⟩
                  go_wp2
                  go_ret2
                  exact ⟨rfl, R5.out.keep.thenNo k2⟩
      · have e2b : (((at0 : Nat) : Int) != 0) = true := by rw [bne_iff_ne]; omega
        rw [if_pos (by simp [e1, e2])]
        simp only [allR]
        clear HW HM e1 e2
        go_enter Try.func39, Try.ntmps39
        go_wp2_with fail
        refine hL.mono ?_; rintro e w1 ⟨rfl, rfl⟩
        go_wp2_with fail
        refine (hH _).mono ?_; rintro e w1 ⟨rfl, rfl⟩
        go_wp2_with fail
        refine hWH.mono ?_; rintro e w1 ⟨rfl, rfl⟩
        go_wp2_with fail
        refine hW0.mono ?_; rintro e w1 ⟨rfl, rfl⟩
        go_wp2
        go_ret2
        exact ⟨rfl, Keep.refl _ _⟩
end Go.Proofs.Ytnldmhljggcnpaa
namespace Go.Proofs.Ytnldmhljggcnpaa
set_option linter.unusedSimpArgs false
set_option linter.unusedVariables false
open Go.RowKit Cantle
set_option maxRecDepth 100000
set_option maxHeartbeats 4000000
theorem putAt_wiped {b : List UInt8} (h : 184 ≤ b.length) : putAt b 0 (List.replicate 184 0) = wiped b := by
  have hl : (List.replicate 184 (0 : UInt8)).length = 184 := List.length_replicate
  unfold putAt wiped
  rw [hl, List.take_zero, List.nil_append, Nat.zero_add]
theorem list_Clear {w : World} {p : Nat} {V : Value} {s : ArS} (h : Ar w p V s) (hl : 184 ≤ s.b.length) :
    Calls Try.prog 121 #[.pointer (some ⟨p, 0, none⟩)] w fun e w' => e = .returned .nilIface ∧ Wrote w w' p V { s with b := wiped s.b } := by
  have hL := arena_Len h
  have hB := arena_Base h
  have hF := arena_Fill_ok h s.base 184 0 (Nat.le_refl _) (by omega)
  rw [Nat.sub_self, putAt_wiped hl] at hF
  have hl2 : ¬ ((s.b.length : Nat) : Int) < 184 := by omega
  clear h hl
  generalize wiped s.b = wb at *
  generalize hlen : s.b.length = len at *
  have HLEN := hid hlen
  clear hlen
  have hz : ((0 : UInt8).toNat : Int) = 0 := rfl
  have hn : ((184 : Nat) : Int) = 184 := rfl
  rw [hz, hn] at hF
  clear hz hn
  generalize hbase : s.base = base at *
  have HBASE := hid hbase
  clear hbase
  go_enter Try.func121, Try.ntmps121
  go_wp2_with fail
  refine hL.mono ?_; rintro e w1 ⟨rfl, rfl⟩
  go_wp2_with fail
  refine hB.mono ?_; rintro e w1 ⟨rfl, rfl⟩
  go_wp2_with fail
  refine hF.mono ?_; rintro e w1 ⟨rfl, hW⟩
  go_wp2
  go_ret
  exact ⟨rfl, hW⟩
structure NewA (w w' : World) (p : Nat) (V : Value) (s : ArS) : Prop where
  ar : Ar w' p V s
  keep : Keep No w w'
  ge : ∀ i, Fp p V i → w.heap.size ≤ i
theorem NewA.keepNo {w w' w2 : World} {p : Nat} {V : Value} {s : ArS} (h : NewA w w' p V s) (k : Keep No w' w2) : NewA w w2 p V s := ⟨h.ar.keepNo k, h.keep.thenNo k, h.ge⟩
theorem NewA.mut {w w' w2 : World} {p : Nat} {V V2 : Value} {s s2 : ArS} (h : NewA w w' p V s) (k : Mut w' w2 p V V2 s2) : NewA w w2 p V2 s2 :=
  ⟨k.ar, h.keep.then k.keep (fun i hi q => by have := h.ge i q; omega), fun i hi => by
    rcases k.lies i hi with q | q
    · exact h.ge i q
    · exact Nat.le_trans h.keep.size q⟩
theorem NewA.old {w0 w w' : World} {p : Nat} {V : Value} {s : ArS} (k : Keep No w0 w) (h : NewA w w' p V s) : NewA w0 w' p V s :=
  ⟨h.ar, k.thenNo h.keep, fun i hi => Nat.le_trans k.size (h.ge i hi)⟩
theorem putAt_all {l : List UInt8} : putAt (([] : List UInt8) ++ List.replicate l.length 0) 0 l = l := by
  unfold putAt; simp
theorem law00_Arena {w : World} (base : Nat) (cap : Int) {F : Nat → Prop} {x : Value} {l : List UInt8} (hm : mayA base cap = true) (hx : Rd w F x l.length (bv l)) (hl : (l.length : Int) ≤ cap) :
    Calls Try.prog 28 #[.int .u64 base, .int .i64 cap, x] w fun e w' => ∃ p V, e = .returned (.pointer (some ⟨p, 0, none⟩)) ∧ NewA w w' p V ⟨base, cap.toNat, l⟩ := by
  have hN := arena_New_ok base cap hm w
  have hcap := (mayA_iff.1 hm).2.2.2
  have hb0 := (mayA_iff.1 hm).2.1
  obtain ⟨A, c, rfl, hc1, hc2⟩ := hx.form'
  have HX := hid hx
  have hG := fun wx p (hA : Ar wx p (.slice none 0 0) ⟨base, cap.toNat, []⟩) => arena_Grow_ok hA l.length (by simp; omega)
  have HS := hid (fun wx p V (k : Keep No w wx) (hA : Ar wx p V ⟨base, cap.toNat, [] ++ List.replicate l.length 0⟩) => arena_Store_ok hA base (hx.keepNo k) (Nat.le_refl _) (by simp))
  have HALL := hid (putAt_all (l := l))
  simp only [Nat.sub_self] at HS
  rw [HALL.out] at HS
  clear hm hx
  have hlg : ¬ cap < (l.length : Int) := by omega
  generalize hlen : l.length = len at *
  clear hlen HALL HX
  go_enter Try.func28, Try.ntmps28
  go_wp2_with fail
  refine hN.mono ?_; rintro e w1 ⟨p, rfl, hA, k1, hge⟩
  have hG1 := hG w1 p hA
  go_wp2_with fail
  refine hG1.mono ?_; rintro e w2 ⟨rfl, V', hM⟩
  have k2 : Keep No w w2 := k1.then hM.keep (fun i hi q => by
    rcases q with q | q
    · omega
    · simp [Value.ownBlock] at q)
  have hS := HS.out w2 p V' k2 hM.ar
  go_wp2_with fail
  refine hS.mono ?_; rintro e w3 ⟨rfl, hW⟩
  go_wp2
  go_ret
  have hM2 := hM.trans hW.mut
  have h0 : NewA w w1 p (.slice none 0 0) ⟨base, cap.toNat, []⟩ := ⟨hA, k1, fun i hi => by
    rcases hi with q | q
    · omega
    · simp [Value.ownBlock] at q⟩
  exact ⟨p, V', rfl, h0.mut hM2⟩
theorem law00_Bytes {w : World} {p : Nat} {V : Value} {s : ArS} (h : Ar w p V s) :
    Calls Try.prog 32 #[.pointer (some ⟨p, 0, none⟩)] w fun e w' => ∃ v, e = .returned v ∧ NewO w w' v s.b := by
  have hB := arena_Base h
  have hL := arena_Len h
  have hO := arena_Load_ok h s.base s.b.length (Nat.le_refl _) (by omega)
  have hll := h.len_le
  have hcl := h.cap_le
  have ht : (s.b.drop (s.base - s.base)).take s.b.length = s.b := by rw [Nat.sub_self, List.drop_zero, List.take_length]
  rw [ht] at hO
  clear h ht
  generalize s.base = base at *
  generalize hb : s.b = b at *
  generalize b.length = len at *
  clear hb
  go_enter Try.func32, Try.ntmps32
  go_wp2_with fail
  refine hB.mono ?_; rintro e w1 ⟨rfl, rfl⟩
  go_wp2_with fail
  refine hL.mono ?_; rintro e w1 ⟨rfl, rfl⟩
  go_wp2_with fail
  have hmx : ((max (len : Int) 0 : Int)) = len := by omega
  first
    | (refine hO.mono ?_; rintro e w1 ⟨v, rfl, hN⟩)
    | (rw [hmx]; refine hO.mono ?_; rintro e w1 ⟨v, rfl, hN⟩)
  go_wp2
  go_ret
  exact ⟨_, rfl, hN⟩
end Go.Proofs.Ytnldmhljggcnpaa
namespace Go.Proofs.Ytnldmhljggcnpaa
set_option linter.unusedSimpArgs false
set_option linter.unusedVariables false
open Go.RowKit Cantle
theorem run_equalIn_fields {P : Program} {d : Nat} {t : TypeId} {fs : Array Field} {xs ys : Array Value} {r : Result Bool} {w : World} (hu : P.underlying t = some (.struct fs)) (hp : P.stoodInHeld t = false) (h : (Op.eqFields d xs ys fs.toList).run P w = r) :
    (Op.equalIn (d + 1) t (.agg xs) (.agg ys)).run P w = r := by
  have hf : P.fieldsOf t = fs := by simp [Program.fieldsOf, hu]
  rw [run_equalIn_struct (P := P) w d t xs ys (by rw [hf]; exact hu) hp, hf]
  exact h
theorem run_equalIn_blk (d : Nat) (x y : Blk) (w : World) : (Op.equalIn (d + 2) 57 (blkV x) (blkV y)).run Try.prog w = .ok (decide (x = y)) w := by
  obtain ⟨a, b, c⟩ := x
  obtain ⟨a', b', c'⟩ := y
  have hi := Try.underlying3
  have hb := Try.underlying4
  have e1 : ∀ p q : Int, (Op.equalIn (d + 1) 3 (.int .i64 p) (.int .i64 q)).run Try.prog w = .ok (p == q) w := fun p q => run_equalIn_int w d _ _ _ p q hi
  have e2 : ∀ p q : Bool, (Op.equalIn (d + 1) 4 (.bool p) (.bool q)).run Try.prog w = .ok (p == q) w := fun p q => run_equalIn_bool' w d _ p q hb
  refine run_equalIn_fields Try.underlying57 (by kernel_rfl) ?_
  by_cases h1 : a = a' <;> by_cases h2 : b = b' <;> by_cases h3 : c = c' <;> simp [Op.eqFields, part, e1, e2, h1, h2, h3]
theorem run_eql_blk (x y : Blk) (w : World) : (binOp .eql 57 (blkV x) (blkV y)).run Try.prog w = .ok (.bool (decide (x = y))) w := by
  have h := run_equalIn_blk 9998 x y w
  unfold blkV at *
  simp only [binOp]
  simp [Op.equal, Op.maxDepth, h]
theorem run_neq_blk (x y : Blk) (w : World) : (binOp .neq 57 (blkV x) (blkV y)).run Try.prog w = .ok (.bool (decide (x ≠ y))) w := by
  have h := run_equalIn_blk 9998 x y w
  unfold blkV at *
  simp only [binOp]
  simp [Op.equal, Op.maxDepth, h]
theorem run_neq_str (a b : List UInt8) (w : World) : (binOp .neq 9 (.string (strOf a)) (.string (strOf b))).run Try.prog w = .ok (.bool (decide (a ≠ b))) w := by
  have hs := str_beq a b
  simp [go_sem, hs]
set_option maxRecDepth 100000
set_option maxHeartbeats 1000000
theorem errV_eq (c k : Nat) (h : 0 < c) (w : World) : (binOp .eql 31 (errV c) (.iface 136 (.int .i64 (k : Int)))).run Try.prog w = .ok (.bool (decide (c = k))) w := by
  obtain ⟨n, rfl⟩ : ∃ n, c = n + 1 := ⟨c - 1, by omega⟩
  refine (Lib.run_eql_iface_int w ((n + 1 : Nat) : Int) (k : Int) Try.underlying31 (by kernel_rfl) Try.underlying136).trans ?_
  congr 2
  rw [Bool.eq_iff_iff]; simp; omega
theorem law00_Code (c : Nat) (hc : c ≤ 10) (w : World) : Calls Try.prog 31 #[errV c] w fun e w' => e = .returned (.int .i64 (c : Int)) ∧ w = w' := by
  by_cases h0 : c = 0
  · subst h0
    simp only [errV]
    go_enter Try.func31, Try.ntmps31
    go_wp2
    go_ret
    exact ⟨rfl, rfl⟩
  · obtain ⟨n, rfl⟩ : ∃ n, c = n + 1 := ⟨c - 1, by omega⟩
    have hv : errV (n + 1) = .iface 136 (.int .i64 ((n + 1 : Nat) : Int)) := rfl
    rw [hv]
    clear hv
    generalize hz : ((n + 1 : Nat) : Int) = z
    have hz1 : z ≤ 10 := by omega
    have hEQ : ∀ k : Int, ∀ W, (binOp .eql 31 (.iface 136 (.int .i64 z)) (.iface 136 (.int .i64 k))).run Try.prog W = .ok (.bool (z == k)) W :=
      fun k W => Lib.run_eql_iface_int W z k Try.underlying31 (by kernel_rfl) Try.underlying136
    have hz0 : 1 ≤ z := by omega
    clear hz h0 hc
    go_enter Try.func31, Try.ntmps31
    go_wp2
    go_loopw [3] (fun i wr => ∃ k : Int, i = .int .i64 k ∧ 1 ≤ k ∧ k ≤ z ∧ wr = w) (fun i _ => (z - intOf i).toNat)
    case atStart => exact ⟨1, rfl, by omega, by omega, rfl⟩
    case round =>
      obtain ⟨k, rfl, hk1, hk2, rfl⟩ := hrel
      by_cases hck : z = k
      · subst hck
        have hE : ∀ W, (binOp .eql 31 (.iface 136 (.int .i64 z)) (.iface 136 (.int .i64 z))).run Try.prog W = .ok (.bool true) W := fun W => by rw [hEQ]; simp
        clear hEQ
        go_wp2
        go_ret
        exact ⟨rfl, rfl⟩
      · have hE : ∀ W, (binOp .eql 31 (.iface 136 (.int .i64 z)) (.iface 136 (.int .i64 k))).run Try.prog W = .ok (.bool false) W := fun W => by rw [hEQ]; simp [hck]
        clear hEQ
        go_wp2
        exact ⟨⟨k + 1, rfl, by omega, by omega, trivial⟩, by simp [intOf]; omega⟩
end Go.Proofs.Ytnldmhljggcnpaa
