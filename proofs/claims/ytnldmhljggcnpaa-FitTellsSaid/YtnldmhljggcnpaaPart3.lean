import Derived.Test.YtnldmhljggcnpaaPart2
import Derived.Test.YtnldmhljggcnpaaRef1
import Derived.Test.YtnldmhljggcnpaaRef2
import Derived.Test.YtnldmhljggcnpaaRef3
import Derived.Test.YtnldmhljggcnpaaRef4
import Derived.Test.YtnldmhljggcnpaaRef5
import Derived.Test.YtnldmhljggcnpaaRef7
import Derived.Test.YtnldmhljggcnpaaRef8
import Derived.Deep.DeepCutAuto
import Derived.ProofKit
import Derived.OpenShut
import Derived.Deep.Slices
import Derived.Deep.Strs
import Derived.Deep.Grids
import Derived.Deep.Matrix
/- Contracts and plain laws, joined out of this seat's own texts: RefA, RefB, RefC, RefD, RefK, LawF, LawF2, RowK. -/
/-! What the document's functions on numbers, as the kit's print wrote them, come to: layers 1, 6, 8 and 7's first. -/
namespace Go.Proofs.Ytnldmhljggcnpaa
set_option linter.unusedSimpArgs false
set_option linter.unusedVariables false
open Go.RowKit Cantle Ref
open Go.Proofs.YtnldmhljggcnpaaW.PrintWords (rd)

def nums (b : List UInt8) : List Int := b.map fun x => (x.toNat : Int)
theorem nums_length (b : List UInt8) : (nums b).length = b.length := by simp [nums]
theorem nums_append (a b : List UInt8) : nums (a ++ b) = nums a ++ nums b := by simp [nums]
theorem nums_get? (b : List UInt8) (i : Nat) : (nums b)[i]? = (b[i]?).map fun x => (x.toNat : Int) := by simp [nums]
theorem rd_nums {b : List UInt8} {i : Nat} (h : i < b.length) : rd (nums b) (i : Int) = ((b[i]).toNat : Int) := by
  unfold rd
  rw [Int.toNat_natCast, List.getD_eq_getElem?_getD, nums_get?, List.getElem?_eq_getElem h]; rfl
theorem nums_drop_take (b : List UInt8) (i n : Nat) : ((nums b).take (i + n)).drop i = nums ((b.drop i).take n) := by
  unfold nums
  rw [List.map_take, List.map_drop, List.drop_take, Nat.add_sub_cancel_left]
theorem w64 {x : Int} (h1 : -9223372036854775808 ≤ x) (h2 : x ≤ 9223372036854775807) : wrap64 x = x := by unfold wrap64; omega
theorem wu64 {x : Int} (h1 : 0 ≤ x) (h2 : x < 18446744073709551616) : IntKind.u64.wrap x = x := by rw [IntKind.wrap_u64]; omega
theorem tmod_nat (a n : Nat) : Int.tmod (a : Int) (n : Int) = ((a % n : Nat) : Int) := rfl
theorem tdiv_nat (a n : Nat) : Int.tdiv (a : Int) (n : Int) = ((a / n : Nat) : Int) := rfl

theorem low_l0 (k : Nat) : ∀ (d i v : Nat) (acc : List Int), i + d = 8 → d < k → v < 18446744073709551616 → acc.length ≤ i → cantleref01_Low.l0 k (v : Int) 8 acc (i : Int) = some (acc ++ nums (low d v)) := by
  induction k with
  | zero => intro d i v acc _ h; omega
  | succ k ih =>
    intro d i v acc hi hd hv ha
    simp only [cantleref01_Low.l0]
    cases d with
    | zero => rw [if_neg (by omega)]; simp [low, nums]
    | succ d =>
      rw [if_pos (by omega), if_pos (by omega), show (256 : Int) = ((256 : Nat) : Int) from rfl, tmod_nat, tdiv_nat, show IntKind.u64.wrap ((v / 256 : Nat) : Int) = ((v / 256 : Nat) : Int) from wu64 (by omega) (by omega), show wrap64 ((i : Int) + 1) = ((i + 1 : Nat) : Int) from w64 (by omega) (by omega),
        ih d (i + 1) (v / 256) _ (by omega) (by omega) (by omega) (by simp; omega)]
      · simp only [low, nums, List.map_cons, List.append_assoc, List.cons_append, List.nil_append, ofNat_mod_toNat]
        congr 3
        omega
theorem low_f {k v : Nat} (hk : 9 ≤ k) (hv : v < 18446744073709551616) : cantleref01_Low.f k (v : Int) 8 = some (nums (low 8 v)) := by
  unfold cantleref01_Low.f
  rw [show (0 : Int) = ((0 : Nat) : Int) from rfl, low_l0 k 8 0 v [] rfl (by omega) hv (by simp)]
  simp
theorem num_l0 {l : List UInt8} (hl : l.length ≤ 8) (k : Nat) : ∀ (i : Nat), i ≤ l.length → i < k → cantleref01_Num.l0 k (nums l) (le (l.drop i) : Nat) ((i : Int) - 1) = some ((le l : Nat) : Int) := by
  induction k with
  | zero => intro i _ h; omega
  | succ k ih =>
    intro i hi hk
    simp only [cantleref01_Num.l0]
    cases i with
    | zero => rw [if_neg (by omega)]; simp
    | succ i =>
      have hn : (l.drop i) = l[i] :: l.drop (i + 1) := List.drop_eq_getElem_cons (by omega)
      have hle : le (l.drop i) = (l[i]).toNat + 256 * le (l.drop (i + 1)) := by rw [hn]; rfl
      have hlt : le (l.drop i) < 18446744073709551616 := Nat.lt_of_lt_of_le (le_lt _) (Nat.le_trans (Nat.pow_le_pow_right (by decide) (show (l.drop i).length ≤ 8 by rw [List.length_drop]; omega)) (by decide))
      have hb := (l[i]).toNat_lt
      have e : ((i + 1 : Nat) : Int) - 1 = (i : Int) := by omega
      rw [e, if_pos (by omega), if_pos (by omega), if_pos (by rw [nums_length]; omega), rd_nums (by omega)]
      simp (disch := omega) only [w64, wu64]
      rw [show 256 * ((le (l.drop (i + 1)) : Nat) : Int) + ((l[i]).toNat : Int) = ((le (l.drop i) : Nat) : Int) from by omega]
      exact ih i (by omega) (by omega)
theorem num01_f {l : List UInt8} {k : Nat} (hl : l.length ≤ 8) (hk : 9 ≤ k) : cantleref01_Num.f k (nums l) = some ((le l : Nat) : Int) := by
  unfold cantleref01_Num.f
  rw [nums_length]
  simp (disch := omega) only [w64, wu64]
  have := num_l0 hl k l.length (Nat.le_refl _) (by omega)
  rwa [List.drop_length] at this
theorem get01_f {b : List UInt8} {k : Nat} (hb : b.length ≤ 1000000) (hk : 9 ≤ k) (o : Nat) (ho : o ≤ 1000000) : cantleref01_Get.f k (nums b) (o : Int) 8 = some (((num b o : Nat) : Int), decide (o + 8 ≤ b.length)) := by
  unfold cantleref01_Get.f
  simp (disch := omega) only [w64, wu64, nums_length]
  by_cases h1 : b.length < o
  · rw [if_pos (by omega), num_none (by omega), decide_eq_false (by omega)]; rfl
  rw [if_neg (by omega)]
  by_cases h2 : o + 8 ≤ b.length
  · rw [if_neg (by omega), if_pos (by omega), if_pos (by omega), if_pos (by omega), show ((o : Int) + 8).toNat = o + 8 from by omega, Int.toNat_natCast, nums_drop_take,
      num01_f (by rw [List.length_take]; omega) hk, num_some h2, decide_eq_true h2]
    rfl
  · rw [if_pos (by omega), num_none (by omega), decide_eq_false h2]; rfl
theorem word_f {b : List UInt8} {k : Nat} (hb : b.length ≤ 1000000) (hk : 9 ≤ k) (o : Nat) : cantleref07_Word.f k (nums b) (o : Int) = some (((num b o : Nat) : Int), decide (o + 8 ≤ b.length)) := by
  unfold cantleref07_Word.f
  rw [nums_length, if_neg (by omega)]
  by_cases h1 : b.length < o
  · rw [if_pos (by omega), num_none (by omega), decide_eq_false (by omega)]; rfl
  · rw [if_neg (by omega)]
    simp (disch := omega) only [w64, wu64]
    rw [get01_f hb hk o (by omega)]; rfl
theorem num_f {b : List UInt8} {k : Nat} (hb : b.length ≤ 1000000) (hk : 9 ≤ k) (o : Nat) : cantleref07_num.f k (nums b) (o : Int) = some ((num b o : Nat) : Int) := by
  unfold cantleref07_num.f
  rw [word_f hb hk]; rfl
theorem isSize_f (z : Int) : cantleref01_IsSize.f z = some (isSize z) := by
  unfold cantleref01_IsSize.f isSize
  by_cases h1 : z ≥ 32
  · rw [if_pos h1, decide_eq_true h1]
    by_cases h2 : z ≤ 16384
    · rw [if_pos h2, decide_eq_true h2, Int.tmod_eq_emod_of_nonneg (by omega)]; simp
    · rw [if_neg h2, decide_eq_false h2]; simp
  · rw [if_neg h1, decide_eq_false h1]; simp
theorem could_f {b : List UInt8} (hb : b.length ≤ 1000000) (o z : Int) : cantleref07_Could.f (nums b) o z = some (could b.length o z) := by
  unfold cantleref07_Could.f could
  rw [nums_length]
  by_cases h1 : o ≥ 184
  · rw [if_pos h1, decide_eq_true (show 184 ≤ o from h1), Int.tmod_eq_emod_of_nonneg (by omega)]
    by_cases h2 : o % 16 = 8
    · rw [if_pos h2]
      by_cases h3 : o ≤ b.length
      · rw [if_pos h3, decide_eq_true h3]
        simp (disch := omega) only [w64, wu64]
        simp [h2]
      · rw [if_neg h3, decide_eq_false h3]; simp
    · rw [if_neg h2]; simp [h2]
  · rw [if_neg h1, decide_eq_false (show ¬ 184 ≤ o from h1)]; simp
theorem pack_f (z : Int) (u : Bool) : cantleref01_Pack.f z u = some ((pack z u : Nat) : Int) := by
  unfold cantleref01_Pack.f pack
  rw [isSize_f, Option.bind_some]
  cases h : isSize z with
  | false => rfl
  | true =>
    have h1 := (isSize_iff _).1 h
    rw [if_pos rfl, if_pos rfl]
    simp (disch := omega) only [w64, wu64]
    cases u with
    | true => rw [if_pos rfl]; simp [b2n]; omega
    | false => rw [if_neg (by simp)]; simp [b2n]; omega
/-- what 'Unpack' tells -/
def unp (w : Nat) : Int × Bool × Bool := match unpack w with
  | none => (0, false, false)
  | some (s, u) => ((s : Int), u, true)
theorem unpack_f (w : Nat) (hw : w < 18446744073709551616) : cantleref01_Unpack.f (w : Int) = some (unp w) := by
  unfold cantleref01_Unpack.f unp unpack
  by_cases h : 20000 < w
  · rw [if_pos (by omega)]
    have : isSize ((w / 2 * 2 : Nat) : Int) = false := by rw [← Bool.not_eq_true, isSize_iff]; omega
    rw [this]; rfl
  · rw [if_neg (by omega), show (2 : Int) = ((2 : Nat) : Int) from rfl, tmod_nat]
    simp (disch := omega) only [w64, wu64]
    rw [isSize_f, Option.bind_some, show (w : Int) - ((w % 2 : Nat) : Int) = ((w / 2 * 2 : Nat) : Int) from by omega]
    cases h2 : isSize ((w / 2 * 2 : Nat) : Int) with
    | false => rfl
    | true =>
      simp only [if_true]
      congr 3
      rw [Bool.eq_iff_iff]; simp; omega
/-- what 'Get' tells -/
def gt (b : List UInt8) (o : Int) : Int × Int × Bool × Bool := match bget b o with
  | none => (0, 0, false, false)
  | some x => (x.off, x.size, x.used, true)
theorem get_f {b : List UInt8} {k : Nat} (hb : b.length ≤ 1000000) (hk : 9 ≤ k) (o : Int) : cantleref07_Get.f k (nums b) o = some (gt b o) := by
  unfold cantleref07_Get.f gt bget
  rw [could_f hb, Option.bind_some]
  cases h8 : could b.length o 8 with
  | false =>
    have : could b.length o 32 = false := by
      rw [← Bool.not_eq_true, could_iff] at h8 ⊢; omega
    rw [this]; rfl
  | true =>
    have c8 := could_iff.1 h8
    obtain ⟨n, rfl⟩ := Int.eq_ofNat_of_zero_le (show 0 ≤ o by omega)
    rw [if_pos rfl, word_f hb hk, Option.bind_some]
    simp only
    rw [unpack_f _ (num_lt b n), Option.bind_some, Int.toNat_natCast]
    unfold unp
    cases hu : unpack (num b n) with
    | none => simp only [Bool.false_eq_true, if_false, ite_self]
    | some r =>
      obtain ⟨s, u⟩ := r
      have hs := (isSize_iff _).1 (unpack_some hu).1
      simp only [if_true]
      rw [could_f hb, Option.bind_some]
      cases hc : could b.length (n : Int) s with
      | false => simp only [Bool.false_eq_true, false_and, if_false, ite_self]
      | true =>
        have c2 := could_iff.1 hc
        have h32 : could b.length (n : Int) 32 = true := could_iff.2 ⟨c2.1, c2.2.1, c2.2.2.1, by omega⟩
        rw [h32, if_pos rfl, if_pos rfl]
        simp (disch := omega) only [w64, wu64]
        rw [show (n : Int) + (s : Int) - 8 = ((n + s - 8 : Nat) : Int) from by omega, word_f hb hk, Option.bind_some]
        simp only [true_and]
        by_cases he : num b (n + s - 8) = num b n
        · rw [if_pos (by rw [he]), if_pos he]
        · rw [if_neg (fun e => he (by omega)), if_neg he]
theorem class_step (k : Nat) (z c t : Int) : cantleref01_Class.l0 (k + 1) z c t = if z ≥ t then cantleref01_Class.l0 k z (wrap64 (c + 1)) (wrap64 (2 * t)) else some c := rfl
theorem class_f {k : Nat} (hk : 10 ≤ k) (z : Int) : cantleref01_Class.f k z = some (cls z) := by
  unfold cantleref01_Class.f cls
  rw [isSize_f, Option.bind_some]
  cases h : isSize z with
  | false => rfl
  | true =>
    have hz := (isSize_iff _).1 h
    rw [if_pos rfl, if_pos rfl]
    by_cases h0 : z ≤ 256
    · rw [if_pos h0, if_pos h0, Int.tdiv_eq_ediv_of_nonneg (by omega)]
      simp (disch := omega) only [w64]
    · rw [if_neg h0, if_neg h0]
      obtain ⟨m, rfl⟩ : ∃ m, k = m + 1 + 1 + 1 + 1 + 1 + 1 + 1 := ⟨k - 7, by omega⟩
      rw [class_step]
      by_cases h1 : z < 512
      · rw [if_neg (by omega), if_pos h1]
      rw [if_pos (by omega), if_neg h1, show wrap64 (15 + 1) = 16 from w64 (by omega) (by omega), show wrap64 (2 * 512) = 1024 from w64 (by omega) (by omega)]
      rw [class_step]
      by_cases h2 : z < 1024
      · rw [if_neg (by omega), if_pos h2]
      rw [if_pos (by omega), if_neg h2, show wrap64 (16 + 1) = 17 from w64 (by omega) (by omega), show wrap64 (2 * 1024) = 2048 from w64 (by omega) (by omega)]
      rw [class_step]
      by_cases h3 : z < 2048
      · rw [if_neg (by omega), if_pos h3]
      rw [if_pos (by omega), if_neg h3, show wrap64 (17 + 1) = 18 from w64 (by omega) (by omega), show wrap64 (2 * 2048) = 4096 from w64 (by omega) (by omega)]
      rw [class_step]
      by_cases h4 : z < 4096
      · rw [if_neg (by omega), if_pos h4]
      rw [if_pos (by omega), if_neg h4, show wrap64 (18 + 1) = 19 from w64 (by omega) (by omega), show wrap64 (2 * 4096) = 8192 from w64 (by omega) (by omega)]
      rw [class_step]
      by_cases h5 : z < 8192
      · rw [if_neg (by omega), if_pos h5]
      rw [if_pos (by omega), if_neg h5, show wrap64 (19 + 1) = 20 from w64 (by omega) (by omega), show wrap64 (2 * 8192) = 16384 from w64 (by omega) (by omega)]
      rw [class_step]
      by_cases h6 : z < 16384
      · rw [if_neg (by omega), if_pos h6]
      rw [if_pos (by omega), if_neg h6, show wrap64 (20 + 1) = 21 from w64 (by omega) (by omega), show wrap64 (2 * 16384) = 32768 from w64 (by omega) (by omega)]
      rw [class_step]
      rw [if_neg (by omega)]
theorem free_f {b : List UInt8} {k : Nat} (hb : b.length ≤ 1000000) (hk : 10 ≤ k) (o : Int) : cantleref07_Free.f k (nums b) o = some (match freeC b o with | none => -1 | some c => (c : Int)) := by
  unfold cantleref07_Free.f freeC
  rw [get_f hb (by omega), Option.bind_some]
  unfold gt
  cases hg : bget b o with
  | none => rfl
  | some x =>
    simp only [if_true]
    cases hu : x.used with
    | true => rfl
    | false =>
      have := cls_range (bget_some hg).2.2.2.2.1
      rw [class_f hk]
      simp only [Bool.false_eq_true, if_false, Option.bind_some]
      rw [Int.toNat_of_nonneg this.1]
theorem member_f {b : List UInt8} {k : Nat} (hb : b.length ≤ 16384) (hk : 10 ≤ k) (a : Nat) (c : Int) : cantleref07_Member.f k (nums b) (a : Int) c = some (member b a c) := by
  unfold cantleref07_Member.f member
  by_cases h : 20000 < a
  · rw [if_pos (by omega), decide_eq_false (by omega)]; rfl
  · rw [if_neg (by omega)]
    simp (disch := omega) only [w64]
    rw [get_f (by omega) (by omega), Option.bind_some]
    unfold gt
    cases hg : bget b (a : Int) with
    | none => simp
    | some x =>
      have hx := bget_some hg
      have hs := (isSize_iff _).1 hx.2.2.2.2.1
      rw [decide_eq_true (by omega)]
      simp only [if_true]
      cases hu : x.used with
      | true => rfl
      | false => rw [class_f hk]; simp
/-! ### bits -/
theorem bit_l0 (k : Nat) : ∀ (d i c w : Nat), i + d = c → d < k → w < 18446744073709551616 → c ≤ 64 → cantleref07_bit.l0 k (w : Int) (c : Int) (i : Int) = some (w.testBit d) := by
  induction k with
  | zero => intro d i c w _ h; omega
  | succ k ih =>
    intro d i c w hi hd hw hc
    simp only [cantleref07_bit.l0]
    rw [show (2 : Int) = ((2 : Nat) : Int) from rfl, tmod_nat, tdiv_nat]
    simp (disch := omega) only [w64, wu64]
    cases d with
    | zero =>
      rw [if_neg (by omega)]
      congr 1
      rw [Nat.testBit_zero, Bool.eq_iff_iff]; simp; omega
    | succ d =>
      rw [if_pos (by omega), show (i : Int) + 1 = ((i + 1 : Nat) : Int) from rfl, ih d (i + 1) c (w / 2) (by omega) (by omega) (by omega) hc, Nat.testBit_succ]
theorem bit_f {k c w : Nat} (hk : 70 ≤ k) (hw : w < 18446744073709551616) (hc : c ≤ 64) : cantleref07_bit.f k (w : Int) (c : Int) = some (w.testBit c) :=
  bit_l0 k c 0 c w (by omega) (by omega) hw hc
theorem one_l0 (k : Nat) : ∀ (d i c : Nat), i + d = c → d < k → c < 64 → cantleref07_one.l0 k (c : Int) ((2 ^ i : Nat) : Int) (i : Int) = some ((2 ^ c : Nat) : Int) := by
  induction k with
  | zero => intro d i c _ h; omega
  | succ k ih =>
    intro d i c hi hd hc
    simp only [cantleref07_one.l0]
    cases d with
    | zero =>
      obtain rfl : i = c := by omega
      rw [if_neg (by omega)]
    | succ d =>
      have h2 : 2 ^ (i + 1) < 18446744073709551616 := Nat.lt_of_le_of_lt (Nat.pow_le_pow_right (by decide) (show i + 1 ≤ 63 by omega)) (by decide)
      have e : 2 * ((2 ^ i : Nat) : Int) = ((2 ^ (i + 1) : Nat) : Int) := by rw [Nat.pow_succ]; omega
      rw [if_pos (by omega), e]
      have := ih d (i + 1) c (by omega) (by omega) hc
      generalize 2 ^ (i + 1) = P at *
      simp (disch := omega) only [w64, wu64]
      exact this
theorem one_f {k c : Nat} (hk : 70 ≤ k) (hc : c < 64) : cantleref07_one.f k (c : Int) = some ((2 ^ c : Nat) : Int) := one_l0 k c 0 c (by omega) (by omega) hc
/-! ### a number that is laid -/
theorem setAll_lay (k : Nat) : ∀ (d i o : Nat) (l r : List UInt8), i + d = 8 → d < k → r.length = 8 → o + 8 ≤ l.length → l.length ≤ 1000000 →
    cantleref07_Lay.l0 k (o : Int) (nums l) (nums r) (i : Int) = some (nums (l.take (o + i) ++ r.drop i ++ l.drop (o + 8))) := by
  induction k with
  | zero => intro d i o l r _ h; omega
  | succ k ih =>
    intro d i o l r hi hd hr ho hl
    simp only [cantleref07_Lay.l0, nums_length]
    cases d with
    | zero =>
      obtain rfl : i = 8 := by omega
      rw [if_neg (by omega), List.drop_of_length_le (by omega), List.append_nil, List.take_append_drop]
    | succ d =>
      simp (disch := omega) only [w64, wu64]
      rw [if_pos (by omega), if_pos (by omega), if_pos (by omega), if_pos (by omega), if_pos (by omega), rd_nums (by omega), show ((o : Int) + (i : Int)).toNat = o + i from by omega,
        show (nums l).set (o + i) ((r[i]).toNat : Int) = nums (l.set (o + i) r[i]) from by unfold nums; rw [List.map_set], show (i : Int) + 1 = ((i + 1 : Nat) : Int) from rfl,
        ih d (i + 1) o _ r (by omega) (by omega) hr (by rw [List.length_set]; exact ho) (by rw [List.length_set]; exact hl)]
      congr 2
      have e1 : (l.set (o + i) r[i]).drop (o + 8) = l.drop (o + 8) := by rw [List.drop_set_of_lt (by omega)]
      have e2 : (l.set (o + i) r[i]).take (o + (i + 1)) = l.take (o + i) ++ [r[i]] := by
        rw [← Nat.add_assoc, List.take_succ_eq_append_getElem (by rw [List.length_set]; omega), List.take_set_of_le (Nat.le_refl _), List.getElem_set_self]
      rw [e1, e2, List.append_assoc, List.append_assoc, List.append_assoc, List.drop_eq_getElem_cons (show i < r.length by omega)]
      rfl
theorem lay_f {b : List UInt8} {k : Nat} (hb : b.length ≤ 1000000) (hk : 10 ≤ k) (o v : Nat) (hv : v < 18446744073709551616) (ho : o + 8 ≤ b.length) : cantleref07_Lay.f k (nums b) (o : Int) (v : Int) = some (nums (lay b o v)) := by
  unfold cantleref07_Lay.f
  rw [Option.bind_some, if_pos (by rw [nums_length]; simp; omega), low_f (by omega) hv, Option.bind_some, List.nil_append, show (0 : Int) = ((0 : Nat) : Int) from rfl,
    setAll_lay k 8 0 o b (low 8 v) rfl (by omega) (low_length _ _) ho hb, lay_some ho]
  simp
end Go.Proofs.Ytnldmhljggcnpaa
/-! What the document's functions on blocks and lists, as the kit's print wrote them, come to. -/
namespace Go.Proofs.Ytnldmhljggcnpaa
set_option linter.unusedSimpArgs false
set_option linter.unusedVariables false
open Go.RowKit Cantle Ref
open Go.Proofs.YtnldmhljggcnpaaW.PrintWords (rd)

theorem or_add {w c : Nat} (h : w.testBit c = false) : w ||| 2 ^ c = w + 2 ^ c := by
  have e : w = 2 ^ (c + 1) * (w / 2 ^ (c + 1)) + w % 2 ^ c := by
    have h1 := Nat.div_add_mod w (2 ^ (c + 1))
    have h2 : w % 2 ^ (c + 1) = w % 2 ^ c + 2 ^ c * (w / 2 ^ c % 2) := Nat.mod_pow_succ
    have h3 : w / 2 ^ c % 2 = 0 := by
      rw [Nat.testBit_eq_decide_div_mod_eq] at h
      have := of_decide_eq_false h
      omega
    rw [h3] at h2
    omega
  have hm : w % 2 ^ c < 2 ^ c := Nat.mod_lt _ (Nat.two_pow_pos _)
  have hm2 : w % 2 ^ c < 2 ^ (c + 1) := Nat.lt_trans hm (Nat.pow_lt_pow_right (by decide) (by omega))
  have hs : 2 ^ c + w % 2 ^ c < 2 ^ (c + 1) := by rw [Nat.pow_succ]; omega
  have e2 : 2 ^ c ||| w % 2 ^ c = 2 ^ c + w % 2 ^ c := by
    have := Nat.two_pow_add_eq_or_of_lt hm 1
    rw [Nat.mul_one] at this
    exact this.symm
  generalize w / 2 ^ (c + 1) = q at *
  generalize w % 2 ^ c = r at *
  have hw : w = 2 ^ (c + 1) * q ||| r := by rw [← Nat.two_pow_add_eq_or_of_lt hm2]; exact e
  calc w ||| 2 ^ c = (2 ^ (c + 1) * q ||| r) ||| 2 ^ c := congrArg (· ||| 2 ^ c) hw
    _ = 2 ^ (c + 1) * q ||| (2 ^ c ||| r) := by rw [Nat.or_assoc, Nat.or_comm r]
    _ = 2 ^ (c + 1) * q + (2 ^ c + r) := by rw [e2, Nat.two_pow_add_eq_or_of_lt hs]
    _ = w + 2 ^ c := by omega
theorem xor_sub {w c : Nat} (h : w.testBit c = true) : w ^^^ 2 ^ c = w - 2 ^ c := by
  have hz : (w ^^^ 2 ^ c).testBit c = false := by rw [Nat.testBit_xor, h, Nat.testBit_two_pow_self]; rfl
  have h1 := or_add hz
  have h2 : (w ^^^ 2 ^ c) ||| 2 ^ c = w := by
    apply Nat.eq_of_testBit_eq
    intro i
    rw [Nat.testBit_or, Nat.testBit_xor, Nat.testBit_two_pow]
    by_cases e : c = i
    · subst e; simp [h]
    · simp [e]
  omega
theorem setBit_add {w c : Nat} (h : w.testBit c = false) : setBit w c = w + 2 ^ c := or_add h
theorem setBit_self {w c : Nat} (h : w.testBit c = true) : setBit w c = w := by
  apply Nat.eq_of_testBit_eq
  intro i
  rw [setBit_test]
  by_cases e : c = i
  · subst e; simp [h]
  · simp [e]
theorem clearBit_sub {w c : Nat} (h : w.testBit c = true) : clearBit w c = w - 2 ^ c := by unfold clearBit; rw [if_pos h, xor_sub h]
theorem clearBit_self {w c : Nat} (h : w.testBit c = false) : clearBit w c = w := by unfold clearBit; rw [h]; rfl
theorem lay_f0 {b : List UInt8} {k : Nat} (hb : b.length ≤ 1000000) (hk : 10 ≤ k) (v : Nat) (hv : v < 18446744073709551616) (ho : 8 ≤ b.length) : cantleref07_Lay.f k (nums b) 0 (v : Int) = some (nums (lay b 0 v)) := lay_f hb hk 0 v hv (by omega)
theorem mark_f {b : List UInt8} {k : Nat} (hb : b.length ≤ 16384) (hk : 100 ≤ k) (c : Nat) (hc : c < 22) (h184 : 8 ≤ b.length) : cantleref07_mark.f k (nums b) (c : Int) = some (nums (Cantle.mark b c)) := by
  unfold cantleref07_mark.f
  have hl := num_lt b 0
  have hh : wrap64 (8 + wrap64 (8 * (c : Int))) = ((hd c : Nat) : Int) := by unfold hd; simp (disch := omega) only [w64]; omega
  rw [show (0 : Int) = ((0 : Nat) : Int) from rfl, num_f (by omega) (by omega), Option.bind_some, bit_f (by omega) hl (by omega), Option.bind_some, hh, num_f (by omega) (by omega), Option.bind_some]
  unfold Cantle.mark
  obtain ⟨k, rfl⟩ : ∃ m, k = m + 1 + 1 := ⟨k - 2, by omega⟩
  generalize num b (hd c) = H
  cases ht : (num b 0).testBit c with
  | true =>
    rw [if_pos rfl]
    simp only [cantleref07_mark.j0]
    by_cases h0 : H = 0
    · subst h0
      have hp : 2 ^ c ≤ num b 0 := Nat.ge_two_pow_of_testBit ht
      rw [if_pos (by simp), one_f (by omega) (by omega), Option.bind_some, if_pos rfl, clearBit_sub ht]
      have : IntKind.u64.wrap (((num b 0 : Nat) : Int) - ((2 ^ c : Nat) : Int)) = ((num b 0 - 2 ^ c : Nat) : Int) := by
        generalize 2 ^ c = P at *
        rw [IntKind.wrap_u64]; omega
      rw [this, lay_f0 (by omega) (by omega) _ (by generalize 2 ^ c = P at *; omega) (by omega)]; rfl
    · rw [if_neg (by simp; omega), if_pos trivial]
      simp only [cantleref07_mark.j1]
      rw [if_neg (by simp), if_neg h0, setBit_self ht, lay_num]
  | false =>
    rw [if_neg (by simp)]
    simp only [cantleref07_mark.j0]
    rw [if_neg (by simp), if_neg (by simp)]
    simp only [cantleref07_mark.j1]
    by_cases h0 : H = 0
    · subst h0
      rw [if_neg (by simp), if_pos rfl, clearBit_self ht, lay_num]
    · have hs := setBit_lt (n := 64) (c := c) hl (by omega)
      rw [setBit_add ht] at hs
      rw [if_pos (by simp; omega), one_f (by omega) (by omega), Option.bind_some, if_neg h0, setBit_add ht]
      have : IntKind.u64.wrap (((num b 0 : Nat) : Int) + ((2 ^ c : Nat) : Int)) = ((num b 0 + 2 ^ c : Nat) : Int) := by
        generalize 2 ^ c = P at *
        rw [IntKind.wrap_u64]; omega
      rw [this, lay_f0 (by omega) (by omega) _ (by omega) (by omega)]; rfl
theorem freeC_parts {b : List UInt8} {o : Int} {c : Nat} (h : freeC b o = some c) : c < 22 ∧ 184 ≤ o ∧ o + 32 ≤ b.length ∧ o % 16 = 8 := by
  unfold freeC at h
  split at h
  · cases h
  · rename_i x hx
    split at h
    · cases h
    · have := bget_some hx
      have hr := cls_range this.2.2.2.2.1
      have hs := (isSize_iff _).1 this.2.2.2.2.1
      have := Option.some.inj h
      omega
theorem member_parts {b : List UInt8} {a : Nat} {c : Int} (h : member b a c = true) : a ≤ 16384 ∧ 184 ≤ a ∧ a + 32 ≤ b.length := by
  unfold member at h
  rw [Bool.and_eq_true] at h
  obtain ⟨h1, h2⟩ := h
  have h1 := of_decide_eq_true h1
  cases hg : bget b (a : Int) with
  | none => rw [hg] at h2; cases h2
  | some x =>
    have hx := bget_some hg
    have hs := (isSize_iff _).1 hx.2.2.2.2.1
    omega
theorem lput_eq {b : List UInt8} {o : Int} {c : Nat} (h : freeC b o = some c) : lput b o = if (num b (hd c) : Int) = o ∨ (num b (hd c) ≠ 0 ∧ member b (num b (hd c)) c = false) then none else
    some (Cantle.mark (lay (if num b (hd c) = 0 then lay (lay b (o.toNat + 8) (num b (hd c))) (o.toNat + 16) 0 else lay (lay (lay b (o.toNat + 8) (num b (hd c))) (o.toNat + 16) 0) (num b (hd c) + 16) o.toNat) (hd c) o.toNat) c) := by
  unfold lput; rw [h]
theorem lput_no {b : List UInt8} {o : Int} (h : freeC b o = none) : lput b o = none := by unfold lput; rw [h]
theorem put_j0_t (k : Nat) (b : List Int) (o c f : Int) : cantleref07_Put.j0 (k + 1) b o c f true = some (b, false) := rfl
theorem put_j0_f (k : Nat) (b : List Int) (o c f : Int) : cantleref07_Put.j0 (k + 1) b o c f false = ((cantleref07_Lay.f k b (wrap64 (o + 8)) f).bind fun t221 => ((cantleref07_Lay.f k t221 (wrap64 (o + 16)) 0).bind fun t224 => (if f = 0 then ((cantleref07_Lay.f k t224 (wrap64 (8 + (wrap64 (8 * c)))) (IntKind.u64.wrap (o))).bind fun t227 => ((cantleref07_mark.f k t227 c).bind fun t230 => (some (t230, true)))) else ((cantleref07_Lay.f k t224 (wrap64 ((wrap64 (f)) + 16)) (IntKind.u64.wrap (o))).bind fun t233 => ((cantleref07_Lay.f k t233 (wrap64 (8 + (wrap64 (8 * c)))) (IntKind.u64.wrap (o))).bind fun t236 => ((cantleref07_mark.f k t236 c).bind fun t239 => (some (t239, true)))))))) := rfl
theorem put_j0_z {b : List UInt8} {k n c : Nat} (hb : b.length ≤ 16384) (hk : 150 ≤ k) (hn : 184 ≤ n) (hn2 : n + 32 ≤ b.length) (hc : c < 22) :
    cantleref07_Put.j0 (k + 1) (nums b) (n : Int) (c : Int) 0 false = some (nums (Cantle.mark (lay (lay (lay b (n + 8) 0) (n + 16) 0) (hd c) n) c), true) := by
  have hh : wrap64 (8 + wrap64 (8 * (c : Int))) = ((hd c : Nat) : Int) := by unfold hd; simp (disch := omega) only [w64]; omega
  have hdl : hd c + 8 ≤ 184 := by unfold hd; omega
  have w1 : wrap64 ((n : Int) + 8) = ((n + 8 : Nat) : Int) := by rw [w64 (by omega) (by omega)]; rfl
  have w2 : wrap64 ((n : Int) + 16) = ((n + 16 : Nat) : Int) := by rw [w64 (by omega) (by omega)]; rfl
  have w4 : IntKind.u64.wrap (n : Int) = (n : Int) := wu64 (by omega) (by omega)
  have hz : (0 : Int) = ((0 : Nat) : Int) := rfl
  rw [put_j0_f, w1, w2, hh, w4]
  generalize hd c = H at *
  have l1 : (lay b (n + 8) 0).length = b.length := lay_length ..
  have l2 : (lay (lay b (n + 8) 0) (n + 16) 0).length = b.length := by rw [lay_length]; exact l1
  have l3 : (lay (lay (lay b (n + 8) 0) (n + 16) 0) H n).length = b.length := by rw [lay_length]; exact l2
  have f1 : cantleref07_Lay.f k (nums b) ((n + 8 : Nat) : Int) 0 = some (nums (lay b (n + 8) 0)) := lay_f (by omega) (by omega) (n + 8) 0 (by omega) (by omega)
  rw [f1, Option.bind_some]
  clear f1
  generalize lay b (n + 8) 0 = b1 at *
  have f2 : cantleref07_Lay.f k (nums b1) ((n + 16 : Nat) : Int) 0 = some (nums (lay b1 (n + 16) 0)) := lay_f (by omega) (by omega) (n + 16) 0 (by omega) (by omega)
  rw [f2, Option.bind_some, if_pos rfl]
  clear f2
  generalize lay b1 (n + 16) 0 = b2 at *
  rw [lay_f (b := b2) (by omega) (by omega) H n (by omega) (by omega), Option.bind_some]
  generalize lay b2 H n = b3 at *
  rw [mark_f (b := b3) (by omega) (by omega) c hc (by omega), Option.bind_some]
theorem put_j0_p {b : List UInt8} {k n c f : Nat} (hb : b.length ≤ 16384) (hk : 150 ≤ k) (hn : 184 ≤ n) (hn2 : n + 32 ≤ b.length) (hc : c < 22) (hf0 : f ≠ 0) (hf : f + 32 ≤ b.length) :
    cantleref07_Put.j0 (k + 1) (nums b) (n : Int) (c : Int) (f : Int) false = some (nums (Cantle.mark (lay (lay (lay (lay b (n + 8) f) (n + 16) 0) (f + 16) n) (hd c) n) c), true) := by
  have hh : wrap64 (8 + wrap64 (8 * (c : Int))) = ((hd c : Nat) : Int) := by unfold hd; simp (disch := omega) only [w64]; omega
  have hdl : hd c + 8 ≤ 184 := by unfold hd; omega
  have w1 : wrap64 ((n : Int) + 8) = ((n + 8 : Nat) : Int) := by rw [w64 (by omega) (by omega)]; rfl
  have w2 : wrap64 ((n : Int) + 16) = ((n + 16 : Nat) : Int) := by rw [w64 (by omega) (by omega)]; rfl
  have w3 : wrap64 (wrap64 (f : Int) + 16) = ((f + 16 : Nat) : Int) := by simp (disch := omega) only [w64]; omega
  have w4 : IntKind.u64.wrap (n : Int) = (n : Int) := wu64 (by omega) (by omega)
  have hz : (0 : Int) = ((0 : Nat) : Int) := rfl
  rw [put_j0_f, w1, w2, w3, hh, w4]
  generalize hd c = H at *
  have l1 : (lay b (n + 8) f).length = b.length := lay_length ..
  have l2 : (lay (lay b (n + 8) f) (n + 16) 0).length = b.length := by rw [lay_length]; exact l1
  have l3 : (lay (lay (lay b (n + 8) f) (n + 16) 0) (f + 16) n).length = b.length := by rw [lay_length]; exact l2
  have l4 : (lay (lay (lay (lay b (n + 8) f) (n + 16) 0) (f + 16) n) H n).length = b.length := by rw [lay_length]; exact l3
  rw [lay_f (b := b) (by omega) (by omega) (n + 8) f (by omega) (by omega), Option.bind_some]
  generalize lay b (n + 8) f = b1 at *
  have f2 : cantleref07_Lay.f k (nums b1) ((n + 16 : Nat) : Int) 0 = some (nums (lay b1 (n + 16) 0)) := lay_f (by omega) (by omega) (n + 16) 0 (by omega) (by omega)
  rw [f2, Option.bind_some, if_neg (by omega)]
  clear f2
  generalize lay b1 (n + 16) 0 = b2 at *
  rw [lay_f (b := b2) (by omega) (by omega) (f + 16) n (by omega) (by omega), Option.bind_some]
  generalize lay b2 (f + 16) n = b3 at *
  rw [lay_f (b := b3) (by omega) (by omega) H n (by omega) (by omega), Option.bind_some]
  generalize lay b3 H n = b4 at *
  rw [mark_f (b := b4) (by omega) (by omega) c hc (by omega), Option.bind_some]
theorem put_f {b : List UInt8} {k : Nat} (hb : b.length ≤ 16384) (hk : 200 ≤ k) (o : Int) :
    cantleref07_Put.f k (nums b) o = some (nums ((lput b o).getD b), (lput b o).isSome) := by
  unfold cantleref07_Put.f
  rw [free_f (by omega) (by omega), Option.bind_some]
  cases hf : freeC b o with
  | none =>
    rw [lput_no hf]
    simp only
    rw [if_pos (by omega), Option.getD_none, Option.isSome_none]
  | some c =>
    obtain ⟨hc, h1, h2, h3⟩ := freeC_parts hf
    rw [lput_eq hf]
    clear hf
    obtain ⟨n, rfl⟩ := Int.eq_ofNat_of_zero_le (show 0 ≤ o by omega)
    have hh : wrap64 (8 + wrap64 (8 * (c : Int))) = ((hd c : Nat) : Int) := by unfold hd; simp (disch := omega) only [w64]; omega
    have w4 : IntKind.u64.wrap (n : Int) = (n : Int) := wu64 (by omega) (by omega)
    simp only
    rw [if_neg (by omega), hh, num_f (by omega) (by omega), Option.bind_some, member_f hb (by omega), Option.bind_some, w4, Int.toNat_natCast]
    obtain ⟨k, rfl⟩ : ∃ m, k = m + 1 := ⟨k - 1, by omega⟩
    have hmb : member b (num b (hd c)) c = true → num b (hd c) ≤ 16384 ∧ 184 ≤ num b (hd c) ∧ num b (hd c) + 32 ≤ b.length := member_parts
    rw [put_j0_t]
    have hz := put_j0_z (k := k) (n := n) (c := c) hb (by omega) (by omega) (by omega) hc
    have hp := fun h1 h2 => put_j0_p (k := k) (n := n) (c := c) (f := num b (hd c)) hb (by omega) (by omega) (by omega) hc h1 h2
    generalize num b (hd c) = first at *
    by_cases e1 : first = n
    · rw [if_pos (show (first : Int) = (n : Int) by omega), if_pos (.inl (by omega)), Option.getD_none, Option.isSome_none]
    · rw [if_neg (show ¬ (first : Int) = (n : Int) by omega)]
      by_cases e2 : first = 0
      · subst e2
        rw [if_pos (by rfl), show ((0 : Nat) : Int) = 0 from rfl, hz, if_neg (by omega), if_pos rfl, Option.getD_some, Option.isSome_some]
      · rw [if_neg (show ¬ (first : Int) = 0 by omega)]
        cases hm : member b first c with
        | false => rw [Bool.not_false, put_j0_t, if_pos (.inr ⟨e2, rfl⟩), Option.getD_none, Option.isSome_none]
        | true =>
          obtain ⟨m1, m2, m3⟩ := hmb hm
          rw [Bool.not_true, hp e2 m3, if_neg (by simp; omega), if_neg e2, Option.getD_some, Option.isSome_some]
end Go.Proofs.Ytnldmhljggcnpaa
/-! What the document's functions on blocks and lists, as the kit's print wrote them, come to: walks, lists, fits. -/
namespace Go.Proofs.Ytnldmhljggcnpaa
set_option linter.unusedSimpArgs false
set_option linter.unusedVariables false
open Go.RowKit Cantle Ref
open Go.Proofs.YtnldmhljggcnpaaW.PrintWords (rd)

def toS (x : Blk) : Ref.S57 := ⟨x.off, x.size, x.used⟩
def walkV : Option (List Blk) → List Ref.S57 × Bool
  | none => ([], false)
  | some l => (l.map toS, true)
theorem walk_l0 {b : List UInt8} (hb : b.length ≤ 16384) : ∀ (k d : Nat) (o : Int) (acc : List Blk), d + 10 ≤ k → (b.length : Int) ≤ o + d → 0 ≤ o → acc.length + d ≤ 1000000 →
    cantleref07_Walk.l0 k (nums b) (acc.map toS) o = some (walkV ((walkGo b d o).map (acc ++ ·))) := by
  intro k
  induction k with
  | zero => intro d o acc h; omega
  | succ k ih =>
    intro d o acc hd ho h0 ha
    simp only [cantleref07_Walk.l0, nums_length]
    by_cases hlt : o < b.length
    · cases d with
      | zero => exfalso; omega
      | succ d =>
        have hwg : walkGo b (d + 1) o = match bget b o with | none => none | some x => (walkGo b d (o + x.size)).map (x :: ·) := by
          conv => lhs; unfold walkGo
          rw [if_pos hlt]; rfl
        rw [if_pos hlt, get_f (by omega) (by omega), Option.bind_some, hwg]
        unfold gt
        cases hg : bget b o with
        | none => rfl
        | some x =>
          have hx := bget_some hg
          have hs := (isSize_iff _).1 hx.2.2.2.2.1
          have hxo := hx.1
          simp only [if_true]
          rw [if_pos (by rw [List.length_map]; omega), show wrap64 (o + x.size) = o + x.size from w64 (by omega) (by omega),
            show acc.map toS ++ [(⟨x.off, x.size, x.used⟩ : Ref.S57)] = (acc ++ [x]).map toS from by simp [toS],
            ih d (o + x.size) (acc ++ [x]) (by omega) (by omega) (by omega) (by simp; omega), Option.map_map]
          congr 2
          congr 1
          funext r
          simp
    · have hw : walkGo b d o = some [] := by
        cases d with
        | zero => rfl
        | succ d => unfold walkGo; rw [if_neg hlt]
      rw [if_neg hlt, hw]
      simp [walkV]
theorem walk_f {b : List UInt8} (hb : b.length ≤ 16384) {k : Nat} (hk : 17000 ≤ k) : cantleref07_Walk.f k (nums b) = some (walkV (walk b)) := by
  unfold cantleref07_Walk.f walk
  rw [nums_length]
  by_cases h : b.length < 184
  · rw [if_pos (by omega), if_pos h]; rfl
  · rw [if_neg (by omega), if_neg h]
    have := walk_l0 hb k b.length 184 [] (by omega) (by omega) (by omega) (by simp; omega)
    simpa using this
def allV : Option (List Int) → List Int × Bool
  | none => ([], false)
  | some l => (l, true)
theorem all_j1_t (k : Nat) (b : List Int) (c a : Int) (acc : List Int) (l : Int) : cantleref07_All.j1 (k + 1) b c a acc l true = some ([], false) := rfl
theorem all_j1_f (k : Nat) (b : List Int) (c a : Int) (acc : List Int) (l : Int) : cantleref07_All.j1 (k + 1) b c a acc l false = ((cantleref07_num.f k b (wrap64 ((wrap64 a) + 16))).bind fun t254 => (if t254 = l then (if acc.length < 17592186044416 then ((cantleref07_num.f k b (wrap64 ((wrap64 a) + 8))).bind fun t258 => (cantleref07_All.l0 k b c t258 (acc ++ [wrap64 a]) a)) else (none)) else (some (([] : List Int), false)))) := rfl
theorem all_l0 {b : List UInt8} (hb : b.length ≤ 16384) (c : Int) : ∀ (f k at_ last : Nat) (acc : List Int), 2 * f + 20 ≤ k → f + acc.length = 1024 →
    cantleref07_All.l0 k (nums b) c (at_ : Int) acc (last : Int) = some (allV ((chain b c f at_ last).map (acc ++ ·))) := by
  intro f
  induction f with
  | zero =>
    intro k at_ last acc hk ha
    obtain ⟨k, rfl⟩ : ∃ m, k = m + 1 + 1 := ⟨k - 2, by omega⟩
    simp only [cantleref07_All.l0, chain]
    by_cases h0 : at_ = 0
    · rw [if_pos (by omega), if_pos h0]; simp [allV]
    · rw [if_neg (by omega), if_neg h0, member_f hb (by omega), Option.bind_some, if_pos (by omega), all_j1_t]; rfl
  | succ f ih =>
    intro k at_ last acc hk ha
    obtain ⟨k, rfl⟩ : ∃ m, k = m + 1 + 1 := ⟨k - 2, by omega⟩
    simp only [cantleref07_All.l0, chain]
    by_cases h0 : at_ = 0
    · rw [if_pos (by omega), if_pos h0]; simp [allV]
    · rw [if_neg (by omega), if_neg h0, member_f hb (by omega), Option.bind_some, if_neg (by omega)]
      cases hm : member b at_ c with
      | false => rw [Bool.not_false, all_j1_t, if_neg (by simp)]; rfl
      | true =>
        obtain ⟨m1, m2, m3⟩ := member_parts hm
        have w0 : wrap64 (at_ : Int) = (at_ : Int) := w64 (by omega) (by omega)
        have w1 : wrap64 ((at_ : Int) + 16) = ((at_ + 16 : Nat) : Int) := by rw [w64 (by omega) (by omega)]; rfl
        have w2 : wrap64 ((at_ : Int) + 8) = ((at_ + 8 : Nat) : Int) := by rw [w64 (by omega) (by omega)]; rfl
        rw [Bool.not_true, all_j1_f, w0, w1, w2, num_f (by omega) (by omega), Option.bind_some]
        by_cases h1 : num b (at_ + 16) = last
        · rw [if_pos (by omega), if_pos (by omega), num_f (by omega) (by omega), Option.bind_some, ih k (num b (at_ + 8)) at_ (acc ++ [(at_ : Int)]) (by omega) (by simp; omega), if_pos ⟨rfl, h1⟩, Option.map_map]
          congr 2
          congr 1
          funext r
          simp
        · rw [if_neg (by omega), if_neg (fun h => h1 h.2)]; rfl
theorem all_f {b : List UInt8} (hb : b.length ≤ 16384) {k : Nat} (hk : 3000 ≤ k) (c : Nat) (hc : c < 22) : cantleref07_All.f k (nums b) (c : Int) = some (allV (lall b c)) := by
  unfold cantleref07_All.f lall
  rw [nums_length]
  by_cases h : b.length < 184
  · rw [if_pos (by omega), if_pos h]; rfl
  · have hh : wrap64 (8 + wrap64 (8 * (c : Int))) = ((hd c : Nat) : Int) := by unfold hd; simp (disch := omega) only [w64]; omega
    have n0 : cantleref07_num.f k (nums b) 0 = some ((num b 0 : Nat) : Int) := num_f (by omega) (by omega) 0
    rw [if_neg (by omega), if_neg h, hh, num_f (by omega) (by omega), Option.bind_some, n0, Option.bind_some, bit_f (by omega) (num_lt _ _) (by omega), Option.bind_some]
    have hl := all_l0 hb c 1024 k (num b (hd c)) 0 [] (by omega) rfl
    by_cases ht : (num b 0).testBit c = decide (num b (hd c) ≠ 0)
    · rw [if_neg, if_neg (by rw [ht]; simp)]
      · have e : cantleref07_All.l0 k (nums b) (c : Int) ((num b (hd c) : Nat) : Int) [] 0 = _ := hl
        rw [e]; simp
      · rw [ht]
        by_cases hz : num b (hd c) = 0
        · simp [hz]
        · have : (((num b (hd c) : Nat) : Int) != 0) = true := by rw [bne_iff_ne]; omega
          rw [this]; simp [hz]
    · rw [if_pos, if_pos ht]
      · rfl
      · rw [bne_iff_ne]
        intro e
        apply ht
        rw [e, Bool.eq_iff_iff]; simp
theorem mark_length (b : List UInt8) (c : Nat) : (Cantle.mark b c).length = b.length := lay_length ..
theorem lput_length {b b' : List UInt8} {o : Int} (h : lput b o = some b') : b'.length = b.length := by
  cases hf : freeC b o with
  | none => rw [lput_no hf] at h; cases h
  | some c =>
    rw [lput_eq hf] at h
    split at h
    · cases h
    · obtain rfl := Option.some.inj h
      rw [mark_length, lay_length]
      split <;> simp only [lay_length]
theorem rd_toS {l : List Blk} {i : Nat} (h : i < l.length) : rd_T57 (l.map toS) (i : Int) = toS l[i] := by
  unfold rd_T57
  rw [Int.toNat_natCast, List.getD_eq_getElem?_getD, List.getElem?_map, List.getElem?_eq_getElem h]; rfl
theorem rebuild_l0 {l : List Blk} (hl : l.length ≤ 1000000) : ∀ (d k i : Nat) (b : List UInt8), i + d = l.length → d + 210 ≤ k → b.length ≤ 16384 →
    cantleref07_Rebuild.l0 k (l.map toS) (nums b) (i : Int) = some (nums (putAll (l.drop i) b), true) := by
  intro d
  induction d with
  | zero =>
    intro k i b hi hk hb
    obtain ⟨k, rfl⟩ : ∃ m, k = m + 1 := ⟨k - 1, by omega⟩
    simp only [cantleref07_Rebuild.l0, List.length_map]
    rw [if_neg (by omega), List.drop_of_length_le (by omega)]; rfl
  | succ d ih =>
    intro k i b hi hk hb
    obtain ⟨k, rfl⟩ : ∃ m, k = m + 1 := ⟨k - 1, by omega⟩
    have hn : l.drop i = l[i] :: l.drop (i + 1) := List.drop_eq_getElem_cons (by omega)
    have w0 : wrap64 ((i : Int) + 1) = ((i + 1 : Nat) : Int) := by rw [w64 (by omega) (by omega)]; rfl
    simp only [cantleref07_Rebuild.l0, List.length_map]
    rw [if_pos (by omega), if_pos (by omega), rd_toS (by omega), w0, hn]
    simp only [putAll]
    by_cases hu : l[i].used = true
    · rw [if_pos (show (toS l[i]).f2 = true from hu), if_pos hu, ih k (i + 1) b (by omega) (by omega) hb]
    · rw [if_neg (show ¬ (toS l[i]).f2 = true from hu), if_neg hu, show (toS l[i]).f0 = l[i].off from rfl, put_f hb (by omega), Option.bind_some]
      have hlen : ((lput b l[i].off).getD b).length ≤ 16384 := by
        cases hp : lput b l[i].off with
        | none => exact hb
        | some b' => rw [Option.getD_some, lput_length hp]; exact hb
      exact ih k (i + 1) _ (by omega) (by omega) hlen
theorem rebuild_f {b : List UInt8} (hb : b.length ≤ 16384) {k : Nat} (hk : 20000 ≤ k) : cantleref07_Rebuild.f k (nums b) = some (nums ((rebuild b).getD b), (rebuild b).isSome) := by
  unfold cantleref07_Rebuild.f rebuild
  rw [walk_f hb (by omega), Option.bind_some]
  cases hw : walk b with
  | none => rfl
  | some l =>
    have h184 := (walk_iff.1 hw).1
    have hll : l.length ≤ 16384 := by
      have hp := tlp_pair (walk_iff.1 hw).2.1
      have := length_le_of_sub (l := l.map (·.off)) (m := (List.range 16384).map fun i : Nat => (i : Int)) (by
        rw [List.Nodup, List.pairwise_map]
        refine hp.imp_of_mem ?_
        intro x y hx _ hxy e
        have := (walk_mem hw hx).2.s1
        omega) (fun o ho => by
        obtain ⟨x, hx, rfl⟩ := List.mem_map.1 ho
        have h1 := (walk_mem hw hx).2.lo
        have h2 := (walk_mem hw hx).2.hi
        have h3 := (walk_mem hw hx).2.s1
        exact List.mem_map.2 ⟨x.off.toNat, List.mem_range.2 (by omega), by omega⟩)
      simpa using this
    have hnw : List.replicate 184 (0 : Int) ++ (nums b).drop 184 = nums (wiped b) := by unfold nums wiped; rw [List.map_append, List.map_replicate, List.map_drop]; rfl
    simp only [walkV, if_true, Option.map_some, Option.getD_some, Option.isSome_some, Option.bind_some]
    rw [if_pos (by decide), if_pos (by rw [nums_length]; omega), if_pos (by rw [List.length_replicate, List.length_drop, nums_length]; omega), hnw]
    have := rebuild_l0 (l := l) (by omega) l.length k 0 (wiped b) (by omega) (by omega) (by rw [wiped_length h184]; exact hb)
    exact this
def findV : Option Int → Int × Bool
  | none => (0, false)
  | some o => (o, true)
theorem find_l1 {b : List UInt8} (hb : b.length ≤ 16384) {z : Int} (hz : 32 ≤ z) {l : List Int} (hl : l.length ≤ 1024) (c : Int) {K : Nat} {R : Int × Bool} (H : ∀ k, K ≤ k → cantleref07_Find.l0 k (nums b) z (wrap64 (c + 1)) = some R) (hK : 100 ≤ K) :
    ∀ (d k j : Nat), j + d = l.length → d + 1 + K ≤ k → cantleref07_Find.l1 k (nums b) z c l (j : Int) = some (match (l.drop j).find? (bigAt b z) with | some o => (o, true) | none => R) := by
  intro d
  induction d with
  | zero =>
    intro k j hj hk
    obtain ⟨k, rfl⟩ : ∃ m, k = m + 1 := ⟨k - 1, by omega⟩
    simp only [cantleref07_Find.l1]
    rw [if_neg (by omega), List.drop_of_length_le (by omega), H k (by omega)]; rfl
  | succ d ih =>
    intro k j hj hk
    obtain ⟨k, rfl⟩ : ∃ m, k = m + 1 := ⟨k - 1, by omega⟩
    have hn : l.drop j = l[j] :: l.drop (j + 1) := List.drop_eq_getElem_cons (by omega)
    have hrd : rd l (j : Int) = l[j] := by unfold rd; rw [Int.toNat_natCast, List.getD_eq_getElem?_getD, List.getElem?_eq_getElem (by omega)]; rfl
    have w0 : wrap64 ((j : Int) + 1) = ((j + 1 : Nat) : Int) := by rw [w64 (by omega) (by omega)]; rfl
    simp only [cantleref07_Find.l1]
    rw [if_pos (by omega), if_pos (by omega), hrd, get_f (by omega) (by omega), Option.bind_some, w0, ih k (j + 1) (by omega) (by omega), hn, List.find?_cons]
    unfold gt bigAt
    cases hg : bget b l[j] with
    | none => simp only; rw [if_neg (by omega)]
    | some x =>
      simp only
      by_cases h : z ≤ x.size
      · rw [if_pos h, decide_eq_true h]
      · rw [if_neg h, decide_eq_false h]
theorem find_l0 {b : List UInt8} (hb : b.length ≤ 16384) {z : Int} (hz : 32 ≤ z) : ∀ (m c k : Nat), m + c = 22 → 1100 * m + 4000 ≤ k → cantleref07_Find.l0 k (nums b) z (c : Int) = some (findV (findGo b z m c)) := by
  intro m
  induction m with
  | zero =>
    intro c k hc hk
    obtain ⟨k, rfl⟩ : ∃ m, k = m + 1 := ⟨k - 1, by omega⟩
    simp only [cantleref07_Find.l0]
    rw [if_neg (by omega)]; rfl
  | succ m ih =>
    intro c k hc hk
    obtain ⟨k, rfl⟩ : ∃ m, k = m + 1 := ⟨k - 1, by omega⟩
    have w0 : wrap64 ((c : Int) + 1) = ((c + 1 : Nat) : Int) := by rw [w64 (by omega) (by omega)]; rfl
    simp only [cantleref07_Find.l0, findGo]
    rw [if_pos (by omega), all_f hb (by omega) c (by omega), Option.bind_some]
    cases hl : lall b c with
    | none => rfl
    | some l =>
      have hll : l.length ≤ 1024 := by
        unfold lall at hl
        split at hl
        · cases hl
        · split at hl
          · cases hl
          · exact (chain_iff.1 hl).2.1
      simp only [allV, if_true]
      obtain ⟨K, hKe⟩ : ∃ K, K = 1100 * m + 4000 := ⟨_, rfl⟩
      have := find_l1 hb hz hll (c : Int) (K := K) (R := findV (findGo b z m (c + 1))) (fun k' hk' => by rw [w0]; exact ih (c + 1) k' (by omega) (by omega)) (by omega) l.length k 0 (by omega) (by omega)
      have e : cantleref07_Find.l1 k (nums b) z (c : Int) l 0 = _ := this
      rw [e, List.drop_zero]
      cases l.find? (bigAt b z) with
      | none => rfl
      | some o => rfl
theorem find_f {b : List UInt8} (hb : b.length ≤ 16384) {k : Nat} (hk : 30000 ≤ k) {z : Int} (hz : isSize z = true) : cantleref07_Find.f k (nums b) z = some (findV (findB b z)) := by
  have hr := cls_range hz
  have hs := (isSize_iff _).1 hz
  unfold cantleref07_Find.f findB
  rw [class_f (by omega), Option.bind_some]
  obtain ⟨c, hc⟩ := Int.eq_ofNat_of_zero_le hr.1
  rw [hc, Int.toNat_natCast]
  exact find_l0 hb (by omega) (22 - c) c k (by omega) (by omega)
end Go.Proofs.Ytnldmhljggcnpaa
/-! What 'Set' and the laws' 'Bytes' come to: bytes, of the length that was asked. -/
namespace Go.Proofs.Ytnldmhljggcnpaa
set_option linter.unusedSimpArgs false
set_option linter.unusedVariables false
open Go.RowKit Cantle Ref
open Go.Proofs.YtnldmhljggcnpaaW.PrintWords (rd mx)

theorem bset_eq {b : List UInt8} {x : Blk} : bset b x = if isSize x.size = true ∧ could b.length x.off x.size = true then some (lay (lay b x.off.toNat (pack x.size x.used)) (x.off + x.size - 8).toNat (pack x.size x.used)) else none := rfl
theorem set_j0_t (k : Nat) (b : List Int) (o z : Int) (u : Bool) : cantleref07_Set.j0 (k + 1) b true o z u = some (b, false) := rfl
theorem set_j0_f (k : Nat) (b : List Int) (o z : Int) (u : Bool) : cantleref07_Set.j0 (k + 1) b false o z u = ((cantleref01_Pack.f z u).bind fun t155 => ((cantleref07_Lay.f k b o t155).bind fun t156 => ((cantleref07_Lay.f k t156 (wrap64 ((wrap64 (o + z)) - 8)) t155).bind fun t159 => (some (t159, true))))) := rfl
theorem set_f {b : List UInt8} (hb : b.length ≤ 1000000) {k : Nat} (hk : 20 ≤ k) (o z : Int) (u : Bool) : cantleref07_Set.f k (nums b) o z u = some (nums ((bset b ⟨o, z, u⟩).getD b), (bset b ⟨o, z, u⟩).isSome) := by
  unfold cantleref07_Set.f
  rw [isSize_f, Option.bind_some, could_f hb, Option.bind_some, bset_eq]
  obtain ⟨k, rfl⟩ : ∃ m, k = m + 1 := ⟨k - 1, by omega⟩
  simp only
  cases h1 : isSize z with
  | false => rw [if_neg (by simp), set_j0_t, if_neg (by simp), Option.getD_none, Option.isSome_none]
  | true =>
    rw [if_pos rfl]
    cases h2 : could b.length o z with
    | false => rw [Bool.not_false, set_j0_t, if_neg (by simp), Option.getD_none, Option.isSome_none]
    | true =>
      have hs := (isSize_iff _).1 h1
      have hc := could_iff.1 h2
      obtain ⟨n, rfl⟩ := Int.eq_ofNat_of_zero_le (show 0 ≤ o by omega)
      obtain ⟨m, rfl⟩ := Int.eq_ofNat_of_zero_le (show 0 ≤ z by omega)
      have w1 : wrap64 (wrap64 ((n : Int) + (m : Int)) - 8) = ((n + m - 8 : Nat) : Int) := by simp (disch := omega) only [w64]; omega
      have hp : pack (m : Int) u < 18446744073709551616 := Nat.lt_of_lt_of_le pack_lt (by decide)
      have l1 : (lay b n (pack (m : Int) u)).length = b.length := lay_length ..
      rw [Bool.not_true, set_j0_f, pack_f, Option.bind_some, w1, if_pos ⟨rfl, rfl⟩, Int.toNat_natCast, show ((n : Int) + (m : Int) - 8).toNat = n + m - 8 from by omega]
      generalize pack (m : Int) u = P at *
      rw [lay_f (b := b) hb (by omega) n P hp (by omega), Option.bind_some]
      generalize lay b n P = b1 at *
      rw [lay_f (b := b1) (by omega) (by omega) (n + m - 8) P hp (by omega), Option.bind_some, Option.getD_some, Option.isSome_some]
theorem bset_length {b b' : List UInt8} {x : Blk} (h : bset b x = some b') : b'.length = b.length := by
  rw [bset_eq] at h
  split at h
  · obtain rfl := Option.some.inj h; rw [lay_length, lay_length]
  · cases h
theorem pick_f (a : Int) {n : Nat} (hn : 0 < n) (hn2 : n ≤ 1000000) : ∃ t : Nat, t < n ∧ cantlelaw00_Pick.f a (n : Int) = some (t : Int) := by
  unfold cantlelaw00_Pick.f
  rw [if_neg (by omega)]
  have h1 := Int.tmod_lt_of_pos a (show (0 : Int) < n by omega)
  have h2 := Int.lt_tmod_of_pos a (show (0 : Int) < n by omega)
  by_cases h : Int.tmod a n < 0
  · rw [if_pos h, w64 (by omega) (by omega)]
    exact ⟨(Int.tmod a n + n).toNat, by omega, by congr 1; omega⟩
  · rw [if_neg h]
    exact ⟨(Int.tmod a n).toNat, by omega, by congr 1; omega⟩
theorem bytes_l0 {n : Nat} (hn : n ≤ 10000) {l : List Ref.S152} (hl : l.length ≤ 100) (hv : ∀ x ∈ l, 0 ≤ x.f2 ∧ x.f2 < 18446744073709551616) : ∀ (d k i : Nat) (b : List UInt8), i + d = l.length → b.length = n → 3 * d + 100 ≤ k →
    ∃ b', b'.length = n ∧ cantlelaw09_Bytes.l0 k (n : Int) l (nums b) (i : Int) = some (nums b') := by
  intro d
  induction d with
  | zero =>
    intro k i b hi hb hk
    obtain ⟨k, rfl⟩ : ∃ m, k = m + 1 := ⟨k - 1, by omega⟩
    simp only [cantlelaw09_Bytes.l0]
    rw [if_neg (by omega)]
    exact ⟨b, hb, rfl⟩
  | succ d ih =>
    intro k i b hi hb hk
    obtain ⟨k, rfl⟩ : ∃ m, k = m + 1 + 1 + 1 := ⟨k - 3, by omega⟩
    have w0 : wrap64 ((i : Int) + 1) = ((i + 1 : Nat) : Int) := by rw [w64 (by omega) (by omega)]; rfl
    have hr : rd_T152 l (i : Int) = l[i] := by
      unfold rd_T152
      rw [Int.toNat_natCast, List.getD_eq_getElem?_getD, List.getElem?_eq_getElem (by omega)]; rfl
    have hx := hv l[i] (List.getElem_mem _)
    have hmx : mx (n : Int) 1 = ((max n 1 : Nat) : Int) := by unfold mx; omega
    obtain ⟨t, ht, htf⟩ := pick_f l[i].f1 (n := max n 1) (by omega) (by omega)
    obtain ⟨v, hve⟩ := Int.eq_ofNat_of_zero_le hx.1
    simp only [cantlelaw09_Bytes.l0]
    rw [if_pos (by omega), if_pos (by omega), hr, hmx, htf, Option.bind_some, w64 (x := (t : Int) + 8) (by omega) (by omega)]
    have j2 : ∀ b1 : List UInt8, b1.length = n → ∃ b', b'.length = n ∧ cantlelaw09_Bytes.j2 (k + 1) (n : Int) l (nums b1) (i : Int) (t : Int) l[i].f0 l[i].f1 l[i].f2 = some (nums b') := by
      intro b1 hb1
      simp only [cantlelaw09_Bytes.j2]
      rw [w0]
      split
      · exact ih k (i + 1) b1 (by omega) hb1 (by omega)
      · obtain ⟨u, _, huf⟩ := pick_f l[i].f0 (n := 4) (by omega) (by omega)
        have e4 : ((4 : Nat) : Int) = 4 := rfl
        rw [e4] at huf
        rw [huf, Option.bind_some, set_f (by omega) (by omega), Option.bind_some]
        refine ih k (i + 1) _ (by omega) ?_ (by omega)
        cases hs : bset b1 ⟨(t : Int), wrap64 (Int.tmod l[i].f2 20000), (u : Int) == 3⟩ with
        | none => exact hb1
        | some b2 => rw [Option.getD_some, bset_length hs]; exact hb1
    have j1 : ∀ f : Bool, (f = true → t + 8 ≤ n) → ∃ b', b'.length = n ∧ cantlelaw09_Bytes.j1 (k + 1 + 1) (n : Int) l (nums b) (i : Int) (t : Int) f l[i].f0 l[i].f1 l[i].f2 = some (nums b') := by
      intro f hf
      simp only [cantlelaw09_Bytes.j1]
      cases f with
      | true =>
        rw [if_pos rfl]
        have := hf rfl
        have hL : cantleref07_Lay.f (k + 1) (nums b) (t : Int) l[i].f2 = some (nums (lay b t v)) := by
          rw [hve]; exact lay_f (by omega) (by omega) t v (by omega) (by omega)
        rw [hL, Option.bind_some]
        exact j2 _ (by rw [lay_length]; exact hb)
      | false =>
        rw [if_neg (by simp)]
        exact j2 b hb
    split
    · exact j1 _ (fun h => by have := of_decide_eq_true h; omega)
    · exact j1 false (fun h => by cases h)
theorem bytes_f {n : Nat} (hn : n ≤ 10000) {l : List Ref.S152} (hl : l.length ≤ 100) (hv : ∀ x ∈ l, 0 ≤ x.f2 ∧ x.f2 < 18446744073709551616) {k : Nat} (hk : 1000 ≤ k) :
    ∃ b, b.length = n ∧ cantlelaw09_Bytes.f k (n : Int) l = some (nums b) := by
  unfold cantlelaw09_Bytes.f
  rw [if_pos (by omega), if_pos (by omega), Int.toNat_natCast]
  have := bytes_l0 hn hl hv l.length k 0 (List.replicate n 0) (by omega) (by simp) (by omega)
  have e : nums (List.replicate n 0) = List.replicate n 0 := by unfold nums; rw [List.map_replicate]; rfl
  rw [e] at this
  exact this
end Go.Proofs.Ytnldmhljggcnpaa
/-! The document's functions by contracts in this seat's own words. -/
namespace Go.Proofs.Ytnldmhljggcnpaa
set_option linter.unusedSimpArgs false
set_option linter.unusedVariables false
open Go.RowKit Cantle Ref
open Go.Proofs.YtnldmhljggcnpaaW.PrintWords (Kd encs Drawn0)
set_option maxRecDepth 100000
set_option maxHeartbeats 2000000

theorem encs_nums (b : List UInt8) : encs (Value.int .u8) (nums b) = bv b := by simp [encs, nums, bv, byteV]
theorem C_bytes {w : World} {F : Nat → Prop} {A : Option Addr} {c : Nat} {b : List UInt8} (h : Rd w F (.slice A b.length c) b.length (bv b)) : Kd.C (Kd.int .u8) w A (nums b).length (nums b) := by
  obtain ⟨A', c', e, h1, h2, h3⟩ := h
  cases e
  refine ⟨rfl, by rw [nums_length]; omega, fun hn => ?_⟩
  rw [nums_length] at hn
  obtain ⟨g, o, rfl, _, _, hc⟩ := h3 (by intro q; have := congrArg List.length q; rw [bv_length, List.length_nil] at this; omega)
  refine ⟨_, rfl, fun j p hj => ⟨[.int .u8 p], rfl, rfl, fun i u hu => ?_⟩⟩
  have hi : i = 0 := by
    have := (List.getElem?_eq_some_iff.1 hu).1
    simp at this; omega
  subst hi
  obtain rfl : Value.int .u8 p = u := by simpa using hu
  show w.cell? (Addr.add ⟨g, o, none⟩ (j * 1 + 0)) = _
  rw [addr_add, Nat.mul_one, Nat.add_zero]
  refine hc j _ ?_
  rw [nums_get?] at hj
  rw [bv, List.getElem?_map]
  cases hb : b[j]? with
  | none => rw [hb] at hj; cases hj
  | some x => rw [hb] at hj; cases hj; rfl
theorem R_bytes {w : World} {base : Nat} {ok : Nat → Prop} {v : Value} {b : List UInt8} (h : OwnB w v b) (hb : ∀ k, v.ownBlock = some k → base ≤ k) (hok : ∀ k, v.ownBlock = some k → ok k) : Kd.R (Kd.int .u8) 5 w base ok v (nums b) := by
  refine Kd.R_of_own ?_ hok
  rw [encs_nums, nums_length]
  refine ⟨h.1, ?_⟩
  rcases h.2 with h | ⟨g, cap, cur, rfl, _, r⟩
  · exact .inl h
  · exact .inr ⟨g, cap, cur, rfl, hb g rfl, r⟩
theorem bytes_R {w : World} {base : Nat} {ok : Nat → Prop} {v : Value} {b : List UInt8} (h : Kd.R (Kd.int .u8) 5 w base ok v (nums b)) : OwnB w v b ∧ ∀ k, v.ownBlock = some k → base ≤ k := by
  have ho := Kd.own_of_R h
  rw [encs_nums, nums_length] at ho
  refine ⟨⟨ho.1, ?_⟩, fun k hk => (ho.lt k hk).1⟩
  rcases ho.2 with h | ⟨g, cap, cur, rfl, _, r⟩
  · exact .inl h
  · exact .inr ⟨g, cap, cur, rfl, Nat.zero_le _, r⟩
theorem Drawn0.keep' {w w' : World} (h : Drawn0 w w') : Keep No w w' := by
  obtain ⟨n, rfl⟩ := h.out
  exact Keep.drewN _ _ _
theorem ref01_Class (z : Int) (w : World) : Calls Try.prog 36 #[.int .i64 z] w fun e w' => e = .returned (.int .i64 (cls z)) ∧ Keep No w w' :=
  (cantleref01_Class.calls 10 z (cls z) w (class_f (by omega) z)).mono fun _ _ ⟨h1, h2⟩ => ⟨h1, Drawn0.keep' h2⟩
theorem ref07_Find {w : World} {F : Nat → Prop} {v : Value} {b : List UInt8} (h : Rd w F v b.length (bv b)) (hb : b.length ≤ 16384) (z : Int) (hz : isSize z = true) :
    Calls Try.prog 44 #[v, .int .i64 z] w fun e w' => e = .returned (.tuple #[.int .i64 ((findB b z).getD 0), .bool (findB b z).isSome]) ∧ Keep No w w' := by
  obtain ⟨A, c, rfl, hc1, hc2⟩ := h.form'
  have hf := find_f hb (Nat.le_refl 30000) hz
  have := cantleref07_Find.calls 30000 A c (nums b) z ((findB b z).getD 0) (findB b z).isSome w (C_bytes h) (by rw [nums_length]; exact hc1) (by rw [hf]; cases findB b z <;> rfl)
  rw [nums_length] at this
  exact this.mono fun _ _ ⟨h1, h2⟩ => ⟨h1, Keep.ofBelow h2⟩
theorem ref07_Rebuild {w0 w : World} {v : Value} {b : List UInt8} (h : NewO w0 w v b) (hb : b.length ≤ 16384) :
    Calls Try.prog 33 #[v] w fun e w' => ∃ v', e = .returned (.tuple #[v', .bool (rebuild b).isSome]) ∧ NewO w0 w' v' ((rebuild b).getD b) ∧ Keep (fun k => v.ownBlock = some k) w w' ∧ (∀ k, v'.ownBlock = some k → v.ownBlock = some k ∨ w.heap.size ≤ k) := by
  have hf := rebuild_f hb (Nat.le_refl 20000)
  have := cantleref07_Rebuild.calls 20000 (fun k => v.ownBlock = some k) v (nums b) (nums ((rebuild b).getD b)) (rebuild b).isSome w0 w h.keep.toBelow (R_bytes h.own h.ge (fun k hk => hk)) hf
  refine this.mono ?_
  rintro e w' ⟨v', rfl, hR, hB, hK⟩
  obtain ⟨h1, h2⟩ := bytes_R hR
  have hB0 := h.keep.toBelow
  have hKB := Keep.ofBelow hB
  refine ⟨v', rfl, ⟨hKB, h1, h2⟩, ⟨hKB.os.trans h.keep.os.symm, hKB.tape.trans h.keep.tape.symm, hKB.output.trans h.keep.output.symm, hK.1, hK.2⟩, fun k hk => hR.1 k hk⟩
theorem law09_Bytes {w : World} {A : Option Addr} {c : Nat} {l : List Ref.S152} (n : Int) (hn0 : 0 ≤ n) (hn : n ≤ 10000) (hl : l.length ≤ 100) (hv : ∀ x ∈ l, 0 ≤ x.f2 ∧ x.f2 < 18446744073709551616)
    (hr : Kd.C k152 w A l.length l) (hc : l.length ≤ c) :
    Calls Try.prog 26 #[.int .i64 n, .slice A l.length c] w fun e w' => ∃ v b, e = .returned v ∧ NewO w w' v b ∧ (b.length : Int) = n := by
  obtain ⟨m, rfl⟩ := Int.eq_ofNat_of_zero_le hn0
  obtain ⟨b, hb, hf⟩ := bytes_f (show m ≤ 10000 by omega) hl hv (Nat.le_refl 1000)
  refine (cantlelaw09_Bytes.calls 1000 (m : Int) A c l (nums b) w hr hc hf).mono ?_
  rintro e w' ⟨v, rfl, hR, hB⟩
  obtain ⟨h1, h2⟩ := bytes_R hR
  exact ⟨v, b, rfl, ⟨Keep.ofBelow hB, h1, h2⟩, by omega⟩
end Go.Proofs.Ytnldmhljggcnpaa
namespace Go.Proofs.Ytnldmhljggcnpaa
set_option linter.unusedSimpArgs false
set_option linter.unusedVariables false
open Go.RowKit Cantle
set_option maxRecDepth 100000
set_option maxHeartbeats 4000000

theorem NewO.keepNo {w w1 w2 : World} {v : Value} {l : List UInt8} (h : NewO w w1 v l) (k : Keep No w1 w2) : NewO w w2 v l := ⟨h.keep.thenNo k, h.own.keepNo k, h.ge⟩
theorem rebuild_length {b b' : List UInt8} (hb : b.length ≤ 16384) (h : rebuild b = some b') : b'.length = b.length := by
  cases hw : walk b with
  | none => unfold rebuild at h; rw [hw] at h; cases h
  | some l =>
    obtain ⟨b2, h1, _, h2, _⟩ := rebuild_inv hw hb
    rw [h] at h1
    obtain rfl := Option.some.inj h1
    exact h2
theorem zeros_new (n : Nat) (hn : n ≤ 281474976710656) (w : World) : Rd (w.alloc (.cells (zb n) 5)) (fun i => w.heap.size ≤ i) (.slice (some ⟨w.heap.size, 0, none⟩) n n) (List.replicate n 0).length (bv (List.replicate n 0)) := by
  have h := newB_alloc w (zb n) (List.replicate n 0) (by simp [zb]) (by rw [List.length_replicate]; unfold maxLen; omega)
  rw [List.length_replicate] at h
  have := h.rd
  rw [List.length_replicate] at this ⊢
  exact this
theorem up10_facts : ∃ b1 b2, bset (List.replicate 280 0) ⟨184, 96, false⟩ = some b1 ∧ rebuild b1 = some b2 ∧ findB (List.replicate 280 0) 32 = some 0 ∧ findB b2 48 = some 184 :=
  ⟨(bset (List.replicate 280 0) ⟨184, 96, false⟩).getD [], (rebuild ((bset (List.replicate 280 0) ⟨184, 96, false⟩).getD [])).getD [], by decide +kernel, by decide +kernel, by decide +kernel, by decide +kernel⟩
theorem law10_up {w : World} : Calls Try.prog 41 #[] w fun e w' => e = .returned (.bool true) ∧ Keep No w w' := by
  have hmk := fun w => mk_bytes 280 (by decide) w
  simp only [Int.cast_ofNat_Int] at hmk
  obtain ⟨b1, b2, hb1, hb2, hf0, hf2⟩ := up10_facts
  have hA := law00_Arena (w := w.alloc (.cells (zb 280) 5)) (l := List.replicate 280 0) 16 1024 (by decide) (zeros_new 280 (by decide) w) (by rw [List.length_replicate]; decide)
  have HF1 := hid (fun wx p V (h : Ar wx p V ⟨16, (1024 : Int).toNat, List.replicate 280 0⟩) => fit_Find h 32 (by decide))
  have HS := hid (fun wx p V (h : Ar wx p V ⟨16, (1024 : Int).toNat, List.replicate 280 0⟩) => block_Set_ok h ⟨184, 96, false⟩ hb1)
  have HR := hid (fun wx p V (h : Ar wx p V ⟨16, (1024 : Int).toNat, b1⟩) => fit_Rebuild h)
  have HF2 := hid (fun wx p V (h : Ar wx p V ⟨16, (1024 : Int).toNat, b2⟩) => fit_Find h 48 (by decide))
  simp only [hf0, hb2, hf2, findR, rebuildR, blkV] at HF1 HS HR HF2
  clear hb1 hb2 hf0 hf2
  have e16 : ((16 : Nat) : Int) = 16 := rfl
  rw [e16] at hA
  clear e16
  generalize List.replicate 280 (0 : UInt8) = Z at *
  go_enter Try.func41, Try.ntmps41
  go_wp2_with fail
  refine hA.mono ?_; rintro e w1 ⟨p, V, rfl, hN⟩
  go_wp2_with fail
  refine (HF1.out _ _ _ hN.ar).mono ?_; rintro e w2 ⟨rfl, k2⟩
  go_wp2_with fail
  refine (HS.out _ _ _ (hN.keepNo k2).ar).mono ?_; rintro e w3 ⟨rfl, m3⟩
  have h3 := (hN.keepNo k2).mut m3
  go_wp2_with fail
  refine (HR.out _ _ _ h3.ar).mono ?_; rintro e w4 ⟨rfl, m4⟩
  have h4 := h3.mut m4
  go_wp2_with fail
  refine (HF2.out _ _ _ h4.ar).mono ?_; rintro e w5 ⟨rfl, k5⟩
  go_wp2
  go_ret
  exact ⟨rfl, ((keep_alloc _ _).thenNo h4.keep).thenNo k5⟩
end Go.Proofs.Ytnldmhljggcnpaa
namespace Go.Proofs.Ytnldmhljggcnpaa
set_option linter.unusedSimpArgs false
set_option linter.unusedVariables false
open Go.RowKit Cantle
open Go.Proofs.YtnldmhljggcnpaaW.PrintWords (Kd)
set_option maxRecDepth 100000
set_option maxHeartbeats 4000000

theorem errV_nil2 (c : Nat) (x : Operand) (z : Value) (W : World) : (binOp .eql 31 (errV c) .nilIface).run Try.prog W = .ok (.bool (decide (c = 0))) W ∧
    (eqGuard .eql 31 x (.const z) (errV c) .nilIface).run Try.prog W = .ok () W := by
  cases c with
  | zero => refine ⟨?_, ?_⟩ <;> simp [errV, go_sem]
  | succ n => refine ⟨?_, ?_⟩ <;> simp [errV, go_sem]
/-- what holds ahead of each round of the law 'FitTells' -/
def FtRel (w1 wr : World) (p : Nat) (V vb : Value) (n : Int) : Prop :=
  ∃ b : List UInt8, (b.length : Int) = n ∧ NewA w1 wr p V ⟨32, 16384, b⟩ ∧ NewO w1 wr vb b ∧ ∀ i, vb.ownBlock = some i → ¬ Fp p V i
theorem FitTells_walk {w : World} {A : Option Addr} {c : Nat} {l : List Ref.S152} (hr : Kd.C Ref.k152 w A l.length l) (hc : l.length ≤ c) (hc2 : c ≤ 9223372036854775807)
    (hv : ∀ x ∈ l, 0 ≤ x.f2 ∧ x.f2 < 18446744073709551616) (n z : Int) :
    Calls Try.prog 7 #[.int .i64 n, .slice A l.length c, .int .i64 z] w fun e w' => e = .returned (.bool true) ∧ Keep No w w' := by
  have HB := hid (fun wx (k : Keep No w wx) h1 h2 h3 => law09_Bytes (w := wx) (A := A) (c := c) (l := l) n h1 h2 h3 hv (Kd.C_below hr k.toBelow) hc)
  clear hr hv
  generalize l.length = len at *
  go_enter Try.func7, Try.ntmps7
  go_wp2_with fail
  refine law10_up.mono ?_; rintro e w1 ⟨rfl, k1⟩
  by_cases g1 : n < 0
  · go_wp2
    go_ret
    exact ⟨rfl, k1⟩
  by_cases g2 : 2000 < n
  · go_wp2
    go_ret
    exact ⟨rfl, k1⟩
  by_cases g3 : 60 < (len : Int)
  · go_wp2
    go_ret
    exact ⟨rfl, k1⟩
  have hB := HB.out w1 k1 (by omega) (by omega) (by omega)
  clear HB
  go_wp2_with fail
  refine hB.mono ?_; rintro e w2 ⟨v, b, rfl, hN, hlen⟩
  have hA := law00_Arena (w := w2) 32 16384 (by decide) hN.rd (by omega)
  obtain ⟨Av, cv, rfl, _, _⟩ := hN.own.rd.form'
  have hN2 := hid hN
  have HLEN := hid hlen
  have e32 : ((32 : Nat) : Int) = 32 := rfl
  rw [e32] at hA
  clear e32 hB hN hlen
  generalize hbl : b.length = bl at *
  have HBL := hid hbl
  clear hbl
  go_wp2_with fail
  refine hA.mono ?_; rintro e w3 ⟨p, V, rfl, hNA⟩
  have HR0 : Hid (FtRel w1 w3 p V (.slice Av bl cv) n) := hid ⟨b, by rw [HBL.out]; exact HLEN.out, NewA.old hN2.out.keep hNA, ⟨hN2.out.keep.thenNo hNA.keep, hN2.out.own.keepNo hNA.keep, hN2.out.ge⟩, fun i hi hF => by
    have h1 := hN2.out.own.lt i hi
    have h2 := hNA.ge i hF
    omega⟩
  clear hA hNA
  go_wp2_with fail
  go_loopw [8, 10] (fun vb i wr => ∃ k : Nat, i = .int .i64 k ∧ k ≤ 2 ∧ FtRel w1 wr p V vb n) (fun _ i _ => 2 - (intOf i).toNat)
  case atStart => exact ⟨0, rfl, by omega, HR0.out⟩
  case round =>
    obtain ⟨k, rfl, hk, b', q1, q2, q3, q4⟩ := hrel
    obtain ⟨Ab, cb, rfl, _, _⟩ := q3.own.rd.form'
    have Q1 := hid q1
    have Q2 := hid q2
    have Q3 := hid q3
    have Q4 := hid q4
    clear q1 q2 q3 q4
    by_cases hk2 : k < 2
    · have hbl : b'.length ≤ 16384 := by have := Q1.out; omega
      have hF0 := fun h => fit_Find_no (w := wr) p z h
      have hF1 := fun h => fit_Find Q2.out.ar z h
      have hRF := fun wx (kk : Keep No wr wx) h => ref07_Find (Q3.out.own.rd.keepNo kk) hbl z h
      have hCl := fun wx => ref01_Class z wx
      have HF0 := hid hF0
      have HF1 := hid hF1
      have HRF := hid hRF
      clear hF0 hF1 hRF
      cases hz : isSize z with
      | false =>
        have hF := HF0.out hz
        have hcz := cls_none hz
        rw [hcz] at hCl
        simp only [errV] at hF
        clear hz hcz
        go_wp2_with fail
        refine hF.mono ?_; rintro e w4 ⟨rfl, rfl⟩
        go_wp2_with fail
        refine (hCl _).mono ?_; rintro e w5 ⟨rfl, k5⟩
        go_wp2_with fail
        refine (law00_Code 1 (by decide) _).mono ?_; rintro e w6 ⟨rfl, rfl⟩
        clear HF0 HF1 HRF
        cases hrb : rebuild b' with
        | none =>
          have hRB := fit_Rebuild (Q2.out.ar.keepNo (k5))
          simp only at hRB
          rw [hrb] at hRB
          simp only [rebuildR, errV] at hRB
          have HRR := hid (fun wx (h : NewO w1 wx (.slice Ab b'.length cb) b') => ref07_Rebuild h hbl)
          rw [hrb] at HRR
          simp only [Option.getD_none, Option.isSome_none] at HRR
          clear hrb
          go_wp2_with fail
          refine hRB.mono ?_; rintro e w7 ⟨rfl, k7⟩
          have KW := hid ((k5).thenNo k7)
          clear hRB
          go_wp2_with fail
          refine (HRR.out _ (Q3.out.keepNo KW.out)).mono ?_; rintro e w8 ⟨vd, rfl, hd1, hd2, hd3⟩
          have hA8 := ((Q2.out.keepNo KW.out).ar).keep hd2 (fun i hi e => Q4.out i e hi)
          have HNX : Hid (∀ wx, Keep No w8 wx → FtRel w1 wx p V vd n) := hid (fun wx kx => ⟨b', Q1.out, ⟨hA8.keepNo kx, hd1.keep.thenNo kx, Q2.out.ge⟩, hd1.keepNo kx, fun i hi hF => by
            rcases hd3 i hi with h | h
            · exact Q4.out i h hF
            · have := (Q2.out.keepNo KW.out).ar.lt i hF; omega⟩)
          have HBY := hid (fun wx (kx : Keep No w8 wx) => law00_Bytes (hA8.keepNo kx))
          have HCV := hid (fun wx (kx : Keep No w8 wx) => conv_str (hd1.keepNo kx).own.rd)
          obtain ⟨Ad, cd, rfl, _, _⟩ := hd1.own.rd.form'
          generalize hstr : strOf b' = sb at *
          have HSTR := hid hstr
          clear hstr hd1 hd2 hd3 hA8
          go_wp2_with fail
          go_cut [109] from 89 to 109 (fun t wx => t = .bool false ∧ Keep No w8 wx)
          case first =>
            have HB0 := HBY.out _ (Keep.drew No w8)
            have HCV1 := HCV.out _ (Keep.drew No w8)
            clear HNX Q1 Q2 Q3 Q4 HRR HR0 hCl k1 hN2 HLEN HBL HBY
            refine wp_region_seq [0, 1, 2, 3, 4, 5, 6, 7, 8, 9, 10, 11, 12, 13, 14, 17, 18, 15, 16, 19, 20] [true, true, true, true, true, true, true, true, true, false, true, true, true, true, true, true, true, false, true, true, true] (fun w' => (convert 24 9 (.slice Ad b'.length cd)).run Try.prog w' = .ok (.string sb) w') (by kernel_rfl) (by kernel_rfl) (by kernel_rfl) (by kernel_rfl) (by kernel_rfl) HCV1 ?_
            simp only [List.map_cons, List.map_nil, List.getElem?_cons_succ, List.getElem?_cons_zero, Option.getD_some]
            repeat (first
              | (refine seq_take (by rfl) (fun w hSw => by (try dsimp only at hSw); (try obtain ⟨hS1, hS2⟩ := hSw); go_simp; try with_reducible rfl) ?_; simp only [Act.put, List.setIfInBounds_toArray, List.set_cons_zero, List.set_cons_succ])
              | (refine seq_skip (by rfl) ?_; simp only [Act.put, List.setIfInBounds_toArray, List.set_cons_zero, List.set_cons_succ])
              | (refine seq_pass (by rfl) ?_; simp only [Act.put, List.setIfInBounds_toArray, List.set_cons_zero, List.set_cons_succ]))
            refine seq_call (by rfl) (fun K hK => ?_)
            go_simp
            refine (law00_Code 3 (by decide) _).mono ?_; rintro e wa ⟨rfl, rfl⟩
            go_wp2_with fail
            refine hK.out (fun w' => (convert 24 9 (.slice Ad b'.length cd)).run Try.prog w' = .ok (.string sb) w') _ _ (fun _ h => h) HCV1 ?_
            clear hK K
            try simp only [Act.put, List.setIfInBounds_toArray, List.set_cons_zero, List.set_cons_succ]
            repeat (first
              | (refine seq_take (by rfl) (fun w hSw => by (try dsimp only at hSw); (try obtain ⟨hS1, hS2⟩ := hSw); go_simp; try with_reducible rfl) ?_; simp only [Act.put, List.setIfInBounds_toArray, List.set_cons_zero, List.set_cons_succ])
              | (refine seq_skip (by rfl) ?_; simp only [Act.put, List.setIfInBounds_toArray, List.set_cons_zero, List.set_cons_succ])
              | (refine seq_pass (by rfl) ?_; simp only [Act.put, List.setIfInBounds_toArray, List.set_cons_zero, List.set_cons_succ]))
            refine seq_call (by rfl) (fun K hK => ?_)
            go_simp
            refine HB0.mono ?_; rintro e w9 ⟨v9, rfl, hN9⟩
            have K9 := hid ((Keep.drew No w8).trans hN9.keep)
            have hcv9 := conv_str hN9.own.rd
            simp only [HSTR.out] at hcv9
            obtain ⟨A9, c9, rfl, _, _⟩ := hN9.own.rd.form'
            have HCV9 := HCV.out _ K9.out
            clear hN9
            go_wp2_with fail
            refine hK.out (fun w' => (convert 24 9 (.slice Ad b'.length cd)).run Try.prog w' = .ok (.string sb) w' ∧ (convert 24 9 (.slice A9 b'.length c9)).run Try.prog w' = .ok (.string sb) w') _ _ (fun _ h => h.1) ⟨HCV9, hcv9⟩ ?_
            clear hK K
            try simp only [Act.put, List.setIfInBounds_toArray, List.set_cons_zero, List.set_cons_succ]
            repeat (first
              | (refine seq_take (by rfl) (fun w hSw => by (try dsimp only at hSw); (try obtain ⟨hS1, hS2⟩ := hSw); go_simp; try with_reducible rfl) ?_; simp only [Act.put, List.setIfInBounds_toArray, List.set_cons_zero, List.set_cons_succ])
              | (refine seq_skip (by rfl) ?_; simp only [Act.put, List.setIfInBounds_toArray, List.set_cons_zero, List.set_cons_succ])
              | (refine seq_pass (by rfl) ?_; simp only [Act.put, List.setIfInBounds_toArray, List.set_cons_zero, List.set_cons_succ]))
            refine seq_nil ?_
            go_wp2_with fail
            go_meet
            case rel => exact ⟨rfl, K9.out⟩
          case rest =>
            obtain ⟨rfl, kc⟩ := hcut
            go_wp2
            refine ⟨⟨k + 1, rfl, by omega, HNX.out _ kc⟩, ?_⟩
            simp [intOf]; omega
        | some b2 =>
          have hb2l : b2.length = b'.length := rebuild_length hbl hrb
          have hRB := fit_Rebuild (Q2.out.ar.keepNo (k5))
          simp only at hRB
          rw [hrb] at hRB
          simp only [rebuildR] at hRB
          have HRR := hid (fun wx (h : NewO w1 wx (.slice Ab b'.length cb) b') => ref07_Rebuild h hbl)
          rw [hrb] at HRR
          simp only [Option.getD_some, Option.isSome_some] at HRR
          clear hrb
          go_wp2_with fail
          refine hRB.mono ?_; rintro e w7 ⟨rfl, m7⟩
          have hA7 := (Q2.out.keepNo (k5)).mut m7
          have hO7 : NewO w1 w7 (.slice Ab b'.length cb) b' := by
            have h0 := Q3.out.keepNo (k5)
            exact ⟨hA7.keep, h0.own.keep m7.keep (fun i hi hF => Q4.out i hi hF), h0.ge⟩
          clear hRB
          go_wp2_with fail
          refine (HRR.out _ hO7).mono ?_; rintro e w8 ⟨vd, rfl, hd1, hd2, hd3⟩
          have hA8 := (hA7.ar).keep hd2 (fun i hi e => Q4.out i e hi)
          have HNX : Hid (∀ wx, Keep No w8 wx → FtRel w1 wx p V vd n) := hid (fun wx kx => ⟨b2, by rw [hb2l]; exact Q1.out, ⟨hA8.keepNo kx, hd1.keep.thenNo kx, Q2.out.ge⟩, hd1.keepNo kx, fun i hi hF => by
            rcases hd3 i hi with h | h
            · exact Q4.out i h hF
            · have := hA7.ar.lt i hF; omega⟩)
          have HBY := hid (fun wx (kx : Keep No w8 wx) => law00_Bytes (hA8.keepNo kx))
          have HCV := hid (fun wx (kx : Keep No w8 wx) => conv_str (hd1.keepNo kx).own.rd)
          obtain ⟨Ad, cd, rfl, _, _⟩ := hd1.own.rd.form'
          generalize hstr : strOf b2 = sb at *
          have HSTR := hid hstr
          have HB2L := hid hb2l
          clear hstr hd1 hd2 hd3 hA8 hA7 hO7 m7 hb2l
          go_wp2_with fail
          go_cut [109] from 89 to 109 (fun t wx => t = .bool false ∧ Keep No w8 wx)
          case first =>
            have HB0 := HBY.out _ (Keep.drew No w8)
            have HCV1 := HCV.out _ (Keep.drew No w8)
            clear HNX Q1 Q2 Q3 Q4 HRR HR0 hCl k1 hN2 HLEN HBL HBY
            refine wp_region_seq [0, 1, 2, 3, 4, 5, 6, 7, 8, 9, 10, 11, 12, 13, 14, 17, 18, 15, 16, 19, 20] [true, true, true, true, true, true, true, true, true, false, true, true, true, true, true, true, true, false, true, true, true] (fun w' => (convert 24 9 (.slice Ad b2.length cd)).run Try.prog w' = .ok (.string sb) w') (by kernel_rfl) (by kernel_rfl) (by kernel_rfl) (by kernel_rfl) (by kernel_rfl) HCV1 ?_
            simp only [List.map_cons, List.map_nil, List.getElem?_cons_succ, List.getElem?_cons_zero, Option.getD_some]
            repeat (first
              | (refine seq_take (by rfl) (fun w hSw => by (try dsimp only at hSw); (try obtain ⟨hS1, hS2⟩ := hSw); go_simp; try with_reducible rfl) ?_; simp only [Act.put, List.setIfInBounds_toArray, List.set_cons_zero, List.set_cons_succ])
              | (refine seq_skip (by rfl) ?_; simp only [Act.put, List.setIfInBounds_toArray, List.set_cons_zero, List.set_cons_succ])
              | (refine seq_pass (by rfl) ?_; simp only [Act.put, List.setIfInBounds_toArray, List.set_cons_zero, List.set_cons_succ]))
            refine seq_call (by rfl) (fun K hK => ?_)
            go_simp
            refine HB0.mono ?_; rintro e w9 ⟨v9, rfl, hN9⟩
            have K9 := hid ((Keep.drew No w8).trans hN9.keep)
            have hcv9 := conv_str hN9.own.rd
            simp only [HSTR.out] at hcv9
            obtain ⟨A9, c9, rfl, _, _⟩ := hN9.own.rd.form'
            have HCV9 := HCV.out _ K9.out
            clear hN9
            go_wp2_with fail
            refine hK.out (fun w' => (convert 24 9 (.slice Ad b2.length cd)).run Try.prog w' = .ok (.string sb) w' ∧ (convert 24 9 (.slice A9 b2.length c9)).run Try.prog w' = .ok (.string sb) w') _ _ (fun _ h => h.1) ⟨HCV9, hcv9⟩ ?_
            clear hK K
            try simp only [Act.put, List.setIfInBounds_toArray, List.set_cons_zero, List.set_cons_succ]
            repeat (first
              | (refine seq_take (by rfl) (fun w hSw => by (try dsimp only at hSw); (try obtain ⟨hS1, hS2⟩ := hSw); go_simp; try with_reducible rfl) ?_; simp only [Act.put, List.setIfInBounds_toArray, List.set_cons_zero, List.set_cons_succ])
              | (refine seq_skip (by rfl) ?_; simp only [Act.put, List.setIfInBounds_toArray, List.set_cons_zero, List.set_cons_succ])
              | (refine seq_pass (by rfl) ?_; simp only [Act.put, List.setIfInBounds_toArray, List.set_cons_zero, List.set_cons_succ]))
            refine seq_nil ?_
            go_wp2_with fail
            go_meet
            case rel => exact ⟨rfl, K9.out⟩
          case rest =>
            obtain ⟨rfl, kc⟩ := hcut
            go_wp2
            refine ⟨⟨k + 1, rfl, by omega, HNX.out _ kc⟩, ?_⟩
            simp [intOf]; omega
      | true =>
        have hF := HF1.out hz
        have hr := cls_range hz
        have HRF2 := hid (fun wx (kk : Keep No wr wx) => HRF.out wx kk hz)
        have hc0 : ¬ cls z < 0 := by omega
        clear hz hr
        generalize cls z = C at *
        simp only at hF
        cases hf : findB b' z with
        | none =>
          rw [hf] at hF HRF2
          simp only [findR, errV, Option.getD_none, Option.isSome_none] at hF HRF2
          clear hf
          go_wp2_with fail
          refine hF.mono ?_; rintro e w4 ⟨rfl, k4⟩
          go_wp2_with fail
          refine (hCl _).mono ?_; rintro e w5 ⟨rfl, k5⟩
          go_wp2_with fail
          refine (HRF2.out _ (k4.thenNo k5)).mono ?_; rintro e w6 ⟨rfl, k6⟩
          go_wp2_with fail
          refine (law00_Code 3 (by decide) _).mono ?_; rintro e w7 ⟨rfl, rfl⟩
          clear HF0 HF1 HRF
          cases hrb : rebuild b' with
          | none =>
            have hRB := fit_Rebuild (Q2.out.ar.keepNo ((k4.thenNo k5).thenNo k6))
            simp only at hRB
            rw [hrb] at hRB
            simp only [rebuildR, errV] at hRB
            have HRR := hid (fun wx (h : NewO w1 wx (.slice Ab b'.length cb) b') => ref07_Rebuild h hbl)
            rw [hrb] at HRR
            simp only [Option.getD_none, Option.isSome_none] at HRR
            clear hrb
            go_wp2_with fail
            refine hRB.mono ?_; rintro e w7 ⟨rfl, k7⟩
            have KW := hid (((k4.thenNo k5).thenNo k6).thenNo k7)
            clear hRB
            go_wp2_with fail
            refine (HRR.out _ (Q3.out.keepNo KW.out)).mono ?_; rintro e w8 ⟨vd, rfl, hd1, hd2, hd3⟩
            have hA8 := ((Q2.out.keepNo KW.out).ar).keep hd2 (fun i hi e => Q4.out i e hi)
            have HNX : Hid (∀ wx, Keep No w8 wx → FtRel w1 wx p V vd n) := hid (fun wx kx => ⟨b', Q1.out, ⟨hA8.keepNo kx, hd1.keep.thenNo kx, Q2.out.ge⟩, hd1.keepNo kx, fun i hi hF => by
              rcases hd3 i hi with h | h
              · exact Q4.out i h hF
              · have := (Q2.out.keepNo KW.out).ar.lt i hF; omega⟩)
            have HBY := hid (fun wx (kx : Keep No w8 wx) => law00_Bytes (hA8.keepNo kx))
            have HCV := hid (fun wx (kx : Keep No w8 wx) => conv_str (hd1.keepNo kx).own.rd)
            obtain ⟨Ad, cd, rfl, _, _⟩ := hd1.own.rd.form'
            generalize hstr : strOf b' = sb at *
            have HSTR := hid hstr
            clear hstr hd1 hd2 hd3 hA8
            go_wp2_with fail
            go_cut [109] from 89 to 109 (fun t wx => t = .bool false ∧ Keep No w8 wx)
            case first =>
              have HB0 := HBY.out _ (Keep.drew No w8)
              have HCV1 := HCV.out _ (Keep.drew No w8)
              clear HNX Q1 Q2 Q3 Q4 HRR HR0 hCl k1 hN2 HLEN HBL HBY
              refine wp_region_seq [0, 1, 2, 3, 4, 5, 6, 7, 8, 9, 10, 11, 12, 13, 14, 17, 18, 15, 16, 19, 20] [true, true, true, true, true, true, true, true, true, false, true, true, true, true, true, true, true, false, true, true, true] (fun w' => (convert 24 9 (.slice Ad b'.length cd)).run Try.prog w' = .ok (.string sb) w') (by kernel_rfl) (by kernel_rfl) (by kernel_rfl) (by kernel_rfl) (by kernel_rfl) HCV1 ?_
              simp only [List.map_cons, List.map_nil, List.getElem?_cons_succ, List.getElem?_cons_zero, Option.getD_some]
              repeat (first
                | (refine seq_take (by rfl) (fun w hSw => by (try dsimp only at hSw); (try obtain ⟨hS1, hS2⟩ := hSw); go_simp; try with_reducible rfl) ?_; simp only [Act.put, List.setIfInBounds_toArray, List.set_cons_zero, List.set_cons_succ])
                | (refine seq_skip (by rfl) ?_; simp only [Act.put, List.setIfInBounds_toArray, List.set_cons_zero, List.set_cons_succ])
                | (refine seq_pass (by rfl) ?_; simp only [Act.put, List.setIfInBounds_toArray, List.set_cons_zero, List.set_cons_succ]))
              refine seq_call (by rfl) (fun K hK => ?_)
              go_simp
              refine (law00_Code 3 (by decide) _).mono ?_; rintro e wa ⟨rfl, rfl⟩
              go_wp2_with fail
              refine hK.out (fun w' => (convert 24 9 (.slice Ad b'.length cd)).run Try.prog w' = .ok (.string sb) w') _ _ (fun _ h => h) HCV1 ?_
              clear hK K
              try simp only [Act.put, List.setIfInBounds_toArray, List.set_cons_zero, List.set_cons_succ]
              repeat (first
                | (refine seq_take (by rfl) (fun w hSw => by (try dsimp only at hSw); (try obtain ⟨hS1, hS2⟩ := hSw); go_simp; try with_reducible rfl) ?_; simp only [Act.put, List.setIfInBounds_toArray, List.set_cons_zero, List.set_cons_succ])
                | (refine seq_skip (by rfl) ?_; simp only [Act.put, List.setIfInBounds_toArray, List.set_cons_zero, List.set_cons_succ])
                | (refine seq_pass (by rfl) ?_; simp only [Act.put, List.setIfInBounds_toArray, List.set_cons_zero, List.set_cons_succ]))
              refine seq_call (by rfl) (fun K hK => ?_)
              go_simp
              refine HB0.mono ?_; rintro e w9 ⟨v9, rfl, hN9⟩
              have K9 := hid ((Keep.drew No w8).trans hN9.keep)
              have hcv9 := conv_str hN9.own.rd
              simp only [HSTR.out] at hcv9
              obtain ⟨A9, c9, rfl, _, _⟩ := hN9.own.rd.form'
              have HCV9 := HCV.out _ K9.out
              clear hN9
              go_wp2_with fail
              refine hK.out (fun w' => (convert 24 9 (.slice Ad b'.length cd)).run Try.prog w' = .ok (.string sb) w' ∧ (convert 24 9 (.slice A9 b'.length c9)).run Try.prog w' = .ok (.string sb) w') _ _ (fun _ h => h.1) ⟨HCV9, hcv9⟩ ?_
              clear hK K
              try simp only [Act.put, List.setIfInBounds_toArray, List.set_cons_zero, List.set_cons_succ]
              repeat (first
                | (refine seq_take (by rfl) (fun w hSw => by (try dsimp only at hSw); (try obtain ⟨hS1, hS2⟩ := hSw); go_simp; try with_reducible rfl) ?_; simp only [Act.put, List.setIfInBounds_toArray, List.set_cons_zero, List.set_cons_succ])
                | (refine seq_skip (by rfl) ?_; simp only [Act.put, List.setIfInBounds_toArray, List.set_cons_zero, List.set_cons_succ])
                | (refine seq_pass (by rfl) ?_; simp only [Act.put, List.setIfInBounds_toArray, List.set_cons_zero, List.set_cons_succ]))
              refine seq_nil ?_
              go_wp2_with fail
              go_meet
              case rel => exact ⟨rfl, K9.out⟩
            case rest =>
              obtain ⟨rfl, kc⟩ := hcut
              go_wp2
              refine ⟨⟨k + 1, rfl, by omega, HNX.out _ kc⟩, ?_⟩
              simp [intOf]; omega
          | some b2 =>
            have hb2l : b2.length = b'.length := rebuild_length hbl hrb
            have hRB := fit_Rebuild (Q2.out.ar.keepNo ((k4.thenNo k5).thenNo k6))
            simp only at hRB
            rw [hrb] at hRB
            simp only [rebuildR] at hRB
            have HRR := hid (fun wx (h : NewO w1 wx (.slice Ab b'.length cb) b') => ref07_Rebuild h hbl)
            rw [hrb] at HRR
            simp only [Option.getD_some, Option.isSome_some] at HRR
            clear hrb
            go_wp2_with fail
            refine hRB.mono ?_; rintro e w7 ⟨rfl, m7⟩
            have hA7 := (Q2.out.keepNo ((k4.thenNo k5).thenNo k6)).mut m7
            have hO7 : NewO w1 w7 (.slice Ab b'.length cb) b' := by
              have h0 := Q3.out.keepNo ((k4.thenNo k5).thenNo k6)
              exact ⟨hA7.keep, h0.own.keep m7.keep (fun i hi hF => Q4.out i hi hF), h0.ge⟩
            clear hRB
            go_wp2_with fail
            refine (HRR.out _ hO7).mono ?_; rintro e w8 ⟨vd, rfl, hd1, hd2, hd3⟩
            have hA8 := (hA7.ar).keep hd2 (fun i hi e => Q4.out i e hi)
            have HNX : Hid (∀ wx, Keep No w8 wx → FtRel w1 wx p V vd n) := hid (fun wx kx => ⟨b2, by rw [hb2l]; exact Q1.out, ⟨hA8.keepNo kx, hd1.keep.thenNo kx, Q2.out.ge⟩, hd1.keepNo kx, fun i hi hF => by
              rcases hd3 i hi with h | h
              · exact Q4.out i h hF
              · have := hA7.ar.lt i hF; omega⟩)
            have HBY := hid (fun wx (kx : Keep No w8 wx) => law00_Bytes (hA8.keepNo kx))
            have HCV := hid (fun wx (kx : Keep No w8 wx) => conv_str (hd1.keepNo kx).own.rd)
            obtain ⟨Ad, cd, rfl, _, _⟩ := hd1.own.rd.form'
            generalize hstr : strOf b2 = sb at *
            have HSTR := hid hstr
            have HB2L := hid hb2l
            clear hstr hd1 hd2 hd3 hA8 hA7 hO7 m7 hb2l
            go_wp2_with fail
            go_cut [109] from 89 to 109 (fun t wx => t = .bool false ∧ Keep No w8 wx)
            case first =>
              have HB0 := HBY.out _ (Keep.drew No w8)
              have HCV1 := HCV.out _ (Keep.drew No w8)
              clear HNX Q1 Q2 Q3 Q4 HRR HR0 hCl k1 hN2 HLEN HBL HBY
              refine wp_region_seq [0, 1, 2, 3, 4, 5, 6, 7, 8, 9, 10, 11, 12, 13, 14, 17, 18, 15, 16, 19, 20] [true, true, true, true, true, true, true, true, true, false, true, true, true, true, true, true, true, false, true, true, true] (fun w' => (convert 24 9 (.slice Ad b2.length cd)).run Try.prog w' = .ok (.string sb) w') (by kernel_rfl) (by kernel_rfl) (by kernel_rfl) (by kernel_rfl) (by kernel_rfl) HCV1 ?_
              simp only [List.map_cons, List.map_nil, List.getElem?_cons_succ, List.getElem?_cons_zero, Option.getD_some]
              repeat (first
                | (refine seq_take (by rfl) (fun w hSw => by (try dsimp only at hSw); (try obtain ⟨hS1, hS2⟩ := hSw); go_simp; try with_reducible rfl) ?_; simp only [Act.put, List.setIfInBounds_toArray, List.set_cons_zero, List.set_cons_succ])
                | (refine seq_skip (by rfl) ?_; simp only [Act.put, List.setIfInBounds_toArray, List.set_cons_zero, List.set_cons_succ])
                | (refine seq_pass (by rfl) ?_; simp only [Act.put, List.setIfInBounds_toArray, List.set_cons_zero, List.set_cons_succ]))
              refine seq_call (by rfl) (fun K hK => ?_)
              go_simp
              refine HB0.mono ?_; rintro e w9 ⟨v9, rfl, hN9⟩
              have K9 := hid ((Keep.drew No w8).trans hN9.keep)
              have hcv9 := conv_str hN9.own.rd
              simp only [HSTR.out] at hcv9
              obtain ⟨A9, c9, rfl, _, _⟩ := hN9.own.rd.form'
              have HCV9 := HCV.out _ K9.out
              clear hN9
              go_wp2_with fail
              refine hK.out (fun w' => (convert 24 9 (.slice Ad b2.length cd)).run Try.prog w' = .ok (.string sb) w' ∧ (convert 24 9 (.slice A9 b2.length c9)).run Try.prog w' = .ok (.string sb) w') _ _ (fun _ h => h.1) ⟨HCV9, hcv9⟩ ?_
              clear hK K
              try simp only [Act.put, List.setIfInBounds_toArray, List.set_cons_zero, List.set_cons_succ]
              repeat (first
                | (refine seq_take (by rfl) (fun w hSw => by (try dsimp only at hSw); (try obtain ⟨hS1, hS2⟩ := hSw); go_simp; try with_reducible rfl) ?_; simp only [Act.put, List.setIfInBounds_toArray, List.set_cons_zero, List.set_cons_succ])
                | (refine seq_skip (by rfl) ?_; simp only [Act.put, List.setIfInBounds_toArray, List.set_cons_zero, List.set_cons_succ])
                | (refine seq_pass (by rfl) ?_; simp only [Act.put, List.setIfInBounds_toArray, List.set_cons_zero, List.set_cons_succ]))
              refine seq_nil ?_
              go_wp2_with fail
              go_meet
              case rel => exact ⟨rfl, K9.out⟩
            case rest =>
              obtain ⟨rfl, kc⟩ := hcut
              go_wp2
              refine ⟨⟨k + 1, rfl, by omega, HNX.out _ kc⟩, ?_⟩
              simp [intOf]; omega
        | some o =>
          rw [hf] at hF HRF2
          simp only [findR, errV, Option.getD_some, Option.isSome_some] at hF HRF2
          clear hf
          go_wp2_with fail
          refine hF.mono ?_; rintro e w4 ⟨rfl, k4⟩
          go_wp2_with fail
          refine (hCl _).mono ?_; rintro e w5 ⟨rfl, k5⟩
          go_wp2_with fail
          refine (HRF2.out _ (k4.thenNo k5)).mono ?_; rintro e w6 ⟨rfl, k6⟩
          clear HF0 HF1 HRF
          cases hrb : rebuild b' with
          | none =>
            have hRB := fit_Rebuild (Q2.out.ar.keepNo ((k4.thenNo k5).thenNo k6))
            simp only at hRB
            rw [hrb] at hRB
            simp only [rebuildR, errV] at hRB
            have HRR := hid (fun wx (h : NewO w1 wx (.slice Ab b'.length cb) b') => ref07_Rebuild h hbl)
            rw [hrb] at HRR
            simp only [Option.getD_none, Option.isSome_none] at HRR
            clear hrb
            go_wp2_with fail
            refine hRB.mono ?_; rintro e w7 ⟨rfl, k7⟩
            have KW := hid (((k4.thenNo k5).thenNo k6).thenNo k7)
            clear hRB
            go_wp2_with fail
            refine (HRR.out _ (Q3.out.keepNo KW.out)).mono ?_; rintro e w8 ⟨vd, rfl, hd1, hd2, hd3⟩
            have hA8 := ((Q2.out.keepNo KW.out).ar).keep hd2 (fun i hi e => Q4.out i e hi)
            have HNX : Hid (∀ wx, Keep No w8 wx → FtRel w1 wx p V vd n) := hid (fun wx kx => ⟨b', Q1.out, ⟨hA8.keepNo kx, hd1.keep.thenNo kx, Q2.out.ge⟩, hd1.keepNo kx, fun i hi hF => by
              rcases hd3 i hi with h | h
              · exact Q4.out i h hF
              · have := (Q2.out.keepNo KW.out).ar.lt i hF; omega⟩)
            have HBY := hid (fun wx (kx : Keep No w8 wx) => law00_Bytes (hA8.keepNo kx))
            have HCV := hid (fun wx (kx : Keep No w8 wx) => conv_str (hd1.keepNo kx).own.rd)
            obtain ⟨Ad, cd, rfl, _, _⟩ := hd1.own.rd.form'
            generalize hstr : strOf b' = sb at *
            have HSTR := hid hstr
            clear hstr hd1 hd2 hd3 hA8
            go_wp2_with fail
            go_cut [109] from 89 to 109 (fun t wx => t = .bool false ∧ Keep No w8 wx)
            case first =>
              have HB0 := HBY.out _ (Keep.drew No w8)
              have HCV1 := HCV.out _ (Keep.drew No w8)
              clear HNX Q1 Q2 Q3 Q4 HRR HR0 hCl k1 hN2 HLEN HBL HBY
              refine wp_region_seq [0, 1, 2, 3, 4, 5, 6, 7, 8, 9, 10, 11, 12, 13, 14, 17, 18, 15, 16, 19, 20] [true, true, true, true, true, true, true, true, true, false, true, true, true, true, true, true, true, false, true, true, true] (fun w' => (convert 24 9 (.slice Ad b'.length cd)).run Try.prog w' = .ok (.string sb) w') (by kernel_rfl) (by kernel_rfl) (by kernel_rfl) (by kernel_rfl) (by kernel_rfl) HCV1 ?_
              simp only [List.map_cons, List.map_nil, List.getElem?_cons_succ, List.getElem?_cons_zero, Option.getD_some]
              repeat (first
                | (refine seq_take (by rfl) (fun w hSw => by (try dsimp only at hSw); (try obtain ⟨hS1, hS2⟩ := hSw); go_simp; try with_reducible rfl) ?_; simp only [Act.put, List.setIfInBounds_toArray, List.set_cons_zero, List.set_cons_succ])
                | (refine seq_skip (by rfl) ?_; simp only [Act.put, List.setIfInBounds_toArray, List.set_cons_zero, List.set_cons_succ])
                | (refine seq_pass (by rfl) ?_; simp only [Act.put, List.setIfInBounds_toArray, List.set_cons_zero, List.set_cons_succ]))
              refine seq_call (by rfl) (fun K hK => ?_)
              go_simp
              refine (law00_Code 3 (by decide) _).mono ?_; rintro e wa ⟨rfl, rfl⟩
              go_wp2_with fail
              refine hK.out (fun w' => (convert 24 9 (.slice Ad b'.length cd)).run Try.prog w' = .ok (.string sb) w') _ _ (fun _ h => h) HCV1 ?_
              clear hK K
              try simp only [Act.put, List.setIfInBounds_toArray, List.set_cons_zero, List.set_cons_succ]
              repeat (first
                | (refine seq_take (by rfl) (fun w hSw => by (try dsimp only at hSw); (try obtain ⟨hS1, hS2⟩ := hSw); go_simp; try with_reducible rfl) ?_; simp only [Act.put, List.setIfInBounds_toArray, List.set_cons_zero, List.set_cons_succ])
                | (refine seq_skip (by rfl) ?_; simp only [Act.put, List.setIfInBounds_toArray, List.set_cons_zero, List.set_cons_succ])
                | (refine seq_pass (by rfl) ?_; simp only [Act.put, List.setIfInBounds_toArray, List.set_cons_zero, List.set_cons_succ]))
              refine seq_call (by rfl) (fun K hK => ?_)
              go_simp
              refine HB0.mono ?_; rintro e w9 ⟨v9, rfl, hN9⟩
              have K9 := hid ((Keep.drew No w8).trans hN9.keep)
              have hcv9 := conv_str hN9.own.rd
              simp only [HSTR.out] at hcv9
              obtain ⟨A9, c9, rfl, _, _⟩ := hN9.own.rd.form'
              have HCV9 := HCV.out _ K9.out
              clear hN9
              go_wp2_with fail
              refine hK.out (fun w' => (convert 24 9 (.slice Ad b'.length cd)).run Try.prog w' = .ok (.string sb) w' ∧ (convert 24 9 (.slice A9 b'.length c9)).run Try.prog w' = .ok (.string sb) w') _ _ (fun _ h => h.1) ⟨HCV9, hcv9⟩ ?_
              clear hK K
              try simp only [Act.put, List.setIfInBounds_toArray, List.set_cons_zero, List.set_cons_succ]
              repeat (first
                | (refine seq_take (by rfl) (fun w hSw => by (try dsimp only at hSw); (try obtain ⟨hS1, hS2⟩ := hSw); go_simp; try with_reducible rfl) ?_; simp only [Act.put, List.setIfInBounds_toArray, List.set_cons_zero, List.set_cons_succ])
                | (refine seq_skip (by rfl) ?_; simp only [Act.put, List.setIfInBounds_toArray, List.set_cons_zero, List.set_cons_succ])
                | (refine seq_pass (by rfl) ?_; simp only [Act.put, List.setIfInBounds_toArray, List.set_cons_zero, List.set_cons_succ]))
              refine seq_nil ?_
              go_wp2_with fail
              go_meet
              case rel => exact ⟨rfl, K9.out⟩
            case rest =>
              obtain ⟨rfl, kc⟩ := hcut
              go_wp2
              refine ⟨⟨k + 1, rfl, by omega, HNX.out _ kc⟩, ?_⟩
              simp [intOf]; omega
          | some b2 =>
            have hb2l : b2.length = b'.length := rebuild_length hbl hrb
            have hRB := fit_Rebuild (Q2.out.ar.keepNo ((k4.thenNo k5).thenNo k6))
            simp only at hRB
            rw [hrb] at hRB
            simp only [rebuildR] at hRB
            have HRR := hid (fun wx (h : NewO w1 wx (.slice Ab b'.length cb) b') => ref07_Rebuild h hbl)
            rw [hrb] at HRR
            simp only [Option.getD_some, Option.isSome_some] at HRR
            clear hrb
            go_wp2_with fail
            refine hRB.mono ?_; rintro e w7 ⟨rfl, m7⟩
            have hA7 := (Q2.out.keepNo ((k4.thenNo k5).thenNo k6)).mut m7
            have hO7 : NewO w1 w7 (.slice Ab b'.length cb) b' := by
              have h0 := Q3.out.keepNo ((k4.thenNo k5).thenNo k6)
              exact ⟨hA7.keep, h0.own.keep m7.keep (fun i hi hF => Q4.out i hi hF), h0.ge⟩
            clear hRB
            go_wp2_with fail
            refine (HRR.out _ hO7).mono ?_; rintro e w8 ⟨vd, rfl, hd1, hd2, hd3⟩
            have hA8 := (hA7.ar).keep hd2 (fun i hi e => Q4.out i e hi)
            have HNX : Hid (∀ wx, Keep No w8 wx → FtRel w1 wx p V vd n) := hid (fun wx kx => ⟨b2, by rw [hb2l]; exact Q1.out, ⟨hA8.keepNo kx, hd1.keep.thenNo kx, Q2.out.ge⟩, hd1.keepNo kx, fun i hi hF => by
              rcases hd3 i hi with h | h
              · exact Q4.out i h hF
              · have := hA7.ar.lt i hF; omega⟩)
            have HBY := hid (fun wx (kx : Keep No w8 wx) => law00_Bytes (hA8.keepNo kx))
            have HCV := hid (fun wx (kx : Keep No w8 wx) => conv_str (hd1.keepNo kx).own.rd)
            obtain ⟨Ad, cd, rfl, _, _⟩ := hd1.own.rd.form'
            generalize hstr : strOf b2 = sb at *
            have HSTR := hid hstr
            have HB2L := hid hb2l
            clear hstr hd1 hd2 hd3 hA8 hA7 hO7 m7 hb2l
            go_wp2_with fail
            go_cut [109] from 89 to 109 (fun t wx => t = .bool false ∧ Keep No w8 wx)
            case first =>
              have HB0 := HBY.out _ (Keep.drew No w8)
              have HCV1 := HCV.out _ (Keep.drew No w8)
              clear HNX Q1 Q2 Q3 Q4 HRR HR0 hCl k1 hN2 HLEN HBL HBY
              refine wp_region_seq [0, 1, 2, 3, 4, 5, 6, 7, 8, 9, 10, 11, 12, 13, 14, 17, 18, 15, 16, 19, 20] [true, true, true, true, true, true, true, true, true, false, true, true, true, true, true, true, true, false, true, true, true] (fun w' => (convert 24 9 (.slice Ad b2.length cd)).run Try.prog w' = .ok (.string sb) w') (by kernel_rfl) (by kernel_rfl) (by kernel_rfl) (by kernel_rfl) (by kernel_rfl) HCV1 ?_
              simp only [List.map_cons, List.map_nil, List.getElem?_cons_succ, List.getElem?_cons_zero, Option.getD_some]
              repeat (first
                | (refine seq_take (by rfl) (fun w hSw => by (try dsimp only at hSw); (try obtain ⟨hS1, hS2⟩ := hSw); go_simp; try with_reducible rfl) ?_; simp only [Act.put, List.setIfInBounds_toArray, List.set_cons_zero, List.set_cons_succ])
                | (refine seq_skip (by rfl) ?_; simp only [Act.put, List.setIfInBounds_toArray, List.set_cons_zero, List.set_cons_succ])
                | (refine seq_pass (by rfl) ?_; simp only [Act.put, List.setIfInBounds_toArray, List.set_cons_zero, List.set_cons_succ]))
              refine seq_call (by rfl) (fun K hK => ?_)
              go_simp
              refine HB0.mono ?_; rintro e w9 ⟨v9, rfl, hN9⟩
              have K9 := hid ((Keep.drew No w8).trans hN9.keep)
              have hcv9 := conv_str hN9.own.rd
              simp only [HSTR.out] at hcv9
              obtain ⟨A9, c9, rfl, _, _⟩ := hN9.own.rd.form'
              have HCV9 := HCV.out _ K9.out
              clear hN9
              go_wp2_with fail
              refine hK.out (fun w' => (convert 24 9 (.slice Ad b2.length cd)).run Try.prog w' = .ok (.string sb) w' ∧ (convert 24 9 (.slice A9 b2.length c9)).run Try.prog w' = .ok (.string sb) w') _ _ (fun _ h => h.1) ⟨HCV9, hcv9⟩ ?_
              clear hK K
              try simp only [Act.put, List.setIfInBounds_toArray, List.set_cons_zero, List.set_cons_succ]
              repeat (first
                | (refine seq_take (by rfl) (fun w hSw => by (try dsimp only at hSw); (try obtain ⟨hS1, hS2⟩ := hSw); go_simp; try with_reducible rfl) ?_; simp only [Act.put, List.setIfInBounds_toArray, List.set_cons_zero, List.set_cons_succ])
                | (refine seq_skip (by rfl) ?_; simp only [Act.put, List.setIfInBounds_toArray, List.set_cons_zero, List.set_cons_succ])
                | (refine seq_pass (by rfl) ?_; simp only [Act.put, List.setIfInBounds_toArray, List.set_cons_zero, List.set_cons_succ]))
              refine seq_nil ?_
              go_wp2_with fail
              go_meet
              case rel => exact ⟨rfl, K9.out⟩
            case rest =>
              obtain ⟨rfl, kc⟩ := hcut
              go_wp2
              refine ⟨⟨k + 1, rfl, by omega, HNX.out _ kc⟩, ?_⟩
              simp [intOf]; omega
    · go_wp2
      go_ret
      obtain ⟨b'', _, h2, _⟩ := (show FtRel w1 wr p V _ n from ⟨b', Q1.out, Q2.out, Q3.out, Q4.out⟩)
      exact ⟨rfl, k1.thenNo h2.keep⟩
end Go.Proofs.Ytnldmhljggcnpaa
/-! How the laws' arguments read: slices of structs, of bools, of slices. -/
namespace Go.Proofs.Ytnldmhljggcnpaa
set_option linter.unusedSimpArgs false
set_option linter.unusedVariables false
open Go.RowKit Go.Deep Cantle
open Go.Proofs.YtnldmhljggcnpaaW.PrintWords (Kd)
set_option maxRecDepth 100000

theorem int_wf {k : IntKind} {n : Int} (h : (Lit.int k n).wf = true) : k.min ≤ n ∧ n ≤ k.max := by
  unfold Lit.wf at h
  rw [Bool.and_eq_true, decide_eq_true_eq, decide_eq_true_eq] at h
  exact h
theorem u64_wf {n : Int} (h : (Lit.int .u64 n).wf = true) : 0 ≤ n ∧ n < 18446744073709551616 := by
  have h := int_wf h
  have e1 : IntKind.u64.min = 0 := by decide
  have e2 : IntKind.u64.max = 18446744073709551615 := by decide
  omega
theorem i64_wf {n : Int} (h : (Lit.int .i64 n).wf = true) : -9223372036854775808 ≤ n ∧ n ≤ 9223372036854775807 := by
  have h := int_wf h
  have e1 : IntKind.i64.min = -9223372036854775808 := by decide
  have e2 : IntKind.i64.max = 9223372036854775807 := by decide
  omega
/-- a slice of Lays, as the print's words read it -/
theorem read_lays {H : Type} {enc : TypeId × Value → H} {W : World} {a : Option Addr} {len cap : Nat} {d : DataW H} {ps : List MemPlace} (h : DataW.Trod enc Try.prog W 0 (fun _ => true) true 42 (.slice a len cap) d ps) :
    ∃ l : List Ref.S152, l.length = len ∧ Kd.C Ref.k152 W a len l ∧ len ≤ cap ∧ cap ≤ maxLen ∧ ∀ y ∈ l, 0 ≤ y.f2 ∧ y.f2 < 18446744073709551616 := by
  obtain ⟨fuel, hf⟩ := h
  rcases open_slice Try.underlying42 hf with ⟨hcs, _⟩ | ⟨ad, len', cap', m, n, D, Pl, hcs, _, hl, hm, hmm, _, hx⟩
  · simp [Value.cells] at hcs
    obtain ⟨rfl, rfl, rfl⟩ := hcs
    exact ⟨[], rfl, ⟨rfl, by omega, fun h => by omega⟩, Nat.le_refl _, Nat.zero_le _, fun y hy => by cases hy⟩
  · simp [Value.cells] at hcs
    obtain ⟨rfl, rfl, rfl⟩ := hcs
    simp only [if_true] at hmm
    subst hmm
    have ce : Try.prog.cellsOf 152 = 3 := by kernel_rfl
    rw [ce] at hx
    have each : ∀ i, i < m → ∃ q : Ref.S152, W.cell? (ad.add (i * 3)) = some (.int .i64 q.f0) ∧ W.cell? (ad.add (i * 3 + 1)) = some (.int .i64 q.f1) ∧ W.cell? (ad.add (i * 3 + 2)) = some (.int .u64 q.f2) ∧ 0 ≤ q.f2 ∧ q.f2 < 18446744073709551616 := by
      intro i hi
      obtain ⟨cs', h1, h2⟩ := hx i hi
      obtain ⟨_, hlen, hcell⟩ := World.cells?_some h1
      obtain ⟨y0, y1, y2, n', _, _, g0, g1, g2⟩ := trod_struct3 Try.underlying152 h2
      match cs', hlen with
      | [v0, v1, v2], _ =>
        have c3 : Try.prog.cellsOf 3 = 1 := by kernel_rfl
        have c49 : Try.prog.cellsOf 49 = 1 := by kernel_rfl
        obtain ⟨x0, e0, _, _⟩ := DataW.trod_int Try.underlying3 g0
        obtain ⟨x1, e1, _, _⟩ := DataW.trod_int Try.underlying3 g1
        obtain ⟨x2, e2, _, w2⟩ := DataW.trod_int Try.underlying49 g2
        simp [c3, c49] at e0 e1 e2
        subst e0; subst e1; subst e2
        have k0 := hcell 0 (by omega)
        have k1 := hcell 1 (by omega)
        have k2 := hcell 2 (by omega)
        rw [add_add] at k0 k1 k2
        exact ⟨⟨x0, x1, x2⟩, by simpa using k0, by simpa using k1, by simpa using k2, u64_wf w2⟩
    haveI : Inhabited Ref.S152 := ⟨⟨0, 0, 0⟩⟩
    obtain ⟨q, hq⟩ := choose_lt each
    refine ⟨(List.range len).map q, by simp, ⟨by simp, ?_, fun _ => ⟨ad, rfl, fun j p hj => ?_⟩⟩, hl, hm, fun y hy => ?_⟩
    · unfold maxLen at hm; omega
    · have hjl : j < len := by have := (List.getElem?_eq_some_iff.1 hj).1; simpa using this
      obtain ⟨a1, a2, a3, _⟩ := hq j (by omega)
      have hp : q j = p := by
        rw [List.getElem?_map, List.getElem?_range hjl] at hj
        exact Option.some.inj hj
      subst hp
      refine ⟨_, rfl, Ref.k152_mk W (q j), fun i u hu => ?_⟩
      have hi : i < 3 := by have := (List.getElem?_eq_some_iff.1 hu).1; simpa using this
      show W.cell? (ad.add (j * 3 + i)) = _
      match i, hi with
      | 0, _ => obtain rfl : Value.int .i64 (q j).f0 = u := by simpa using hu
                exact a1
      | 1, _ => obtain rfl : Value.int .i64 (q j).f1 = u := by simpa using hu
                exact a2
      | 2, _ => obtain rfl : Value.int .u64 (q j).f2 = u := by simpa using hu
                exact a3
    · obtain ⟨i, hi, rfl⟩ := List.mem_map.1 hy
      have hil := List.mem_range.1 hi
      exact (hq i (by omega)).2.2.2
end Go.Proofs.Ytnldmhljggcnpaa
