import Derived.Test.YtnldmhljggcnpaaPart2
import Derived.Test.YtnldmhljggcnpaaRef1
import Derived.Test.YtnldmhljggcnpaaRef2
import Derived.Test.YtnldmhljggcnpaaRef3
import Derived.Test.YtnldmhljggcnpaaRef4
import Derived.Test.YtnldmhljggcnpaaRef5
import Derived.Test.YtnldmhljggcnpaaRef7
import Derived.Test.YtnldmhljggcnpaaRef8
import Derived.Test.YtnldmhljggcnpaaRef6
import Derived.Deep.DeepCutAuto
import Derived.ProofKit
import Derived.OpenShut
import Derived.Deep.Slices
import Derived.Deep.Strs
import Derived.Deep.Grids
import Derived.Deep.Matrix
/- Contracts and plain laws, joined out of this seat's own texts: RefA, RefB, RefC, RefD, RefK, LawF0, RefE, LawH, RowK. -/
namespace Go.Proofs.Ytnldmhljggcnpaa
set_option linter.unusedSimpArgs false
set_option linter.unusedVariables false
open Go.RowKit Cantle Ref
open Go.Proofs.YtnldmhljggcnpaaW.PrintWords (rd)
def nums (b : List UInt8) : List Int := b.map fun x => (x.toNat : Int)
theorem nums_length (b : List UInt8) : (nums b).length = b.length := by simp [nums]
theorem nums_append (a b : List UInt8) : nums (a ++ b) = nums a ++ nums b := by simp [nums]
theorem nums_get? (b : List UInt8) (i : Nat) : (nums b)[i]? = (b[i]?).map fun x => (x.toNat : Int) := by simp [nums]
theorem rd_nums {b : List UInt8} {i : Nat} (h : i < b.length) : rd (nums b) (i : Int) = ((b[i]).toNat : Int) := by
  unfold rd
  rw [Int.toNat_natCast, List.getD_eq_getElem?_getD, nums_get?, List.getElem?_eq_getElem h]; rfl
theorem nums_drop_take (b : List UInt8) (i n : Nat) : ((nums b).take (i + n)).drop i = nums ((b.drop i).take n) := by
  unfold nums
  rw [List.map_take, List.map_drop, List.drop_take, Nat.add_sub_cancel_left]
theorem w64 {x : Int} (h1 : -9223372036854775808 ≤ x) (h2 : x ≤ 9223372036854775807) : wrap64 x = x := by unfold wrap64; omega
theorem wu64 {x : Int} (h1 : 0 ≤ x) (h2 : x < 18446744073709551616) : IntKind.u64.wrap x = x := by rw [IntKind.wrap_u64]; omega
theorem tmod_nat (a n : Nat) : Int.tmod (a : Int) (n : Int) = ((a % n : Nat) : Int) := rfl
theorem tdiv_nat (a n : Nat) : Int.tdiv (a : Int) (n : Int) = ((a / n : Nat) : Int) := rfl
theorem low_l0 (k : Nat) : ∀ (d i v : Nat) (acc : List Int), i + d = 8 → d < k → v < 18446744073709551616 → acc.length ≤ i → cantleref01_Low.l0 k (v : Int) 8 acc (i : Int) = some (acc ++ nums (low d v)) := by
  induction k with
  | zero => intro d i v acc _ h; omega
  | succ k ih =>
    intro d i v acc hi hd hv ha
    simp only [cantleref01_Low.l0]
    cases d with
    | zero => rw [if_neg (by omega)]; simp [low, nums]
    | succ d =>
      rw [if_pos (by omega), if_pos (by omega), show (256 : Int) = ((256 : Nat) : Int) from rfl, tmod_nat, tdiv_nat, show IntKind.u64.wrap ((v / 256 : Nat) : Int) = ((v / 256 : Nat) : Int) from wu64 (by omega) (by omega), show wrap64 ((i : Int) + 1) = ((i + 1 : Nat) : Int) from w64 (by omega) (by omega),
        ih d (i + 1) (v / 256) _ (by omega) (by omega) (by omega) (by simp; omega)]
      · simp only [low, nums, List.map_cons, List.append_assoc, List.cons_append, List.nil_append, ofNat_mod_toNat]
        congr 3
        omega
theorem low_f {k v : Nat} (hk : 9 ≤ k) (hv : v < 18446744073709551616) : cantleref01_Low.f k (v : Int) 8 = some (nums (low 8 v)) := by
  unfold cantleref01_Low.f
  rw [show (0 : Int) = ((0 : Nat) : Int) from rfl, low_l0 k 8 0 v [] rfl (by omega) hv (by simp)]
  simp
theorem num_l0 {l : List UInt8} (hl : l.length ≤ 8) (k : Nat) : ∀ (i : Nat), i ≤ l.length → i < k → cantleref01_Num.l0 k (nums l) (le (l.drop i) : Nat) ((i : Int) - 1) = some ((le l : Nat) : Int) := by
  induction k with
  | zero => intro i _ h; omega
  | succ k ih =>
    intro i hi hk
    simp only [cantleref01_Num.l0]
    cases i with
    | zero => rw [if_neg (by omega)]; simp
    | succ i =>
      have hn : (l.drop i) = l[i] :: l.drop (i + 1) := List.drop_eq_getElem_cons (by omega)
      have hle : le (l.drop i) = (l[i]).toNat + 256 * le (l.drop (i + 1)) := by rw [hn]; rfl
      have hlt : le (l.drop i) < 18446744073709551616 := Nat.lt_of_lt_of_le (le_lt _) (Nat.le_trans (Nat.pow_le_pow_right (by decide) (show (l.drop i).length ≤ 8 by rw [List.length_drop]; omega)) (by decide))
      have hb := (l[i]).toNat_lt
      have e : ((i + 1 : Nat) : Int) - 1 = (i : Int) := by omega
      rw [e, if_pos (by omega), if_pos (by omega), if_pos (by rw [nums_length]; omega), rd_nums (by omega)]
      simp (disch := omega) only [w64, wu64]
      rw [show 256 * ((le (l.drop (i + 1)) : Nat) : Int) + ((l[i]).toNat : Int) = ((le (l.drop i) : Nat) : Int) from by omega]
      exact ih i (by omega) (by omega)
theorem num01_f {l : List UInt8} {k : Nat} (hl : l.length ≤ 8) (hk : 9 ≤ k) : cantleref01_Num.f k (nums l) = some ((le l : Nat) : Int) := by
  unfold cantleref01_Num.f
  rw [nums_length]
  simp (disch := omega) only [w64, wu64]
  have := num_l0 hl k l.length (Nat.le_refl _) (by omega)
  rwa [List.drop_length] at this
theorem get01_f {b : List UInt8} {k : Nat} (hb : b.length ≤ 1000000) (hk : 9 ≤ k) (o : Nat) (ho : o ≤ 1000000) : cantleref01_Get.f k (nums b) (o : Int) 8 = some (((num b o : Nat) : Int), decide (o + 8 ≤ b.length)) := by
  unfold cantleref01_Get.f
  simp (disch := omega) only [w64, wu64, nums_length]
  by_cases h1 : b.length < o
  · rw [if_pos (by omega), num_none (by omega), decide_eq_false (by omega)]; rfl
  rw [if_neg (by omega)]
  by_cases h2 : o + 8 ≤ b.length
  · rw [if_neg (by omega), if_pos (by omega), if_pos (by omega), if_pos (by omega), show ((o : Int) + 8).toNat = o + 8 from by omega, Int.toNat_natCast, nums_drop_take,
      num01_f (by rw [List.length_take]; omega) hk, num_some h2, decide_eq_true h2]
    rfl
  · rw [if_pos (by omega), num_none (by omega), decide_eq_false h2]; rfl
theorem word_f {b : List UInt8} {k : Nat} (hb : b.length ≤ 1000000) (hk : 9 ≤ k) (o : Nat) : cantleref07_Word.f k (nums b) (o : Int) = some (((num b o : Nat) : Int), decide (o + 8 ≤ b.length)) := by
  unfold cantleref07_Word.f
  rw [nums_length, if_neg (by omega)]
  by_cases h1 : b.length < o
  · rw [if_pos (by omega), num_none (by omega), decide_eq_false (by omega)]; rfl
  · rw [if_neg (by omega)]
    simp (disch := omega) only [w64, wu64]
    rw [get01_f hb hk o (by omega)]; rfl
theorem num_f {b : List UInt8} {k : Nat} (hb : b.length ≤ 1000000) (hk : 9 ≤ k) (o : Nat) : cantleref07_num.f k (nums b) (o : Int) = some ((num b o : Nat) : Int) := by
  unfold cantleref07_num.f
  rw [word_f hb hk]; rfl
theorem isSize_f (z : Int) : cantleref01_IsSize.f z = some (isSize z) := by
  unfold cantleref01_IsSize.f isSize
  by_cases h1 : z ≥ 32
  · rw [if_pos h1, decide_eq_true h1]
    by_cases h2 : z ≤ 16384
    · rw [if_pos h2, decide_eq_true h2, Int.tmod_eq_emod_of_nonneg (by omega)]; simp
    · rw [if_neg h2, decide_eq_false h2]; simp
  · rw [if_neg h1, decide_eq_false h1]; simp
theorem could_f {b : List UInt8} (hb : b.length ≤ 1000000) (o z : Int) : cantleref07_Could.f (nums b) o z = some (could b.length o z) := by
  unfold cantleref07_Could.f could
  rw [nums_length]
  by_cases h1 : o ≥ 184
  · rw [if_pos h1, decide_eq_true (show 184 ≤ o from h1), Int.tmod_eq_emod_of_nonneg (by omega)]
    by_cases h2 : o % 16 = 8
    · rw [if_pos h2]
      by_cases h3 : o ≤ b.length
      · rw [if_pos h3, decide_eq_true h3]
        simp (disch := omega) only [w64, wu64]
        simp [h2]
      · rw [if_neg h3, decide_eq_false h3]; simp
    · rw [if_neg h2]; simp [h2]
  · rw [if_neg h1, decide_eq_false (show ¬ 184 ≤ o from h1)]; simp
theorem pack_f (z : Int) (u : Bool) : cantleref01_Pack.f z u = some ((pack z u : Nat) : Int) := by
  unfold cantleref01_Pack.f pack
  rw [isSize_f, Option.bind_some]
  cases h : isSize z with
  | false => rfl
  | true =>
    have h1 := (isSize_iff _).1 h
    rw [if_pos rfl, if_pos rfl]
    simp (disch := omega) only [w64, wu64]
    cases u with
    | true => rw [if_pos rfl]; simp [b2n]; omega
    | false => rw [if_neg (by simp)]; simp [b2n]; omega
def unp (w : Nat) : Int × Bool × Bool := match unpack w with
  | none => (0, false, false)
  | some (s, u) => ((s : Int), u, true)
theorem unpack_f (w : Nat) (hw : w < 18446744073709551616) : cantleref01_Unpack.f (w : Int) = some (unp w) := by
  unfold cantleref01_Unpack.f unp unpack
  by_cases h : 20000 < w
  · rw [if_pos (by omega)]
    have : isSize ((w / 2 * 2 : Nat) : Int) = false := by rw [← Bool.not_eq_true, isSize_iff]; omega
    rw [this]; rfl
  · rw [if_neg (by omega), show (2 : Int) = ((2 : Nat) : Int) from rfl, tmod_nat]
    simp (disch := omega) only [w64, wu64]
    rw [isSize_f, Option.bind_some, show (w : Int) - ((w % 2 : Nat) : Int) = ((w / 2 * 2 : Nat) : Int) from by omega]
    cases h2 : isSize ((w / 2 * 2 : Nat) : Int) with
    | false => rfl
    | true =>
      simp only [if_true]
      congr 3
      rw [Bool.eq_iff_iff]; simp; omega
def gt (b : List UInt8) (o : Int) : Int × Int × Bool × Bool := match bget b o with
  | none => (0, 0, false, false)
  | some x => (x.off, x.size, x.used, true)
theorem get_f {b : List UInt8} {k : Nat} (hb : b.length ≤ 1000000) (hk : 9 ≤ k) (o : Int) : cantleref07_Get.f k (nums b) o = some (gt b o) := by
  unfold cantleref07_Get.f gt bget
  rw [could_f hb, Option.bind_some]
  cases h8 : could b.length o 8 with
  | false =>
    have : could b.length o 32 = false := by
      rw [← Bool.not_eq_true, could_iff] at h8 ⊢; omega
    rw [this]; rfl
  | true =>
    have c8 := could_iff.1 h8
    obtain ⟨n, rfl⟩ := Int.eq_ofNat_of_zero_le (show 0 ≤ o by omega)
    rw [if_pos rfl, word_f hb hk, Option.bind_some]
    simp only
    rw [unpack_f _ (num_lt b n), Option.bind_some, Int.toNat_natCast]
    unfold unp
    cases hu : unpack (num b n) with
    | none => simp only [Bool.false_eq_true, if_false, ite_self]
    | some r =>
      obtain ⟨s, u⟩ := r
      have hs := (isSize_iff _).1 (unpack_some hu).1
      simp only [if_true]
      rw [could_f hb, Option.bind_some]
      cases hc : could b.length (n : Int) s with
      | false => simp only [Bool.false_eq_true, false_and, if_false, ite_self]
      | true =>
        have c2 := could_iff.1 hc
        have h32 : could b.length (n : Int) 32 = true := could_iff.2 ⟨c2.1, c2.2.1, c2.2.2.1, by omega⟩
        rw [h32, if_pos rfl, if_pos rfl]
        simp (disch := omega) only [w64, wu64]
        rw [show (n : Int) + (s : Int) - 8 = ((n + s - 8 : Nat) : Int) from by omega, word_f hb hk, Option.bind_some]
        simp only [true_and]
        by_cases he : num b (n + s - 8) = num b n
        · rw [if_pos (by rw [he]), if_pos he]
        · rw [if_neg (fun e => he (by omega)), if_neg he]
theorem class_step (k : Nat) (z c t : Int) : cantleref01_Class.l0 (k + 1) z c t = if z ≥ t then cantleref01_Class.l0 k z (wrap64 (c + 1)) (wrap64 (2 * t)) else some c := rfl
theorem class_f {k : Nat} (hk : 10 ≤ k) (z : Int) : cantleref01_Class.f k z = some (cls z) := by
  unfold cantleref01_Class.f cls
  rw [isSize_f, Option.bind_some]
  cases h : isSize z with
  | false => rfl
  | true =>
    have hz := (isSize_iff _).1 h
    rw [if_pos rfl, if_pos rfl]
    by_cases h0 : z ≤ 256
    · rw [if_pos h0, if_pos h0, Int.tdiv_eq_ediv_of_nonneg (by omega)]
      simp (disch := omega) only [w64]
    · rw [if_neg h0, if_neg h0]
      obtain ⟨m, rfl⟩ : ∃ m, k = m + 1 + 1 + 1 + 1 + 1 + 1 + 1 := ⟨k - 7, by omega⟩
      rw [class_step]
      by_cases h1 : z < 512
      · rw [if_neg (by omega), if_pos h1]
      rw [if_pos (by omega), if_neg h1, show wrap64 (15 + 1) = 16 from w64 (by omega) (by omega), show wrap64 (2 * 512) = 1024 from w64 (by omega) (by omega)]
      rw [class_step]
      by_cases h2 : z < 1024
      · rw [if_neg (by omega), if_pos h2]
      rw [if_pos (by omega), if_neg h2, show wrap64 (16 + 1) = 17 from w64 (by omega) (by omega), show wrap64 (2 * 1024) = 2048 from w64 (by omega) (by omega)]
      rw [class_step]
      by_cases h3 : z < 2048
      · rw [if_neg (by omega), if_pos h3]
      rw [if_pos (by omega), if_neg h3, show wrap64 (17 + 1) = 18 from w64 (by omega) (by omega), show wrap64 (2 * 2048) = 4096 from w64 (by omega) (by omega)]
      rw [class_step]
      by_cases h4 : z < 4096
      · rw [if_neg (by omega), if_pos h4]
      rw [if_pos (by omega), if_neg h4, show wrap64 (18 + 1) = 19 from w64 (by omega) (by omega), show wrap64 (2 * 4096) = 8192 from w64 (by omega) (by omega)]
      rw [class_step]
      by_cases h5 : z < 8192
      · rw [if_neg (by omega), if_pos h5]
      rw [if_pos (by omega), if_neg h5, show wrap64 (19 + 1) = 20 from w64 (by omega) (by omega), show wrap64 (2 * 8192) = 16384 from w64 (by omega) (by omega)]
      rw [class_step]
      by_cases h6 : z < 16384
      · rw [if_neg (by omega), if_pos h6]
      rw [if_pos (by omega), if_neg h6, show wrap64 (20 + 1) = 21 from w64 (by omega) (by omega), show wrap64 (2 * 16384) = 32768 from w64 (by omega) (by omega)]
      rw [class_step]
      rw [if_neg (by omega)]
theorem free_f {b : List UInt8} {k : Nat} (hb : b.length ≤ 1000000) (hk : 10 ≤ k) (o : Int) : cantleref07_Free.f k (nums b) o = some (match freeC b o with | none => -1 | some c => (c : Int)) := by
  unfold cantleref07_Free.f freeC
  rw [get_f hb (by omega), Option.bind_some]
  unfold gt
  cases hg : bget b o with
  | none => rfl
  | some x =>
    simp only [if_true]
    cases hu : x.used with
    | true => rfl
    | false =>
      have := cls_range (bget_some hg).2.2.2.2.1
      rw [class_f hk]
      simp only [Bool.false_eq_true, if_false, Option.bind_some]
      rw [Int.toNat_of_nonneg this.1]
theorem member_f {b : List UInt8} {k : Nat} (hb : b.length ≤ 16384) (hk : 10 ≤ k) (a : Nat) (c : Int) : cantleref07_Member.f k (nums b) (a : Int) c = some (member b a c) := by
  unfold cantleref07_Member.f member
  by_cases h : 20000 < a
  · rw [if_pos (by omega), decide_eq_false (by omega)]; rfl
  · rw [if_neg (by omega)]
    simp (disch := omega) only [w64]
    rw [get_f (by omega) (by omega), Option.bind_some]
    unfold gt
    cases hg : bget b (a : Int) with
    | none => simp
    | some x =>
      have hx := bget_some hg
      have hs := (isSize_iff _).1 hx.2.2.2.2.1
      rw [decide_eq_true (by omega)]
      simp only [if_true]
      cases hu : x.used with
      | true => rfl
      | false => rw [class_f hk]; simp
theorem bit_l0 (k : Nat) : ∀ (d i c w : Nat), i + d = c → d < k → w < 18446744073709551616 → c ≤ 64 → cantleref07_bit.l0 k (w : Int) (c : Int) (i : Int) = some (w.testBit d) := by
  induction k with
  | zero => intro d i c w _ h; omega
  | succ k ih =>
    intro d i c w hi hd hw hc
    simp only [cantleref07_bit.l0]
    rw [show (2 : Int) = ((2 : Nat) : Int) from rfl, tmod_nat, tdiv_nat]
    simp (disch := omega) only [w64, wu64]
    cases d with
    | zero =>
      rw [if_neg (by omega)]
      congr 1
      rw [Nat.testBit_zero, Bool.eq_iff_iff]; simp; omega
    | succ d =>
      rw [if_pos (by omega), show (i : Int) + 1 = ((i + 1 : Nat) : Int) from rfl, ih d (i + 1) c (w / 2) (by omega) (by omega) (by omega) hc, Nat.testBit_succ]
theorem bit_f {k c w : Nat} (hk : 70 ≤ k) (hw : w < 18446744073709551616) (hc : c ≤ 64) : cantleref07_bit.f k (w : Int) (c : Int) = some (w.testBit c) :=
  bit_l0 k c 0 c w (by omega) (by omega) hw hc
theorem one_l0 (k : Nat) : ∀ (d i c : Nat), i + d = c → d < k → c < 64 → cantleref07_one.l0 k (c : Int) ((2 ^ i : Nat) : Int) (i : Int) = some ((2 ^ c : Nat) : Int) := by
  induction k with
  | zero => intro d i c _ h; omega
  | succ k ih =>
    intro d i c hi hd hc
    simp only [cantleref07_one.l0]
    cases d with
    | zero =>
      obtain rfl : i = c := by omega
      rw [if_neg (by omega)]
    | succ d =>
      have h2 : 2 ^ (i + 1) < 18446744073709551616 := Nat.lt_of_le_of_lt (Nat.pow_le_pow_right (by decide) (show i + 1 ≤ 63 by omega)) (by decide)
      have e : 2 * ((2 ^ i : Nat) : Int) = ((2 ^ (i + 1) : Nat) : Int) := by rw [Nat.pow_succ]; omega
      rw [if_pos (by omega), e]
      have := ih d (i + 1) c (by omega) (by omega) hc
      generalize 2 ^ (i + 1) = P at *
      simp (disch := omega) only [w64, wu64]
      exact this
theorem one_f {k c : Nat} (hk : 70 ≤ k) (hc : c < 64) : cantleref07_one.f k (c : Int) = some ((2 ^ c : Nat) : Int) := one_l0 k c 0 c (by omega) (by omega) hc
theorem setAll_lay (k : Nat) : ∀ (d i o : Nat) (l r : List UInt8), i + d = 8 → d < k → r.length = 8 → o + 8 ≤ l.length → l.length ≤ 1000000 →
    cantleref07_Lay.l0 k (o : Int) (nums l) (nums r) (i : Int) = some (nums (l.take (o + i) ++ r.drop i ++ l.drop (o + 8))) := by
  induction k with
  | zero => intro d i o l r _ h; omega
  | succ k ih =>
    intro d i o l r hi hd hr ho hl
    simp only [cantleref07_Lay.l0, nums_length]
    cases d with
    | zero =>
      obtain rfl : i = 8 := by omega
      rw [if_neg (by omega), List.drop_of_length_le (by omega), List.append_nil, List.take_append_drop]
    | succ d =>
      simp (disch := omega) only [w64, wu64]
      rw [if_pos (by omega), if_pos (by omega), if_pos (by omega), if_pos (by omega), if_pos (by omega), rd_nums (by omega), show ((o : Int) + (i : Int)).toNat = o + i from by omega,
        show (nums l).set (o + i) ((r[i]).toNat : Int) = nums (l.set (o + i) r[i]) from by unfold nums; rw [List.map_set], show (i : Int) + 1 = ((i + 1 : Nat) : Int) from rfl,
        ih d (i + 1) o _ r (by omega) (by omega) hr (by rw [List.length_set]; exact ho) (by rw [List.length_set]; exact hl)]
      congr 2
      have e1 : (l.set (o + i) r[i]).drop (o + 8) = l.drop (o + 8) := by rw [List.drop_set_of_lt (by omega)]
      have e2 : (l.set (o + i) r[i]).take (o + (i + 1)) = l.take (o + i) ++ [r[i]] := by
        rw [← Nat.add_assoc, List.take_succ_eq_append_getElem (by rw [List.length_set]; omega), List.take_set_of_le (Nat.le_refl _), List.getElem_set_self]
      rw [e1, e2, List.append_assoc, List.append_assoc, List.append_assoc, List.drop_eq_getElem_cons (show i < r.length by omega)]
      rfl
theorem lay_f {b : List UInt8} {k : Nat} (hb : b.length ≤ 1000000) (hk : 10 ≤ k) (o v : Nat) (hv : v < 18446744073709551616) (ho : o + 8 ≤ b.length) : cantleref07_Lay.f k (nums b) (o : Int) (v : Int) = some (nums (lay b o v)) := by
  unfold cantleref07_Lay.f
  rw [Option.bind_some, if_pos (by rw [nums_length]; simp; omega), low_f (by omega) hv, Option.bind_some, List.nil_append, show (0 : Int) = ((0 : Nat) : Int) from rfl,
    setAll_lay k 8 0 o b (low 8 v) rfl (by omega) (low_length _ _) ho hb, lay_some ho]
  simp
end Go.Proofs.Ytnldmhljggcnpaa
namespace Go.Proofs.Ytnldmhljggcnpaa
set_option linter.unusedSimpArgs false
set_option linter.unusedVariables false
open Go.RowKit Cantle Ref
open Go.Proofs.YtnldmhljggcnpaaW.PrintWords (rd)
theorem or_add {w c : Nat} (h : w.testBit c = false) : w ||| 2 ^ c = w + 2 ^ c := by
  have e : w = 2 ^ (c + 1) * (w / 2 ^ (c + 1)) + w % 2 ^ c := by
    have h1 := Nat.div_add_mod w (2 ^ (c + 1))
    have h2 : w % 2 ^ (c + 1) = w % 2 ^ c + 2 ^ c * (w / 2 ^ c % 2) := Nat.mod_pow_succ
    have h3 : w / 2 ^ c % 2 = 0 := by
      rw [Nat.testBit_eq_decide_div_mod_eq] at h
      have := of_decide_eq_false h
      omega
    rw [h3] at h2
    omega
  have hm : w % 2 ^ c < 2 ^ c := Nat.mod_lt _ (Nat.two_pow_pos _)
  have hm2 : w % 2 ^ c < 2 ^ (c + 1) := Nat.lt_trans hm (Nat.pow_lt_pow_right (by decide) (by omega))
  have hs : 2 ^ c + w % 2 ^ c < 2 ^ (c + 1) := by rw [Nat.pow_succ]; omega
  have e2 : 2 ^ c ||| w % 2 ^ c = 2 ^ c + w % 2 ^ c := by
    have := Nat.two_pow_add_eq_or_of_lt hm 1
    rw [Nat.mul_one] at this
    exact this.symm
  generalize w / 2 ^ (c + 1) = q at *
  generalize w % 2 ^ c = r at *
  have hw : w = 2 ^ (c + 1) * q ||| r := by rw [← Nat.two_pow_add_eq_or_of_lt hm2]; exact e
  calc w ||| 2 ^ c = (2 ^ (c + 1) * q ||| r) ||| 2 ^ c := congrArg (· ||| 2 ^ c) hw
    _ = 2 ^ (c + 1) * q ||| (2 ^ c ||| r) := by rw [Nat.or_assoc, Nat.or_comm r]
    _ = 2 ^ (c + 1) * q + (2 ^ c + r) := by rw [e2, Nat.two_pow_add_eq_or_of_lt hs]
    _ = w + 2 ^ c := by omega
theorem xor_sub {w c : Nat} (h : w.testBit c = true) : w ^^^ 2 ^ c = w - 2 ^ c := by
  have hz : (w ^^^ 2 ^ c).testBit c = false := by rw [Nat.testBit_xor, h, Nat.testBit_two_pow_self]; rfl
  have h1 := or_add hz
  have h2 : (w ^^^ 2 ^ c) ||| 2 ^ c = w := by
    apply Nat.eq_of_testBit_eq
    intro i
    rw [Nat.testBit_or, Nat.testBit_xor, Nat.testBit_two_pow]
    by_cases e : c = i
    · subst e; simp [h]
    · simp [e]
  omega
theorem setBit_add {w c : Nat} (h : w.testBit c = false) : setBit w c = w + 2 ^ c := or_add h
theorem setBit_self {w c : Nat} (h : w.testBit c = true) : setBit w c = w := by
  apply Nat.eq_of_testBit_eq
  intro i
  rw [setBit_test]
  by_cases e : c = i
  · subst e; simp [h]
  · simp [e]
theorem clearBit_sub {w c : Nat} (h : w.testBit c = true) : clearBit w c = w - 2 ^ c := by unfold clearBit; rw [if_pos h, xor_sub h]
theorem clearBit_self {w c : Nat} (h : w.testBit c = false) : clearBit w c = w := by unfold clearBit; rw [h]; rfl
theorem lay_f0 {b : List UInt8} {k : Nat} (hb : b.length ≤ 1000000) (hk : 10 ≤ k) (v : Nat) (hv : v < 18446744073709551616) (ho : 8 ≤ b.length) : cantleref07_Lay.f k (nums b) 0 (v : Int) = some (nums (lay b 0 v)) := lay_f hb hk 0 v hv (by omega)
theorem mark_f {b : List UInt8} {k : Nat} (hb : b.length ≤ 16384) (hk : 100 ≤ k) (c : Nat) (hc : c < 22) (h184 : 8 ≤ b.length) : cantleref07_mark.f k (nums b) (c : Int) = some (nums (Cantle.mark b c)) := by
  unfold cantleref07_mark.f
  have hl := num_lt b 0
  have hh : wrap64 (8 + wrap64 (8 * (c : Int))) = ((hd c : Nat) : Int) := by unfold hd; simp (disch := omega) only [w64]; omega
  rw [show (0 : Int) = ((0 : Nat) : Int) from rfl, num_f (by omega) (by omega), Option.bind_some, bit_f (by omega) hl (by omega), Option.bind_some, hh, num_f (by omega) (by omega), Option.bind_some]
  unfold Cantle.mark
  obtain ⟨k, rfl⟩ : ∃ m, k = m + 1 + 1 := ⟨k - 2, by omega⟩
  generalize num b (hd c) = H
  cases ht : (num b 0).testBit c with
  | true =>
    rw [if_pos rfl]
    simp only [cantleref07_mark.j0]
    by_cases h0 : H = 0
    · subst h0
      have hp : 2 ^ c ≤ num b 0 := Nat.ge_two_pow_of_testBit ht
      rw [if_pos (by simp), one_f (by omega) (by omega), Option.bind_some, if_pos rfl, clearBit_sub ht]
      have : IntKind.u64.wrap (((num b 0 : Nat) : Int) - ((2 ^ c : Nat) : Int)) = ((num b 0 - 2 ^ c : Nat) : Int) := by
        generalize 2 ^ c = P at *
        rw [IntKind.wrap_u64]; omega
      rw [this, lay_f0 (by omega) (by omega) _ (by generalize 2 ^ c = P at *; omega) (by omega)]; rfl
    · rw [if_neg (by simp; omega), if_pos trivial]
      simp only [cantleref07_mark.j1]
      rw [if_neg (by simp), if_neg h0, setBit_self ht, lay_num]
  | false =>
    rw [if_neg (by simp)]
    simp only [cantleref07_mark.j0]
    rw [if_neg (by simp), if_neg (by simp)]
    simp only [cantleref07_mark.j1]
    by_cases h0 : H = 0
    · subst h0
      rw [if_neg (by simp), if_pos rfl, clearBit_self ht, lay_num]
    · have hs := setBit_lt (n := 64) (c := c) hl (by omega)
      rw [setBit_add ht] at hs
      rw [if_pos (by simp; omega), one_f (by omega) (by omega), Option.bind_some, if_neg h0, setBit_add ht]
      have : IntKind.u64.wrap (((num b 0 : Nat) : Int) + ((2 ^ c : Nat) : Int)) = ((num b 0 + 2 ^ c : Nat) : Int) := by
        generalize 2 ^ c = P at *
        rw [IntKind.wrap_u64]; omega
      rw [this, lay_f0 (by omega) (by omega) _ (by omega) (by omega)]; rfl
theorem freeC_parts {b : List UInt8} {o : Int} {c : Nat} (h : freeC b o = some c) : c < 22 ∧ 184 ≤ o ∧ o + 32 ≤ b.length ∧ o % 16 = 8 := by
  unfold freeC at h
  split at h
  · cases h
  · rename_i x hx
    split at h
    · cases h
    · have := bget_some hx
      have hr := cls_range this.2.2.2.2.1
      have hs := (isSize_iff _).1 this.2.2.2.2.1
      have := Option.some.inj h
      omega
theorem member_parts {b : List UInt8} {a : Nat} {c : Int} (h : member b a c = true) : a ≤ 16384 ∧ 184 ≤ a ∧ a + 32 ≤ b.length := by
  unfold member at h
  rw [Bool.and_eq_true] at h
  obtain ⟨h1, h2⟩ := h
  have h1 := of_decide_eq_true h1
  cases hg : bget b (a : Int) with
  | none => rw [hg] at h2; cases h2
  | some x =>
    have hx := bget_some hg
    have hs := (isSize_iff _).1 hx.2.2.2.2.1
    omega
theorem lput_eq {b : List UInt8} {o : Int} {c : Nat} (h : freeC b o = some c) : lput b o = if (num b (hd c) : Int) = o ∨ (num b (hd c) ≠ 0 ∧ member b (num b (hd c)) c = false) then none else
    some (Cantle.mark (lay (if num b (hd c) = 0 then lay (lay b (o.toNat + 8) (num b (hd c))) (o.toNat + 16) 0 else lay (lay (lay b (o.toNat + 8) (num b (hd c))) (o.toNat + 16) 0) (num b (hd c) + 16) o.toNat) (hd c) o.toNat) c) := by
  unfold lput; rw [h]
theorem lput_no {b : List UInt8} {o : Int} (h : freeC b o = none) : lput b o = none := by unfold lput; rw [h]
theorem put_j0_t (k : Nat) (b : List Int) (o c f : Int) : cantleref07_Put.j0 (k + 1) b o c f true = some (b, false) := rfl
theorem put_j0_f (k : Nat) (b : List Int) (o c f : Int) : cantleref07_Put.j0 (k + 1) b o c f false = ((cantleref07_Lay.f k b (wrap64 (o + 8)) f).bind fun t221 => ((cantleref07_Lay.f k t221 (wrap64 (o + 16)) 0).bind fun t224 => (if f = 0 then ((cantleref07_Lay.f k t224 (wrap64 (8 + (wrap64 (8 * c)))) (IntKind.u64.wrap (o))).bind fun t227 => ((cantleref07_mark.f k t227 c).bind fun t230 => (some (t230, true)))) else ((cantleref07_Lay.f k t224 (wrap64 ((wrap64 (f)) + 16)) (IntKind.u64.wrap (o))).bind fun t233 => ((cantleref07_Lay.f k t233 (wrap64 (8 + (wrap64 (8 * c)))) (IntKind.u64.wrap (o))).bind fun t236 => ((cantleref07_mark.f k t236 c).bind fun t239 => (some (t239, true)))))))) := rfl
theorem put_j0_z {b : List UInt8} {k n c : Nat} (hb : b.length ≤ 16384) (hk : 150 ≤ k) (hn : 184 ≤ n) (hn2 : n + 32 ≤ b.length) (hc : c < 22) :
    cantleref07_Put.j0 (k + 1) (nums b) (n : Int) (c : Int) 0 false = some (nums (Cantle.mark (lay (lay (lay b (n + 8) 0) (n + 16) 0) (hd c) n) c), true) := by
  have hh : wrap64 (8 + wrap64 (8 * (c : Int))) = ((hd c : Nat) : Int) := by unfold hd; simp (disch := omega) only [w64]; omega
  have hdl : hd c + 8 ≤ 184 := by unfold hd; omega
  have w1 : wrap64 ((n : Int) + 8) = ((n + 8 : Nat) : Int) := by rw [w64 (by omega) (by omega)]; rfl
  have w2 : wrap64 ((n : Int) + 16) = ((n + 16 : Nat) : Int) := by rw [w64 (by omega) (by omega)]; rfl
  have w4 : IntKind.u64.wrap (n : Int) = (n : Int) := wu64 (by omega) (by omega)
  have hz : (0 : Int) = ((0 : Nat) : Int) := rfl
  rw [put_j0_f, w1, w2, hh, w4]
  generalize hd c = H at *
  have l1 : (lay b (n + 8) 0).length = b.length := lay_length ..
  have l2 : (lay (lay b (n + 8) 0) (n + 16) 0).length = b.length := by rw [lay_length]; exact l1
  have l3 : (lay (lay (lay b (n + 8) 0) (n + 16) 0) H n).length = b.length := by rw [lay_length]; exact l2
  have f1 : cantleref07_Lay.f k (nums b) ((n + 8 : Nat) : Int) 0 = some (nums (lay b (n + 8) 0)) := lay_f (by omega) (by omega) (n + 8) 0 (by omega) (by omega)
  rw [f1, Option.bind_some]
  clear f1
  generalize lay b (n + 8) 0 = b1 at *
  have f2 : cantleref07_Lay.f k (nums b1) ((n + 16 : Nat) : Int) 0 = some (nums (lay b1 (n + 16) 0)) := lay_f (by omega) (by omega) (n + 16) 0 (by omega) (by omega)
  rw [f2, Option.bind_some, if_pos rfl]
  clear f2
  generalize lay b1 (n + 16) 0 = b2 at *
  rw [lay_f (b := b2) (by omega) (by omega) H n (by omega) (by omega), Option.bind_some]
  generalize lay b2 H n = b3 at *
  rw [mark_f (b := b3) (by omega) (by omega) c hc (by omega), Option.bind_some]
theorem put_j0_p {b : List UInt8} {k n c f : Nat} (hb : b.length ≤ 16384) (hk : 150 ≤ k) (hn : 184 ≤ n) (hn2 : n + 32 ≤ b.length) (hc : c < 22) (hf0 : f ≠ 0) (hf : f + 32 ≤ b.length) :
    cantleref07_Put.j0 (k + 1) (nums b) (n : Int) (c : Int) (f : Int) false = some (nums (Cantle.mark (lay (lay (lay (lay b (n + 8) f) (n + 16) 0) (f + 16) n) (hd c) n) c), true) := by
  have hh : wrap64 (8 + wrap64 (8 * (c : Int))) = ((hd c : Nat) : Int) := by unfold hd; simp (disch := omega) only [w64]; omega
  have hdl : hd c + 8 ≤ 184 := by unfold hd; omega
  have w1 : wrap64 ((n : Int) + 8) = ((n + 8 : Nat) : Int) := by rw [w64 (by omega) (by omega)]; rfl
  have w2 : wrap64 ((n : Int) + 16) = ((n + 16 : Nat) : Int) := by rw [w64 (by omega) (by omega)]; rfl
  have w3 : wrap64 (wrap64 (f : Int) + 16) = ((f + 16 : Nat) : Int) := by simp (disch := omega) only [w64]; omega
  have w4 : IntKind.u64.wrap (n : Int) = (n : Int) := wu64 (by omega) (by omega)
  have hz : (0 : Int) = ((0 : Nat) : Int) := rfl
  rw [put_j0_f, w1, w2, w3, hh, w4]
  generalize hd c = H at *
  have l1 : (lay b (n + 8) f).length = b.length := lay_length ..
  have l2 : (lay (lay b (n + 8) f) (n + 16) 0).length = b.length := by rw [lay_length]; exact l1
  have l3 : (lay (lay (lay b (n + 8) f) (n + 16) 0) (f + 16) n).length = b.length := by rw [lay_length]; exact l2
  have l4 : (lay (lay (lay (lay b (n + 8) f) (n + 16) 0) (f + 16) n) H n).length = b.length := by rw [lay_length]; exact l3
  rw [lay_f (b := b) (by omega) (by omega) (n + 8) f (by omega) (by omega), Option.bind_some]
  generalize lay b (n + 8) f = b1 at *
  have f2 : cantleref07_Lay.f k (nums b1) ((n + 16 : Nat) : Int) 0 = some (nums (lay b1 (n + 16) 0)) := lay_f (by omega) (by omega) (n + 16) 0 (by omega) (by omega)
  rw [f2, Option.bind_some, if_neg (by omega)]
  clear f2
  generalize lay b1 (n + 16) 0 = b2 at *
  rw [lay_f (b := b2) (by omega) (by omega) (f + 16) n (by omega) (by omega), Option.bind_some]
  generalize lay b2 (f + 16) n = b3 at *
  rw [lay_f (b := b3) (by omega) (by omega) H n (by omega) (by omega), Option.bind_some]
  generalize lay b3 H n = b4 at *
  rw [mark_f (b := b4) (by omega) (by omega) c hc (by omega), Option.bind_some]
theorem put_f {b : List UInt8} {k : Nat} (hb : b.length ≤ 16384) (hk : 200 ≤ k) (o : Int) :
    cantleref07_Put.f k (nums b) o = some (nums ((lput b o).getD b), (lput b o).isSome) := by
  unfold cantleref07_Put.f
  rw [free_f (by omega) (by omega), Option.bind_some]
  cases hf : freeC b o with
  | none =>
    rw [lput_no hf]
    simp only
    rw [if_pos (by omega), Option.getD_none, Option.isSome_none]
  | some c =>
    obtain ⟨hc, h1, h2, h3⟩ := freeC_parts hf
    rw [lput_eq hf]
    clear hf
    obtain ⟨n, rfl⟩ := Int.eq_ofNat_of_zero_le (show 0 ≤ o by omega)
    have hh : wrap64 (8 + wrap64 (8 * (c : Int))) = ((hd c : Nat) : Int) := by unfold hd; simp (disch := omega) only [w64]; omega
    have w4 : IntKind.u64.wrap (n : Int) = (n : Int) := wu64 (by omega) (by omega)
    simp only
    rw [if_neg (by omega), hh, num_f (by omega) (by omega), Option.bind_some, member_f hb (by omega), Option.bind_some, w4, Int.toNat_natCast]
    obtain ⟨k, rfl⟩ : ∃ m, k = m + 1 := ⟨k - 1, by omega⟩
    have hmb : member b (num b (hd c)) c = true → num b (hd c) ≤ 16384 ∧ 184 ≤ num b (hd c) ∧ num b (hd c) + 32 ≤ b.length := member_parts
    rw [put_j0_t]
    have hz := put_j0_z (k := k) (n := n) (c := c) hb (by omega) (by omega) (by omega) hc
    have hp := fun h1 h2 => put_j0_p (k := k) (n := n) (c := c) (f := num b (hd c)) hb (by omega) (by omega) (by omega) hc h1 h2
    generalize num b (hd c) = first at *
    by_cases e1 : first = n
    · rw [if_pos (show (first : Int) = (n : Int) by omega), if_pos (.inl (by omega)), Option.getD_none, Option.isSome_none]
    · rw [if_neg (show ¬ (first : Int) = (n : Int) by omega)]
      by_cases e2 : first = 0
      · subst e2
        rw [if_pos (by rfl), show ((0 : Nat) : Int) = 0 from rfl, hz, if_neg (by omega), if_pos rfl, Option.getD_some, Option.isSome_some]
      · rw [if_neg (show ¬ (first : Int) = 0 by omega)]
        cases hm : member b first c with
        | false => rw [Bool.not_false, put_j0_t, if_pos (.inr ⟨e2, rfl⟩), Option.getD_none, Option.isSome_none]
        | true =>
          obtain ⟨m1, m2, m3⟩ := hmb hm
          rw [Bool.not_true, hp e2 m3, if_neg (by simp; omega), if_neg e2, Option.getD_some, Option.isSome_some]
end Go.Proofs.Ytnldmhljggcnpaa
namespace Go.Proofs.Ytnldmhljggcnpaa
set_option linter.unusedSimpArgs false
set_option linter.unusedVariables false
open Go.RowKit Cantle Ref
open Go.Proofs.YtnldmhljggcnpaaW.PrintWords (rd)
def toS (x : Blk) : Ref.S57 := ⟨x.off, x.size, x.used⟩
def walkV : Option (List Blk) → List Ref.S57 × Bool
  | none => ([], false)
  | some l => (l.map toS, true)
theorem walk_l0 {b : List UInt8} (hb : b.length ≤ 16384) : ∀ (k d : Nat) (o : Int) (acc : List Blk), d + 10 ≤ k → (b.length : Int) ≤ o + d → 0 ≤ o → acc.length + d ≤ 1000000 →
    cantleref07_Walk.l0 k (nums b) (acc.map toS) o = some (walkV ((walkGo b d o).map (acc ++ ·))) := by
  intro k
  induction k with
  | zero => intro d o acc h; omega
  | succ k ih =>
    intro d o acc hd ho h0 ha
    simp only [cantleref07_Walk.l0, nums_length]
    by_cases hlt : o < b.length
    · cases d with
      | zero => exfalso; omega
      | succ d =>
        have hwg : walkGo b (d + 1) o = match bget b o with | none => none | some x => (walkGo b d (o + x.size)).map (x :: ·) := by
          conv => lhs; unfold walkGo
          rw [if_pos hlt]; rfl
        rw [if_pos hlt, get_f (by omega) (by omega), Option.bind_some, hwg]
        unfold gt
        cases hg : bget b o with
        | none => rfl
        | some x =>
          have hx := bget_some hg
          have hs := (isSize_iff _).1 hx.2.2.2.2.1
          have hxo := hx.1
          simp only [if_true]
          rw [if_pos (by rw [List.length_map]; omega), show wrap64 (o + x.size) = o + x.size from w64 (by omega) (by omega),
            show acc.map toS ++ [(⟨x.off, x.size, x.used⟩ : Ref.S57)] = (acc ++ [x]).map toS from by simp [toS],
            ih d (o + x.size) (acc ++ [x]) (by omega) (by omega) (by omega) (by simp; omega), Option.map_map]
          congr 2
          congr 1
          funext r
          simp
    · have hw : walkGo b d o = some [] := by
        cases d with
        | zero => rfl
        | succ d => unfold walkGo; rw [if_neg hlt]
      rw [if_neg hlt, hw]
      simp [walkV]
theorem walk_f {b : List UInt8} (hb : b.length ≤ 16384) {k : Nat} (hk : 17000 ≤ k) : cantleref07_Walk.f k (nums b) = some (walkV (walk b)) := by
  unfold cantleref07_Walk.f walk
  rw [nums_length]
  by_cases h : b.length < 184
  · rw [if_pos (by omega), if_pos h]; rfl
  · rw [if_neg (by omega), if_neg h]
    have := walk_l0 hb k b.length 184 [] (by omega) (by omega) (by omega) (by simp; omega)
    simpa using this
def allV : Option (List Int) → List Int × Bool
  | none => ([], false)
  | some l => (l, true)
theorem all_j1_t (k : Nat) (b : List Int) (c a : Int) (acc : List Int) (l : Int) : cantleref07_All.j1 (k + 1) b c a acc l true = some ([], false) := rfl
theorem all_j1_f (k : Nat) (b : List Int) (c a : Int) (acc : List Int) (l : Int) : cantleref07_All.j1 (k + 1) b c a acc l false = ((cantleref07_num.f k b (wrap64 ((wrap64 a) + 16))).bind fun t254 => (if t254 = l then (if acc.length < 17592186044416 then ((cantleref07_num.f k b (wrap64 ((wrap64 a) + 8))).bind fun t258 => (cantleref07_All.l0 k b c t258 (acc ++ [wrap64 a]) a)) else (none)) else (some (([] : List Int), false)))) := rfl
theorem all_l0 {b : List UInt8} (hb : b.length ≤ 16384) (c : Int) : ∀ (f k at_ last : Nat) (acc : List Int), 2 * f + 20 ≤ k → f + acc.length = 1024 →
    cantleref07_All.l0 k (nums b) c (at_ : Int) acc (last : Int) = some (allV ((chain b c f at_ last).map (acc ++ ·))) := by
  intro f
  induction f with
  | zero =>
    intro k at_ last acc hk ha
    obtain ⟨k, rfl⟩ : ∃ m, k = m + 1 + 1 := ⟨k - 2, by omega⟩
    simp only [cantleref07_All.l0, chain]
    by_cases h0 : at_ = 0
    · rw [if_pos (by omega), if_pos h0]; simp [allV]
    · rw [if_neg (by omega), if_neg h0, member_f hb (by omega), Option.bind_some, if_pos (by omega), all_j1_t]; rfl
  | succ f ih =>
    intro k at_ last acc hk ha
    obtain ⟨k, rfl⟩ : ∃ m, k = m + 1 + 1 := ⟨k - 2, by omega⟩
    simp only [cantleref07_All.l0, chain]
    by_cases h0 : at_ = 0
    · rw [if_pos (by omega), if_pos h0]; simp [allV]
    · rw [if_neg (by omega), if_neg h0, member_f hb (by omega), Option.bind_some, if_neg (by omega)]
      cases hm : member b at_ c with
      | false => rw [Bool.not_false, all_j1_t, if_neg (by simp)]; rfl
      | true =>
        obtain ⟨m1, m2, m3⟩ := member_parts hm
        have w0 : wrap64 (at_ : Int) = (at_ : Int) := w64 (by omega) (by omega)
        have w1 : wrap64 ((at_ : Int) + 16) = ((at_ + 16 : Nat) : Int) := by rw [w64 (by omega) (by omega)]; rfl
        have w2 : wrap64 ((at_ : Int) + 8) = ((at_ + 8 : Nat) : Int) := by rw [w64 (by omega) (by omega)]; rfl
        rw [Bool.not_true, all_j1_f, w0, w1, w2, num_f (by omega) (by omega), Option.bind_some]
        by_cases h1 : num b (at_ + 16) = last
        · rw [if_pos (by omega), if_pos (by omega), num_f (by omega) (by omega), Option.bind_some, ih k (num b (at_ + 8)) at_ (acc ++ [(at_ : Int)]) (by omega) (by simp; omega), if_pos ⟨rfl, h1⟩, Option.map_map]
          congr 2
          congr 1
          funext r
          simp
        · rw [if_neg (by omega), if_neg (fun h => h1 h.2)]; rfl
theorem all_f {b : List UInt8} (hb : b.length ≤ 16384) {k : Nat} (hk : 3000 ≤ k) (c : Nat) (hc : c < 22) : cantleref07_All.f k (nums b) (c : Int) = some (allV (lall b c)) := by
  unfold cantleref07_All.f lall
  rw [nums_length]
  by_cases h : b.length < 184
  · rw [if_pos (by omega), if_pos h]; rfl
  · have hh : wrap64 (8 + wrap64 (8 * (c : Int))) = ((hd c : Nat) : Int) := by unfold hd; simp (disch := omega) only [w64]; omega
    have n0 : cantleref07_num.f k (nums b) 0 = some ((num b 0 : Nat) : Int) := num_f (by omega) (by omega) 0
    rw [if_neg (by omega), if_neg h, hh, num_f (by omega) (by omega), Option.bind_some, n0, Option.bind_some, bit_f (by omega) (num_lt _ _) (by omega), Option.bind_some]
    have hl := all_l0 hb c 1024 k (num b (hd c)) 0 [] (by omega) rfl
    by_cases ht : (num b 0).testBit c = decide (num b (hd c) ≠ 0)
    · rw [if_neg, if_neg (by rw [ht]; simp)]
      · have e : cantleref07_All.l0 k (nums b) (c : Int) ((num b (hd c) : Nat) : Int) [] 0 = _ := hl
        rw [e]; simp
      · rw [ht]
        by_cases hz : num b (hd c) = 0
        · simp [hz]
        · have : (((num b (hd c) : Nat) : Int) != 0) = true := by rw [bne_iff_ne]; omega
          rw [this]; simp [hz]
    · rw [if_pos, if_pos ht]
      · rfl
      · rw [bne_iff_ne]
        intro e
        apply ht
        rw [e, Bool.eq_iff_iff]; simp
theorem mark_length (b : List UInt8) (c : Nat) : (Cantle.mark b c).length = b.length := lay_length ..
theorem lput_length {b b' : List UInt8} {o : Int} (h : lput b o = some b') : b'.length = b.length := by
  cases hf : freeC b o with
  | none => rw [lput_no hf] at h; cases h
  | some c =>
    rw [lput_eq hf] at h
    split at h
    · cases h
    · obtain rfl := Option.some.inj h
      rw [mark_length, lay_length]
      split <;> simp only [lay_length]
theorem rd_toS {l : List Blk} {i : Nat} (h : i < l.length) : rd_T57 (l.map toS) (i : Int) = toS l[i] := by
  unfold rd_T57
  rw [Int.toNat_natCast, List.getD_eq_getElem?_getD, List.getElem?_map, List.getElem?_eq_getElem h]; rfl
theorem rebuild_l0 {l : List Blk} (hl : l.length ≤ 1000000) : ∀ (d k i : Nat) (b : List UInt8), i + d = l.length → d + 210 ≤ k → b.length ≤ 16384 →
    cantleref07_Rebuild.l0 k (l.map toS) (nums b) (i : Int) = some (nums (putAll (l.drop i) b), true) := by
  intro d
  induction d with
  | zero =>
    intro k i b hi hk hb
    obtain ⟨k, rfl⟩ : ∃ m, k = m + 1 := ⟨k - 1, by omega⟩
    simp only [cantleref07_Rebuild.l0, List.length_map]
    rw [if_neg (by omega), List.drop_of_length_le (by omega)]; rfl
  | succ d ih =>
    intro k i b hi hk hb
    obtain ⟨k, rfl⟩ : ∃ m, k = m + 1 := ⟨k - 1, by omega⟩
    have hn : l.drop i = l[i] :: l.drop (i + 1) := List.drop_eq_getElem_cons (by omega)
    have w0 : wrap64 ((i : Int) + 1) = ((i + 1 : Nat) : Int) := by rw [w64 (by omega) (by omega)]; rfl
    simp only [cantleref07_Rebuild.l0, List.length_map]
    rw [if_pos (by omega), if_pos (by omega), rd_toS (by omega), w0, hn]
    simp only [putAll]
    by_cases hu : l[i].used = true
    · rw [if_pos (show (toS l[i]).f2 = true from hu), if_pos hu, ih k (i + 1) b (by omega) (by omega) hb]
    · rw [if_neg (show ¬ (toS l[i]).f2 = true from hu), if_neg hu, show (toS l[i]).f0 = l[i].off from rfl, put_f hb (by omega), Option.bind_some]
      have hlen : ((lput b l[i].off).getD b).length ≤ 16384 := by
        cases hp : lput b l[i].off with
        | none => exact hb
        | some b' => rw [Option.getD_some, lput_length hp]; exact hb
      exact ih k (i + 1) _ (by omega) (by omega) hlen
theorem rebuild_f {b : List UInt8} (hb : b.length ≤ 16384) {k : Nat} (hk : 20000 ≤ k) : cantleref07_Rebuild.f k (nums b) = some (nums ((rebuild b).getD b), (rebuild b).isSome) := by
  unfold cantleref07_Rebuild.f rebuild
  rw [walk_f hb (by omega), Option.bind_some]
  cases hw : walk b with
  | none => rfl
  | some l =>
    have h184 := (walk_iff.1 hw).1
    have hll : l.length ≤ 16384 := by
      have hp := tlp_pair (walk_iff.1 hw).2.1
      have := length_le_of_sub (l := l.map (·.off)) (m := (List.range 16384).map fun i : Nat => (i : Int)) (by
        rw [List.Nodup, List.pairwise_map]
        refine hp.imp_of_mem ?_
        intro x y hx _ hxy e
        have := (walk_mem hw hx).2.s1
        omega) (fun o ho => by
        obtain ⟨x, hx, rfl⟩ := List.mem_map.1 ho
        have h1 := (walk_mem hw hx).2.lo
        have h2 := (walk_mem hw hx).2.hi
        have h3 := (walk_mem hw hx).2.s1
        exact List.mem_map.2 ⟨x.off.toNat, List.mem_range.2 (by omega), by omega⟩)
      simpa using this
    have hnw : List.replicate 184 (0 : Int) ++ (nums b).drop 184 = nums (wiped b) := by unfold nums wiped; rw [List.map_append, List.map_replicate, List.map_drop]; rfl
    simp only [walkV, if_true, Option.map_some, Option.getD_some, Option.isSome_some, Option.bind_some]
    rw [if_pos (by decide), if_pos (by rw [nums_length]; omega), if_pos (by rw [List.length_replicate, List.length_drop, nums_length]; omega), hnw]
    have := rebuild_l0 (l := l) (by omega) l.length k 0 (wiped b) (by omega) (by omega) (by rw [wiped_length h184]; exact hb)
    exact this
def findV : Option Int → Int × Bool
  | none => (0, false)
  | some o => (o, true)
theorem find_l1 {b : List UInt8} (hb : b.length ≤ 16384) {z : Int} (hz : 32 ≤ z) {l : List Int} (hl : l.length ≤ 1024) (c : Int) {K : Nat} {R : Int × Bool} (H : ∀ k, K ≤ k → cantleref07_Find.l0 k (nums b) z (wrap64 (c + 1)) = some R) (hK : 100 ≤ K) :
    ∀ (d k j : Nat), j + d = l.length → d + 1 + K ≤ k → cantleref07_Find.l1 k (nums b) z c l (j : Int) = some (match (l.drop j).find? (bigAt b z) with | some o => (o, true) | none => R) := by
  intro d
  induction d with
  | zero =>
    intro k j hj hk
    obtain ⟨k, rfl⟩ : ∃ m, k = m + 1 := ⟨k - 1, by omega⟩
    simp only [cantleref07_Find.l1]
    rw [if_neg (by omega), List.drop_of_length_le (by omega), H k (by omega)]; rfl
  | succ d ih =>
    intro k j hj hk
    obtain ⟨k, rfl⟩ : ∃ m, k = m + 1 := ⟨k - 1, by omega⟩
    have hn : l.drop j = l[j] :: l.drop (j + 1) := List.drop_eq_getElem_cons (by omega)
    have hrd : rd l (j : Int) = l[j] := by unfold rd; rw [Int.toNat_natCast, List.getD_eq_getElem?_getD, List.getElem?_eq_getElem (by omega)]; rfl
    have w0 : wrap64 ((j : Int) + 1) = ((j + 1 : Nat) : Int) := by rw [w64 (by omega) (by omega)]; rfl
    simp only [cantleref07_Find.l1]
    rw [if_pos (by omega), if_pos (by omega), hrd, get_f (by omega) (by omega), Option.bind_some, w0, ih k (j + 1) (by omega) (by omega), hn, List.find?_cons]
    unfold gt bigAt
    cases hg : bget b l[j] with
    | none => simp only; rw [if_neg (by omega)]
    | some x =>
      simp only
      by_cases h : z ≤ x.size
      · rw [if_pos h, decide_eq_true h]
      · rw [if_neg h, decide_eq_false h]
theorem find_l0 {b : List UInt8} (hb : b.length ≤ 16384) {z : Int} (hz : 32 ≤ z) : ∀ (m c k : Nat), m + c = 22 → 1100 * m + 4000 ≤ k → cantleref07_Find.l0 k (nums b) z (c : Int) = some (findV (findGo b z m c)) := by
  intro m
  induction m with
  | zero =>
    intro c k hc hk
    obtain ⟨k, rfl⟩ : ∃ m, k = m + 1 := ⟨k - 1, by omega⟩
    simp only [cantleref07_Find.l0]
    rw [if_neg (by omega)]; rfl
  | succ m ih =>
    intro c k hc hk
    obtain ⟨k, rfl⟩ : ∃ m, k = m + 1 := ⟨k - 1, by omega⟩
    have w0 : wrap64 ((c : Int) + 1) = ((c + 1 : Nat) : Int) := by rw [w64 (by omega) (by omega)]; rfl
    simp only [cantleref07_Find.l0, findGo]
    rw [if_pos (by omega), all_f hb (by omega) c (by omega), Option.bind_some]
    cases hl : lall b c with
    | none => rfl
    | some l =>
      have hll : l.length ≤ 1024 := by
        unfold lall at hl
        split at hl
        · cases hl
        · split at hl
          · cases hl
          · exact (chain_iff.1 hl).2.1
      simp only [allV, if_true]
      obtain ⟨K, hKe⟩ : ∃ K, K = 1100 * m + 4000 := ⟨_, rfl⟩
      have := find_l1 hb hz hll (c : Int) (K := K) (R := findV (findGo b z m (c + 1))) (fun k' hk' => by rw [w0]; exact ih (c + 1) k' (by omega) (by omega)) (by omega) l.length k 0 (by omega) (by omega)
      have e : cantleref07_Find.l1 k (nums b) z (c : Int) l 0 = _ := this
      rw [e, List.drop_zero]
      cases l.find? (bigAt b z) with
      | none => rfl
      | some o => rfl
theorem find_f {b : List UInt8} (hb : b.length ≤ 16384) {k : Nat} (hk : 30000 ≤ k) {z : Int} (hz : isSize z = true) : cantleref07_Find.f k (nums b) z = some (findV (findB b z)) := by
  have hr := cls_range hz
  have hs := (isSize_iff _).1 hz
  unfold cantleref07_Find.f findB
  rw [class_f (by omega), Option.bind_some]
  obtain ⟨c, hc⟩ := Int.eq_ofNat_of_zero_le hr.1
  rw [hc, Int.toNat_natCast]
  exact find_l0 hb (by omega) (22 - c) c k (by omega) (by omega)
end Go.Proofs.Ytnldmhljggcnpaa
namespace Go.Proofs.Ytnldmhljggcnpaa
set_option linter.unusedSimpArgs false
set_option linter.unusedVariables false
open Go.RowKit Cantle Ref
open Go.Proofs.YtnldmhljggcnpaaW.PrintWords (rd mx)
theorem bset_eq {b : List UInt8} {x : Blk} : bset b x = if isSize x.size = true ∧ could b.length x.off x.size = true then some (lay (lay b x.off.toNat (pack x.size x.used)) (x.off + x.size - 8).toNat (pack x.size x.used)) else none := rfl
theorem set_j0_t (k : Nat) (b : List Int) (o z : Int) (u : Bool) : cantleref07_Set.j0 (k + 1) b true o z u = some (b, false) := rfl
theorem set_j0_f (k : Nat) (b : List Int) (o z : Int) (u : Bool) : cantleref07_Set.j0 (k + 1) b false o z u = ((cantleref01_Pack.f z u).bind fun t155 => ((cantleref07_Lay.f k b o t155).bind fun t156 => ((cantleref07_Lay.f k t156 (wrap64 ((wrap64 (o + z)) - 8)) t155).bind fun t159 => (some (t159, true))))) := rfl
theorem set_f {b : List UInt8} (hb : b.length ≤ 1000000) {k : Nat} (hk : 20 ≤ k) (o z : Int) (u : Bool) : cantleref07_Set.f k (nums b) o z u = some (nums ((bset b ⟨o, z, u⟩).getD b), (bset b ⟨o, z, u⟩).isSome) := by
  unfold cantleref07_Set.f
  rw [isSize_f, Option.bind_some, could_f hb, Option.bind_some, bset_eq]
  obtain ⟨k, rfl⟩ : ∃ m, k = m + 1 := ⟨k - 1, by omega⟩
  simp only
  cases h1 : isSize z with
  | false => rw [if_neg (by simp), set_j0_t, if_neg (by simp), Option.getD_none, Option.isSome_none]
  | true =>
    rw [if_pos rfl]
    cases h2 : could b.length o z with
    | false => rw [Bool.not_false, set_j0_t, if_neg (by simp), Option.getD_none, Option.isSome_none]
    | true =>
      have hs := (isSize_iff _).1 h1
      have hc := could_iff.1 h2
      obtain ⟨n, rfl⟩ := Int.eq_ofNat_of_zero_le (show 0 ≤ o by omega)
      obtain ⟨m, rfl⟩ := Int.eq_ofNat_of_zero_le (show 0 ≤ z by omega)
      have w1 : wrap64 (wrap64 ((n : Int) + (m : Int)) - 8) = ((n + m - 8 : Nat) : Int) := by simp (disch := omega) only [w64]; omega
      have hp : pack (m : Int) u < 18446744073709551616 := Nat.lt_of_lt_of_le pack_lt (by decide)
      have l1 : (lay b n (pack (m : Int) u)).length = b.length := lay_length ..
      rw [Bool.not_true, set_j0_f, pack_f, Option.bind_some, w1, if_pos ⟨rfl, rfl⟩, Int.toNat_natCast, show ((n : Int) + (m : Int) - 8).toNat = n + m - 8 from by omega]
      generalize pack (m : Int) u = P at *
      rw [lay_f (b := b) hb (by omega) n P hp (by omega), Option.bind_some]
      generalize lay b n P = b1 at *
      rw [lay_f (b := b1) (by omega) (by omega) (n + m - 8) P hp (by omega), Option.bind_some, Option.getD_some, Option.isSome_some]
theorem bset_length {b b' : List UInt8} {x : Blk} (h : bset b x = some b') : b'.length = b.length := by
  rw [bset_eq] at h
  split at h
  · obtain rfl := Option.some.inj h; rw [lay_length, lay_length]
  · cases h
theorem pick_f (a : Int) {n : Nat} (hn : 0 < n) (hn2 : n ≤ 1000000) : ∃ t : Nat, t < n ∧ cantlelaw00_Pick.f a (n : Int) = some (t : Int) := by
  unfold cantlelaw00_Pick.f
  rw [if_neg (by omega)]
  have h1 := Int.tmod_lt_of_pos a (show (0 : Int) < n by omega)
  have h2 := Int.lt_tmod_of_pos a (show (0 : Int) < n by omega)
  by_cases h : Int.tmod a n < 0
  · rw [if_pos h, w64 (by omega) (by omega)]
    exact ⟨(Int.tmod a n + n).toNat, by omega, by congr 1; omega⟩
  · rw [if_neg h]
    exact ⟨(Int.tmod a n).toNat, by omega, by congr 1; omega⟩
theorem bytes_l0 {n : Nat} (hn : n ≤ 10000) {l : List Ref.S152} (hl : l.length ≤ 100) (hv : ∀ x ∈ l, 0 ≤ x.f2 ∧ x.f2 < 18446744073709551616) : ∀ (d k i : Nat) (b : List UInt8), i + d = l.length → b.length = n → 3 * d + 100 ≤ k →
    ∃ b', b'.length = n ∧ cantlelaw09_Bytes.l0 k (n : Int) l (nums b) (i : Int) = some (nums b') := by
  intro d
  induction d with
  | zero =>
    intro k i b hi hb hk
    obtain ⟨k, rfl⟩ : ∃ m, k = m + 1 := ⟨k - 1, by omega⟩
    simp only [cantlelaw09_Bytes.l0]
    rw [if_neg (by omega)]
    exact ⟨b, hb, rfl⟩
  | succ d ih =>
    intro k i b hi hb hk
    obtain ⟨k, rfl⟩ : ∃ m, k = m + 1 + 1 + 1 := ⟨k - 3, by omega⟩
    have w0 : wrap64 ((i : Int) + 1) = ((i + 1 : Nat) : Int) := by rw [w64 (by omega) (by omega)]; rfl
    have hr : rd_T152 l (i : Int) = l[i] := by
      unfold rd_T152
      rw [Int.toNat_natCast, List.getD_eq_getElem?_getD, List.getElem?_eq_getElem (by omega)]; rfl
    have hx := hv l[i] (List.getElem_mem _)
    have hmx : mx (n : Int) 1 = ((max n 1 : Nat) : Int) := by unfold mx; omega
    obtain ⟨t, ht, htf⟩ := pick_f l[i].f1 (n := max n 1) (by omega) (by omega)
    obtain ⟨v, hve⟩ := Int.eq_ofNat_of_zero_le hx.1
    simp only [cantlelaw09_Bytes.l0]
    rw [if_pos (by omega), if_pos (by omega), hr, hmx, htf, Option.bind_some, w64 (x := (t : Int) + 8) (by omega) (by omega)]
    have j2 : ∀ b1 : List UInt8, b1.length = n → ∃ b', b'.length = n ∧ cantlelaw09_Bytes.j2 (k + 1) (n : Int) l (nums b1) (i : Int) (t : Int) l[i].f0 l[i].f1 l[i].f2 = some (nums b') := by
      intro b1 hb1
      simp only [cantlelaw09_Bytes.j2]
      rw [w0]
      split
      · exact ih k (i + 1) b1 (by omega) hb1 (by omega)
      · obtain ⟨u, _, huf⟩ := pick_f l[i].f0 (n := 4) (by omega) (by omega)
        have e4 : ((4 : Nat) : Int) = 4 := rfl
        rw [e4] at huf
        rw [huf, Option.bind_some, set_f (by omega) (by omega), Option.bind_some]
        refine ih k (i + 1) _ (by omega) ?_ (by omega)
        cases hs : bset b1 ⟨(t : Int), wrap64 (Int.tmod l[i].f2 20000), (u : Int) == 3⟩ with
        | none => exact hb1
        | some b2 => rw [Option.getD_some, bset_length hs]; exact hb1
    have j1 : ∀ f : Bool, (f = true → t + 8 ≤ n) → ∃ b', b'.length = n ∧ cantlelaw09_Bytes.j1 (k + 1 + 1) (n : Int) l (nums b) (i : Int) (t : Int) f l[i].f0 l[i].f1 l[i].f2 = some (nums b') := by
      intro f hf
      simp only [cantlelaw09_Bytes.j1]
      cases f with
      | true =>
        rw [if_pos rfl]
        have := hf rfl
        have hL : cantleref07_Lay.f (k + 1) (nums b) (t : Int) l[i].f2 = some (nums (lay b t v)) := by
          rw [hve]; exact lay_f (by omega) (by omega) t v (by omega) (by omega)
        rw [hL, Option.bind_some]
        exact j2 _ (by rw [lay_length]; exact hb)
      | false =>
        rw [if_neg (by simp)]
        exact j2 b hb
    split
    · exact j1 _ (fun h => by have := of_decide_eq_true h; omega)
    · exact j1 false (fun h => by cases h)
theorem bytes_f {n : Nat} (hn : n ≤ 10000) {l : List Ref.S152} (hl : l.length ≤ 100) (hv : ∀ x ∈ l, 0 ≤ x.f2 ∧ x.f2 < 18446744073709551616) {k : Nat} (hk : 1000 ≤ k) :
    ∃ b, b.length = n ∧ cantlelaw09_Bytes.f k (n : Int) l = some (nums b) := by
  unfold cantlelaw09_Bytes.f
  rw [if_pos (by omega), if_pos (by omega), Int.toNat_natCast]
  have := bytes_l0 hn hl hv l.length k 0 (List.replicate n 0) (by omega) (by simp) (by omega)
  have e : nums (List.replicate n 0) = List.replicate n 0 := by unfold nums; rw [List.map_replicate]; rfl
  rw [e] at this
  exact this
end Go.Proofs.Ytnldmhljggcnpaa
namespace Go.Proofs.Ytnldmhljggcnpaa
set_option linter.unusedSimpArgs false
set_option linter.unusedVariables false
open Go.RowKit Cantle Ref
open Go.Proofs.YtnldmhljggcnpaaW.PrintWords (Kd encs Drawn0)
set_option maxRecDepth 100000
set_option maxHeartbeats 2000000
theorem encs_nums (b : List UInt8) : encs (Value.int .u8) (nums b) = bv b := by simp [encs, nums, bv, byteV]
theorem C_bytes {w : World} {F : Nat → Prop} {A : Option Addr} {c : Nat} {b : List UInt8} (h : Rd w F (.slice A b.length c) b.length (bv b)) : Kd.C (Kd.int .u8) w A (nums b).length (nums b) := by
  obtain ⟨A', c', e, h1, h2, h3⟩ := h
  cases e
  refine ⟨rfl, by rw [nums_length]; omega, fun hn => ?_⟩
  rw [nums_length] at hn
  obtain ⟨g, o, rfl, _, _, hc⟩ := h3 (by intro q; have := congrArg List.length q; rw [bv_length, List.length_nil] at this; omega)
  refine ⟨_, rfl, fun j p hj => ⟨[.int .u8 p], rfl, rfl, fun i u hu => ?_⟩⟩
  have hi : i = 0 := by
    have := (List.getElem?_eq_some_iff.1 hu).1
    simp at this; omega
  subst hi
  obtain rfl : Value.int .u8 p = u := by simpa using hu
  show w.cell? (Addr.add ⟨g, o, none⟩ (j * 1 + 0)) = _
  rw [addr_add, Nat.mul_one, Nat.add_zero]
  refine hc j _ ?_
  rw [nums_get?] at hj
  rw [bv, List.getElem?_map]
  cases hb : b[j]? with
  | none => rw [hb] at hj; cases hj
  | some x => rw [hb] at hj; cases hj; rfl
theorem R_bytes {w : World} {base : Nat} {ok : Nat → Prop} {v : Value} {b : List UInt8} (h : OwnB w v b) (hb : ∀ k, v.ownBlock = some k → base ≤ k) (hok : ∀ k, v.ownBlock = some k → ok k) : Kd.R (Kd.int .u8) 5 w base ok v (nums b) := by
  refine Kd.R_of_own ?_ hok
  rw [encs_nums, nums_length]
  refine ⟨h.1, ?_⟩
  rcases h.2 with h | ⟨g, cap, cur, rfl, _, r⟩
  · exact .inl h
  · exact .inr ⟨g, cap, cur, rfl, hb g rfl, r⟩
theorem bytes_R {w : World} {base : Nat} {ok : Nat → Prop} {v : Value} {b : List UInt8} (h : Kd.R (Kd.int .u8) 5 w base ok v (nums b)) : OwnB w v b ∧ ∀ k, v.ownBlock = some k → base ≤ k := by
  have ho := Kd.own_of_R h
  rw [encs_nums, nums_length] at ho
  refine ⟨⟨ho.1, ?_⟩, fun k hk => (ho.lt k hk).1⟩
  rcases ho.2 with h | ⟨g, cap, cur, rfl, _, r⟩
  · exact .inl h
  · exact .inr ⟨g, cap, cur, rfl, Nat.zero_le _, r⟩
theorem Drawn0.keep' {w w' : World} (h : Drawn0 w w') : Keep No w w' := by
  obtain ⟨n, rfl⟩ := h.out
  exact Keep.drewN _ _ _
theorem ref01_Class (z : Int) (w : World) : Calls Try.prog 36 #[.int .i64 z] w fun e w' => e = .returned (.int .i64 (cls z)) ∧ Keep No w w' :=
  (cantleref01_Class.calls 10 z (cls z) w (class_f (by omega) z)).mono fun _ _ ⟨h1, h2⟩ => ⟨h1, Drawn0.keep' h2⟩
theorem ref07_Find {w : World} {F : Nat → Prop} {v : Value} {b : List UInt8} (h : Rd w F v b.length (bv b)) (hb : b.length ≤ 16384) (z : Int) (hz : isSize z = true) :
    Calls Try.prog 44 #[v, .int .i64 z] w fun e w' => e = .returned (.tuple #[.int .i64 ((findB b z).getD 0), .bool (findB b z).isSome]) ∧ Keep No w w' := by
  obtain ⟨A, c, rfl, hc1, hc2⟩ := h.form'
  have hf := find_f hb (Nat.le_refl 30000) hz
  have := cantleref07_Find.calls 30000 A c (nums b) z ((findB b z).getD 0) (findB b z).isSome w (C_bytes h) (by rw [nums_length]; exact hc1) (by rw [hf]; cases findB b z <;> rfl)
  rw [nums_length] at this
  exact this.mono fun _ _ ⟨h1, h2⟩ => ⟨h1, Keep.ofBelow h2⟩
theorem ref07_Rebuild {w0 w : World} {v : Value} {b : List UInt8} (h : NewO w0 w v b) (hb : b.length ≤ 16384) :
    Calls Try.prog 33 #[v] w fun e w' => ∃ v', e = .returned (.tuple #[v', .bool (rebuild b).isSome]) ∧ NewO w0 w' v' ((rebuild b).getD b) ∧ Keep (fun k => v.ownBlock = some k) w w' ∧ (∀ k, v'.ownBlock = some k → v.ownBlock = some k ∨ w.heap.size ≤ k) := by
  have hf := rebuild_f hb (Nat.le_refl 20000)
  have := cantleref07_Rebuild.calls 20000 (fun k => v.ownBlock = some k) v (nums b) (nums ((rebuild b).getD b)) (rebuild b).isSome w0 w h.keep.toBelow (R_bytes h.own h.ge (fun k hk => hk)) hf
  refine this.mono ?_
  rintro e w' ⟨v', rfl, hR, hB, hK⟩
  obtain ⟨h1, h2⟩ := bytes_R hR
  have hB0 := h.keep.toBelow
  have hKB := Keep.ofBelow hB
  refine ⟨v', rfl, ⟨hKB, h1, h2⟩, ⟨hKB.os.trans h.keep.os.symm, hKB.tape.trans h.keep.tape.symm, hKB.output.trans h.keep.output.symm, hK.1, hK.2⟩, fun k hk => hR.1 k hk⟩
theorem law09_Bytes {w : World} {A : Option Addr} {c : Nat} {l : List Ref.S152} (n : Int) (hn0 : 0 ≤ n) (hn : n ≤ 10000) (hl : l.length ≤ 100) (hv : ∀ x ∈ l, 0 ≤ x.f2 ∧ x.f2 < 18446744073709551616)
    (hr : Kd.C k152 w A l.length l) (hc : l.length ≤ c) :
    Calls Try.prog 26 #[.int .i64 n, .slice A l.length c] w fun e w' => ∃ v b, e = .returned v ∧ NewO w w' v b ∧ (b.length : Int) = n := by
  obtain ⟨m, rfl⟩ := Int.eq_ofNat_of_zero_le hn0
  obtain ⟨b, hb, hf⟩ := bytes_f (show m ≤ 10000 by omega) hl hv (Nat.le_refl 1000)
  refine (cantlelaw09_Bytes.calls 1000 (m : Int) A c l (nums b) w hr hc hf).mono ?_
  rintro e w' ⟨v, rfl, hR, hB⟩
  obtain ⟨h1, h2⟩ := bytes_R hR
  exact ⟨v, b, rfl, ⟨Keep.ofBelow hB, h1, h2⟩, by omega⟩
end Go.Proofs.Ytnldmhljggcnpaa
namespace Go.Proofs.Ytnldmhljggcnpaa
set_option linter.unusedSimpArgs false
set_option linter.unusedVariables false
open Go.RowKit Cantle
set_option maxRecDepth 100000
set_option maxHeartbeats 4000000
theorem NewO.keepNo {w w1 w2 : World} {v : Value} {l : List UInt8} (h : NewO w w1 v l) (k : Keep No w1 w2) : NewO w w2 v l := ⟨h.keep.thenNo k, h.own.keepNo k, h.ge⟩
theorem rebuild_length {b b' : List UInt8} (hb : b.length ≤ 16384) (h : rebuild b = some b') : b'.length = b.length := by
  cases hw : walk b with
  | none => unfold rebuild at h; rw [hw] at h; cases h
  | some l =>
    obtain ⟨b2, h1, _, h2, _⟩ := rebuild_inv hw hb
    rw [h] at h1
    obtain rfl := Option.some.inj h1
    exact h2
theorem zeros_new (n : Nat) (hn : n ≤ 281474976710656) (w : World) : Rd (w.alloc (.cells (zb n) 5)) (fun i => w.heap.size ≤ i) (.slice (some ⟨w.heap.size, 0, none⟩) n n) (List.replicate n 0).length (bv (List.replicate n 0)) := by
  have h := newB_alloc w (zb n) (List.replicate n 0) (by simp [zb]) (by rw [List.length_replicate]; unfold maxLen; omega)
  rw [List.length_replicate] at h
  have := h.rd
  rw [List.length_replicate] at this ⊢
  exact this
end Go.Proofs.Ytnldmhljggcnpaa
namespace Go.Proofs.Ytnldmhljggcnpaa
set_option linter.unusedSimpArgs false
set_option linter.unusedVariables false
open Go.RowKit Cantle Ref
open Go.Proofs.YtnldmhljggcnpaaW.PrintWords (Kd encs Drawn0 rd)
set_option maxRecDepth 100000
set_option maxHeartbeats 4000000
theorem rd_list {l : List Int} {i : Nat} (h : i < l.length) : rd l (i : Int) = l[i] := by
  unfold rd; rw [Int.toNat_natCast, List.getD_eq_getElem?_getD, List.getElem?_eq_getElem h]; rfl
theorem wsucc {i : Nat} (h : i ≤ 1000000000) : wrap64 ((i : Int) + 1) = ((i + 1 : Nat) : Int) := by rw [w64 (by omega) (by omega)]; rfl
theorem in_l0 {l : List Int} (hl : l.length ≤ 1000000) (a : Int) : ∀ (d k i n : Nat), i + d = l.length → d < k → n ≤ i → cantleref07_in.l0 k l a (n : Int) (i : Int) = some ((n + (l.drop i).count a : Nat) : Int) := by
  intro d
  induction d with
  | zero =>
    intro k i n hi hk hn
    obtain ⟨k, rfl⟩ : ∃ m, k = m + 1 := ⟨k - 1, by omega⟩
    simp only [cantleref07_in.l0]
    rw [if_neg (by omega), List.drop_of_length_le (by omega)]; rfl
  | succ d ih =>
    intro k i n hi hk hn
    obtain ⟨k, rfl⟩ : ∃ m, k = m + 1 := ⟨k - 1, by omega⟩
    have hdr : l.drop i = l[i] :: l.drop (i + 1) := List.drop_eq_getElem_cons (by omega)
    simp only [cantleref07_in.l0]
    rw [if_pos (by omega), if_pos (by omega), rd_list (by omega), wsucc (by omega), wsucc (by omega), hdr, List.count_cons]
    by_cases h : l[i] = a
    · rw [if_pos h, ih k (i + 1) (n + 1) (by omega) (by omega) (by omega), if_pos (by simpa using h)]
      congr 2; omega
    · rw [if_neg h, ih k (i + 1) n (by omega) (by omega) (by omega), if_neg (by simpa using h)]
      congr 2
theorem in_f {l : List Int} (hl : l.length ≤ 1024) {k : Nat} (hk : 1100 ≤ k) (a : Int) : cantleref07_in.f k l a = some ((l.count a : Nat) : Int) := by
  have := in_l0 (l := l) (by omega) a l.length k 0 0 (by omega) (by omega) (by omega)
  unfold cantleref07_in.f
  rw [List.drop_zero, Nat.zero_add] at this
  exact this
def okO (l : List Blk) (M : List Int) (o : Int) : Bool := (l.any fun x => decide (x.off = o) && !x.used) && decide (M.count o = 1)
def refGo (b : List UInt8) (l : List Blk) : Nat → Nat → Int → Bool
  | 0, _, cnt => cnt == 0
  | m + 1, c, cnt => match lall b c with
    | none => false
    | some M => M.all (okO l M) && refGo b l m (c + 1) (cnt - M.length)
section
variable {b : List UInt8} {l : List Blk}
theorem chk_l3 (hl : l.length ≤ 520) {M : List Int} (hM : M.length ≤ 1024) {j : Nat} (hj : j < M.length) (cnt c : Int) {K : Nat} {R : Bool} (hK : 1200 ≤ K)
    (H : ∀ k, K ≤ k → cantleref07_Check.l2 k (nums b) (l.map toS) cnt c M ((j + 1 : Nat) : Int) = some R) :
    ∀ (d k i : Nat) (f : Bool), i + d = l.length → d + 1 + K ≤ k →
      cantleref07_Check.l3 k (nums b) (l.map toS) cnt c M (j : Int) f (i : Int) = some (((f || (l.drop i).any fun x => decide (x.off = M[j]) && !x.used) && decide (M.count M[j] = 1)) && R) := by
  intro d
  induction d with
  | zero =>
    intro k i f hi hk
    obtain ⟨k, rfl⟩ : ∃ m, k = m + 1 := ⟨k - 1, by omega⟩
    simp only [cantleref07_Check.l3, List.length_map]
    rw [if_neg (by omega), List.drop_of_length_le (by omega)]
    cases f with
    | false => simp
    | true =>
      rw [if_pos rfl, if_pos (by omega), if_pos (by omega), rd_list hj, in_f hM (by omega), Option.bind_some, wsucc (by omega), H k (by omega)]
      by_cases h1 : M.count M[j] = 1
      · rw [if_pos (by rw [h1]; rfl)]; simp [h1]
      · rw [if_neg (by omega)]; simp [h1]
  | succ d ih =>
    intro k i f hi hk
    obtain ⟨k, rfl⟩ : ∃ m, k = m + 1 := ⟨k - 1, by omega⟩
    have hdr : l.drop i = l[i] :: l.drop (i + 1) := List.drop_eq_getElem_cons (by omega)
    simp only [cantleref07_Check.l3, List.length_map]
    rw [if_pos (by omega), wsucc (by omega)]
    cases f with
    | true => rw [if_pos rfl, ih k (i + 1) true (by omega) (by omega)]; simp
    | false =>
      rw [if_neg (by simp), if_pos (by omega), if_pos (by omega), if_pos (by omega), rd_toS (by omega), rd_list hj, hdr, List.any_cons]
      by_cases h : (toS l[i]).f0 = M[j]
      · have h' : l[i].off = M[j] := h
        rw [if_pos h, ih k (i + 1) _ (by omega) (by omega)]
        simp [h', toS]
      · have h' : ¬ l[i].off = M[j] := h
        rw [if_neg h, ih k (i + 1) _ (by omega) (by omega)]
        simp [h']
theorem chk_l2 (hl : l.length ≤ 520) {M : List Int} (hM : M.length ≤ 1024) (cnt : Int) {c : Nat} (hc : c < 22) {K : Nat} {R : Bool} (hK : 1200 ≤ K)
    (H : ∀ k, K ≤ k → cantleref07_Check.l1 k (nums b) (l.map toS) cnt ((c + 1 : Nat) : Int) = some R) :
    ∀ (d k j : Nat), j + d = M.length → 530 * d + 1 + K ≤ k → cantleref07_Check.l2 k (nums b) (l.map toS) cnt (c : Int) M (j : Int) = some ((M.drop j).all (okO l M) && R) := by
  intro d
  induction d with
  | zero =>
    intro k j hj hk
    obtain ⟨k, rfl⟩ : ∃ m, k = m + 1 := ⟨k - 1, by omega⟩
    simp only [cantleref07_Check.l2]
    rw [if_neg (by omega), List.drop_of_length_le (by omega), wsucc (by omega), H k (by omega)]
    simp
  | succ d ih =>
    intro k j hj hk
    obtain ⟨k, rfl⟩ : ∃ m, k = m + 1 := ⟨k - 1, by omega⟩
    have hdr : M.drop j = M[j]'(by omega) :: M.drop (j + 1) := List.drop_eq_getElem_cons (by omega)
    simp only [cantleref07_Check.l2]
    have h3 := chk_l3 (b := b) hl hM (j := j) (by omega) cnt c (K := 530 * d + 1 + K) (by omega) (fun k hk' => ih k (j + 1) (by omega) hk') l.length k 0 false (by omega) (by omega)
    have e0 : ((0 : Nat) : Int) = 0 := rfl
    rw [e0] at h3
    rw [if_pos (by omega), h3, hdr, List.all_cons, List.drop_zero, Bool.false_or]
    simp only [okO, Bool.and_assoc]
theorem chk_l1 (hb : b.length ≤ 16384) (hl : l.length ≤ 520) : ∀ (m c k : Nat) (cnt : Int), m + c = 22 → 545000 * m + 5000 ≤ k → -(1024 * c) ≤ cnt → cnt ≤ 520 →
    cantleref07_Check.l1 k (nums b) (l.map toS) cnt (c : Int) = some (refGo b l m c cnt) := by
  intro m
  induction m with
  | zero =>
    intro c k cnt hc hk h1 h2
    obtain ⟨k, rfl⟩ : ∃ m, k = m + 1 := ⟨k - 1, by omega⟩
    simp only [cantleref07_Check.l1, refGo]
    rw [if_neg (by omega)]
  | succ m ih =>
    intro c k cnt hc hk h1 h2
    obtain ⟨k, rfl⟩ : ∃ m, k = m + 1 := ⟨k - 1, by omega⟩
    simp only [cantleref07_Check.l1, refGo]
    rw [if_pos (by omega), all_f hb (by omega) c (by omega), Option.bind_some]
    cases hM : lall b c with
    | none => simp [allV]
    | some M =>
      have hMl := (lall_parts hM).2.2.2.1
      simp only [allV, if_true]
      rw [w64 (by omega) (by omega)]
      have e0 : ((0 : Nat) : Int) = 0 := rfl
      have h := chk_l2 (b := b) hl hMl (cnt - M.length) (c := c) (by omega) (K := 545000 * m + 5000) (R := refGo b l m (c + 1) (cnt - M.length)) (by omega) (fun k hk' => ih (c + 1) k _ (by omega) hk' (by omega) (by omega)) M.length k 0 (by omega) (by omega)
      rw [e0, List.drop_zero] at h
      exact h
theorem chk_l0 (hl : l.length ≤ 520) {K : Nat} {R : Bool} (H : ∀ k, K ≤ k → cantleref07_Check.l1 k (nums b) (l.map toS) (freeN l : Int) 0 = some R) :
    ∀ (d k i : Nat), i + d = l.length → d + 1 + K ≤ k → apartL (l.take i) = true →
      cantleref07_Check.l0 k (nums b) (l.map toS) (freeN (l.take i) : Int) (i : Int) = some (apartL l && R) := by
  intro d
  induction d with
  | zero =>
    intro k i hi hk ha
    obtain ⟨k, rfl⟩ : ∃ m, k = m + 1 := ⟨k - 1, by omega⟩
    simp only [cantleref07_Check.l0, List.length_map]
    rw [List.take_of_length_le (by omega)] at ha ⊢
    rw [if_neg (by omega), H k (by omega), ha]; rfl
  | succ d ih =>
    intro k i hi hk ha
    obtain ⟨k, rfl⟩ : ∃ m, k = m + 1 := ⟨k - 1, by omega⟩
    have hlt : i < l.length := by omega
    have hf : freeN (l.take (i + 1)) = freeN (l.take i) + (if l[i].used then 0 else 1) := by
      rw [take_next' hlt]
      unfold freeN
      rw [List.filter_append, List.length_append]
      cases hu' : l[i].used <;> simp [hu']
    have hfl : freeN (l.take i) ≤ l.length := by
      unfold freeN
      refine Nat.le_trans (List.length_filter_le _ _) ?_
      rw [List.length_take]; omega
    simp only [cantleref07_Check.l0, List.length_map]
    rw [if_pos (by omega), if_pos (by omega), rd_toS hlt, wsucc (by omega), wsucc (by omega)]
    cases hu : l[i].used with
    | true =>
      rw [hu] at hf
      simp only [if_true, Nat.add_zero] at hf
      have ha2 : apartL (l.take (i + 1)) = true := by
        cases i with
        | zero => exact apart_zero hlt
        | succ j => rw [apart_take hlt, ha, hu]; simp
      have := ih k (i + 1) (by omega) (by omega) ha2
      rw [hf] at this
      rw [if_pos (show (toS l[i]).f2 = true from hu), this]
      split <;> rfl
    | false =>
      rw [hu] at hf
      simp only [Bool.false_eq_true, if_false] at hf
      rw [if_neg (show ¬ (toS l[i]).f2 = true from by rw [show (toS l[i]).f2 = l[i].used from rfl, hu]; simp)]
      cases i with
      | zero =>
        have := ih k 1 (by omega) (by omega) (apart_zero hlt)
        rw [hf] at this
        rw [if_neg (by omega)]
        exact this
      | succ j =>
        have wj : wrap64 (((j + 1 : Nat) : Int) - 1) = (j : Int) := by rw [w64 (by omega) (by omega)]; omega
        rw [if_pos (by omega), wj, if_pos (by omega), if_pos (by omega), rd_toS (by omega)]
        have ha2 := apart_take (l := l) (k := j) hlt
        rw [ha, hu] at ha2
        cases hv : (l[j]'(by omega)).used with
        | true =>
          rw [hv] at ha2
          have := ih k (j + 1 + 1) (by omega) (by omega) (by rw [ha2]; rfl)
          rw [hf] at this
          rw [if_pos (show (toS (l[j]'(by omega))).f2 = true from hv)]
          exact this
        | false =>
          rw [hv] at ha2
          rw [if_neg (show ¬ (toS (l[j]'(by omega))).f2 = true from by rw [show (toS (l[j]'(by omega))).f2 = (l[j]'(by omega)).used from rfl, hv]; simp), apart_no (k := j + 1 + 1) (by rw [ha2]; rfl)]
          rfl
end
theorem refGo_iff {b : List UInt8} {l : List Blk} (hw : walk b = some l) : ∀ (m c : Nat) (cnt : Int), refGo b l m c cnt = true ↔ (∀ d, c ≤ d → d < c + m → OkC b l d) ∧ (((List.range m).map fun i => ((lall b (c + i)).getD []).length).sum : Int) = cnt := by
  intro m
  induction m with
  | zero =>
    intro c cnt
    simp only [refGo, List.range_zero, List.map_nil, List.sum_nil]
    constructor
    · intro h
      have : cnt = 0 := by simpa using h
      exact ⟨fun d h1 h2 => by omega, by rw [this]; rfl⟩
    · rintro ⟨_, h⟩
      have : cnt = 0 := by rw [← h]; rfl
      simp [this]
  | succ m ih =>
    intro c cnt
    have hs : ((List.range (m + 1)).map fun i => ((lall b (c + i)).getD []).length).sum = ((lall b c).getD []).length + ((List.range m).map fun i => ((lall b (c + 1 + i)).getD []).length).sum := by
      rw [List.range_succ_eq_map, List.map_cons, List.sum_cons, List.map_map]
      congr 2
      apply List.map_congr_left
      intro i _
      simp only [Function.comp, Nat.succ_eq_add_one]
      rw [show c + (i + 1) = c + 1 + i from by omega]
    rw [hs]
    unfold refGo
    cases hM : lall b c with
    | none =>
      simp only [Bool.false_eq_true, false_iff]
      rintro ⟨h, _⟩
      obtain ⟨M, h1, _⟩ := h c (Nat.le_refl _) (by omega)
      rw [hM] at h1; cases h1
    | some M =>
      simp only [Bool.and_eq_true, Option.getD_some]
      rw [ih]
      have hok : M.all (okO l M) = true ↔ OkC b l c := by
        rw [List.all_eq_true]
        constructor
        · intro h
          refine ⟨M, hM, ?_, fun o ho => ?_⟩
          · rw [List.nodup_iff_count]
            intro o
            by_cases ho : o ∈ M
            · have := h o ho
              unfold okO at this
              simp only [Bool.and_eq_true, decide_eq_true_eq] at this
              omega
            · rw [List.count_eq_zero_of_not_mem ho]; omega
          · have := h o ho
            unfold okO at this
            simp only [Bool.and_eq_true, List.any_eq_true, decide_eq_true_eq, Bool.not_eq_true'] at this
            obtain ⟨⟨x, hx, h1, h2⟩, _⟩ := this
            exact ⟨x, hx, h1, h2⟩
        · rintro ⟨M', h1, h2, h3⟩ o ho
          rw [hM] at h1
          obtain rfl := Option.some.inj h1
          obtain ⟨x, hx, h4, h5⟩ := h3 o ho
          unfold okO
          simp only [Bool.and_eq_true, List.any_eq_true, decide_eq_true_eq, Bool.not_eq_true']
          refine ⟨⟨x, hx, h4, h5⟩, ?_⟩
          have h6 := List.nodup_iff_count.1 h2 o
          have h7 := List.count_pos_iff.2 ho
          omega
      rw [hok]
      constructor
      · rintro ⟨h1, h2, h3⟩
        refine ⟨fun d hd1 hd2 => ?_, by omega⟩
        by_cases e : d = c
        · subst e; exact h1
        · exact h2 d (by omega) (by omega)
      · rintro ⟨h1, h2⟩
        exact ⟨h1 c (Nat.le_refl _) (by omega), fun d hd1 hd2 => h1 d (by omega) (by omega), by omega⟩
theorem check_f {b : List UInt8} (hb : b.length ≤ 16384) {k : Nat} (hk : 20000000 ≤ k) : cantleref07_Check.f k (nums b) = some (checkB b) := by
  unfold cantleref07_Check.f
  rw [walk_f hb (by omega), Option.bind_some]
  obtain ⟨k, rfl⟩ : ∃ m, k = m + 1 := ⟨k - 1, by omega⟩
  cases hw : walk b with
  | none =>
    show (some false : Option Bool) = some (checkB b)
    unfold checkB
    rw [hw]
  | some l =>
    have hlb : l.length ≤ 520 := by
      obtain ⟨h1, h2, h3⟩ := walk_iff.1 hw
      have := tlp_few h2
      omega
    have e0 : ((0 : Nat) : Int) = 0 := rfl
    have hn := num_f (b := b) (k := k + 1) (by omega) (by omega) 0
    rw [e0] at hn
    show ((cantleref07_num.f (k + 1) (nums b) 0).bind fun t264 => cantleref07_Check.j0 (k + 1) (nums b) (l.map toS) (decide (t264 ≥ 4194304))) = some (checkB b)
    rw [hn, Option.bind_some]
    show (if decide (((num b 0 : Nat) : Int) ≥ 4194304) = true then some false else cantleref07_Check.l0 k (nums b) (l.map toS) 0 0) = some (checkB b)
    have hcb : checkB b = (decide (num b 0 < 4194304) && (apartL l && refGo b l 22 0 (freeN l))) := by
      rw [Bool.eq_iff_iff, checkB_iff hb, isRight_count hw hb]
      simp only [Bool.and_eq_true, decide_eq_true_eq]
      rw [refGo_iff hw]
      have es : ((List.range 22).map fun i => ((lall b (0 + i)).getD []).length).sum = ((List.range 22).map fun c => ((lall b c).getD []).length).sum := by
        simp only [Nat.zero_add]
      rw [es]
      constructor
      · rintro ⟨h1, h2, h3, h4⟩
        exact ⟨h1, h2, fun d _ hd2 => h3 d (by omega), by omega⟩
      · rintro ⟨h1, h2, h3, h4⟩
        exact ⟨h1, h2, fun d hd2 => h3 d (Nat.zero_le _) (by omega), by omega⟩
    rw [hcb]
    by_cases hN : num b 0 < 4194304
    · rw [decide_eq_true hN, decide_eq_false (by omega), if_neg (by simp), Bool.true_and]
      have hf : freeN l ≤ 520 := by
        unfold freeN
        exact Nat.le_trans (List.length_filter_le _ _) hlb
      have h := chk_l0 (b := b) hlb (K := 545000 * 22 + 5000) (R := refGo b l 22 0 (freeN l)) (fun k hk' => by
        have := chk_l1 hb hlb 22 0 k (freeN l) (by omega) hk' (by omega) (by omega)
        exact this) l.length k 0 (by omega) (by omega) rfl
      rw [List.take_zero] at h
      exact h
    · rw [decide_eq_false hN, decide_eq_true (by omega), if_pos rfl] <;> rfl
end Go.Proofs.Ytnldmhljggcnpaa
namespace Go.Proofs.Ytnldmhljggcnpaa
set_option linter.unusedSimpArgs false
set_option linter.unusedVariables false
open Go.RowKit Cantle Ref
open Go.Proofs.YtnldmhljggcnpaaW.PrintWords (Kd)
set_option maxRecDepth 100000
set_option maxHeartbeats 4000000
theorem ref07_Put {w0 w : World} {v : Value} {b : List UInt8} (h : NewO w0 w v b) (hb : b.length ≤ 16384) (o : Int) :
    Calls Try.prog 27 #[v, .int .i64 o] w fun e w' => ∃ v', e = .returned (.tuple #[v', .bool (lput b o).isSome]) ∧ NewO w0 w' v' ((lput b o).getD b) ∧ Keep (fun k => v.ownBlock = some k) w w' ∧ (∀ k, v'.ownBlock = some k → v.ownBlock = some k ∨ w.heap.size ≤ k) := by
  have hf := put_f hb (Nat.le_refl 200) o
  have := cantleref07_Put.calls 200 (fun k => v.ownBlock = some k) v (nums b) o (nums ((lput b o).getD b)) (lput b o).isSome w0 w h.keep.toBelow (R_bytes h.own h.ge (fun k hk => hk)) hf
  refine this.mono ?_
  rintro e w' ⟨v', rfl, hR, hB, hK⟩
  obtain ⟨h1, h2⟩ := bytes_R hR
  have hB0 := h.keep.toBelow
  have hKB := Keep.ofBelow hB
  exact ⟨v', rfl, ⟨hKB, h1, h2⟩, ⟨hKB.os.trans h.keep.os.symm, hKB.tape.trans h.keep.tape.symm, hKB.output.trans h.keep.output.symm, hK.1, hK.2⟩, fun k hk => hR.1 k hk⟩
theorem ref07_Check {w : World} {F : Nat → Prop} {v : Value} {b : List UInt8} (h : Rd w F v b.length (bv b)) (hb : b.length ≤ 16384) :
    Calls Try.prog 30 #[v] w fun e w' => e = .returned (.bool (checkB b)) ∧ Keep No w w' := by
  obtain ⟨A, c, rfl, hc1, hc2⟩ := h.form'
  have hf := check_f hb (Nat.le_refl 20000000)
  have := cantleref07_Check.calls 20000000 A c (nums b) (checkB b) w (C_bytes h) (by rw [nums_length]; exact hc1) hf
  rw [nums_length] at this
  exact this.mono fun _ _ ⟨h1, h2⟩ => ⟨h1, Keep.ofBelow h2⟩
theorem put_length (b : List UInt8) (o : Int) : ((lput b o).getD b).length = b.length := by
  cases h : lput b o with
  | none => rfl
  | some b' => exact lput_length h
theorem reb_length {b : List UInt8} (hb : b.length ≤ 16384) : ((rebuild b).getD b).length = b.length := by
  cases h : rebuild b with
  | none => rfl
  | some b' => exact rebuild_length hb h
theorem facts11 : checkB (List.replicate 184 0) = true ∧ checkB ([1] ++ List.replicate 183 0) = false := ⟨by decide +kernel, by decide +kernel⟩
theorem law11_up {w : World} : Calls Try.prog 25 #[] w fun e w' => e = .returned (.bool true) ∧ Keep No w w' := by
  have hmk := fun w => mk_bytes 184 (by decide) w
  simp only [Int.cast_ofNat_Int] at hmk
  obtain ⟨hz1, hz2⟩ := facts11
  have hA := law00_Arena (w := w.alloc (.cells (zb 184) 5)) (l := List.replicate 184 0) 16 1024 (by decide) (zeros_new 184 (by decide) w) (by rw [List.length_replicate]; decide)
  have HO := hid (fun w1 : World => (show ∃ A2 c2 w2, (Builtin.append_ #[24, 3] 24 #[.slice (some ⟨w1.heap.size, 0, none⟩) 1 1, .int .i64 183]).run Try.prog (w1.alloc (.cells #[.int .u8 1] 5)) = .ok (.slice A2 184 c2) w2 ∧ Rd w2 (fun _ => True) (.slice A2 184 c2) ([1] ++ List.replicate 183 (0 : UInt8)).length (bv ([1] ++ List.replicate 183 0)) ∧ Keep No w1 w2 from by
    have hO := (newB_alloc w1 #[.int .u8 1] [1] rfl (by decide)).ownB
    obtain ⟨v', w2, hrun, ho2, hk2, hl2⟩ := append_zeros hO 183 (by decide) 24
    obtain ⟨A2, c2, rfl, _⟩ := ho2.form
    refine ⟨A2, c2, w2, by simpa using hrun, by simpa using ho2.rd.mono (F' := fun _ => True) (fun _ _ _ => trivial), (keep_alloc w1 _).then hk2 (fun i hi e => ?_)⟩
    have : w1.heap.size = i := Option.some.inj e
    omega))
  have HA2 := hid (fun wx F x (hx : Rd wx F x ([1] ++ List.replicate 183 (0 : UInt8)).length (bv ([1] ++ List.replicate 183 0))) => law00_Arena (w := wx) 16 1024 (by decide) hx (by decide))
  have e16 : ((16 : Nat) : Int) = 16 := rfl
  rw [e16] at hA HA2
  clear e16
  generalize List.replicate 184 (0 : UInt8) = Z at *
  generalize [1] ++ List.replicate 183 (0 : UInt8) = Z2 at *
  have HC1 := hid (fun wx p V (h : Ar wx p V ⟨16, (1024 : Int).toNat, Z⟩) => check_Check h)
  have HC2 := hid (fun wx p V (h : Ar wx p V ⟨16, (1024 : Int).toNat, Z2⟩) => check_Check h)
  simp only [hz1, hz2, if_true, Bool.false_eq_true, if_false, errV] at HC1 HC2
  clear hz1 hz2
  go_enter Try.func25, Try.ntmps25
  go_wp2_with fail
  refine hA.mono ?_; rintro e w1 ⟨p, V, rfl, hN⟩
  obtain ⟨A2, c2, w2, hrun, hR2, hk2⟩ := HO.out w1
  clear hA
  go_wp2_with (at_builtin; refine Lib.wpList_append_run _ rfl (.tmp 5) (.const (.int .i64 183)) 24 3 rfl _ _ rfl rfl _ _ hrun ?_)
  refine (HA2.out _ _ _ hR2).mono ?_; rintro e w3 ⟨p2, V2, rfl, hN2⟩
  go_wp2_with fail
  refine (HC1.out _ _ _ (((hN.keepNo hk2).keepNo hN2.keep).ar)).mono ?_; rintro e w4 ⟨rfl, k4⟩
  go_wp2_with fail
  refine (HC2.out _ _ _ ((hN2.keepNo k4).ar)).mono ?_; rintro e w5 ⟨rfl, k5⟩
  go_wp2_with fail
  refine (law00_Code 3 (by decide) _).mono ?_; rintro e w6 ⟨rfl, rfl⟩
  go_wp2
  go_ret
  exact ⟨rfl, (((((keep_alloc _ _).thenNo hN.keep).thenNo hk2).thenNo hN2.keep).thenNo k4).thenNo k5⟩
theorem CheckTells_walk {w : World} {A : Option Addr} {c : Nat} {l : List Ref.S152} (hr : Kd.C Ref.k152 w A l.length l) (hc : l.length ≤ c) (hc2 : c ≤ 9223372036854775807)
    (hv : ∀ x ∈ l, 0 ≤ x.f2 ∧ x.f2 < 18446744073709551616) (n : Int) {G : Nat → Prop} {B : Option Addr} {d : Nat} {ps : List Int} (hp : Rd w G (.slice B ps.length d) ps.length (iv ps)) :
    Calls Try.prog 4 #[.int .i64 n, .slice A l.length c, .slice B ps.length d] w fun e w' => e = .returned (.bool true) ∧ Keep No w w' := by
  obtain ⟨A', c', he, hl1, hl2⟩ := hp.form'
  have hpl : ps.length ≤ 9223372036854775807 := by omega
  clear he hl1 hl2 A' c'
  have HP := hid hp
  have HB := hid (fun wx (k : Keep No w wx) h1 h2 h3 => law09_Bytes (w := wx) (A := A) (c := c) (l := l) n h1 h2 h3 hv (Kd.C_below hr k.toBelow) hc)
  clear hr hv hp
  generalize l.length = len at *
  go_enter Try.func4, Try.ntmps4
  go_wp2_with fail
  refine law11_up.mono ?_; rintro e w1 ⟨rfl, k1⟩
  by_cases g1 : n < 0
  · go_wp2
    go_ret
    exact ⟨rfl, k1⟩
  by_cases g2 : 2000 < n
  · go_wp2
    go_ret
    exact ⟨rfl, k1⟩
  by_cases g3 : 60 < (len : Int)
  · go_wp2
    go_ret
    exact ⟨rfl, k1⟩
  by_cases g4 : 30 < (ps.length : Int)
  · go_wp2
    go_ret
    exact ⟨rfl, k1⟩
  have hB := HB.out w1 k1 (by omega) (by omega) (by omega)
  have K1 := hid k1
  clear HB k1
  go_wp2_with fail
  refine hB.mono ?_; rintro e w2 ⟨v, b0, rfl, hN, hlen⟩
  have HN0 := hid hN
  have HL0 := hid hlen
  clear hB hN hlen
  go_wp2_with fail
  go_loopw [8, 9] (fun vb i wr => ∃ k : Nat, i = .int .i64 k ∧ k ≤ ps.length ∧ ∃ b : List UInt8, (b.length : Int) = n ∧ NewO w1 wr vb b) (fun _ i _ => ps.length - (intOf i).toNat)
  case atStart => exact ⟨0, rfl, by omega, b0, HL0.out, HN0.out⟩
  case round =>
    obtain ⟨k, rfl, hk, b, q1, q3⟩ := hrel
    obtain ⟨Ab, cb, rfl, _, _⟩ := q3.own.rd.form'
    have Q1 := hid q1
    have Q3 := hid q3
    clear q1 q3
    by_cases hj : k < ps.length
    · obtain ⟨g, o, cap, he, _, _, _, hgl, hcc⟩ := (HP.out.keepNo (K1.out.thenNo Q3.out.keep)).cells (by rw [iv_length]; omega)
      cases he
      have c1 := hcc k _ (iv_get? ps k hj)
      have hPt := ref07_Put Q3.out (by have := Q1.out; omega) ps[k]
      have HPL := hid (put_length b ps[k])
      clear hcc
      generalize ps[k] = pk at *
      go_wp2_with fail
      refine hPt.mono ?_; rintro e wz ⟨vz, rfl, hz1, _, _⟩
      have HZ := hid hz1
      clear hPt hz1
      go_wp2
      refine ⟨⟨k + 1, rfl, by omega, _, by rw [HPL.out]; exact Q1.out, HZ.out⟩, ?_⟩
      simp [intOf]; omega
    · have HQ0 : Hid (∃ b : List UInt8, (b.length : Int) = n ∧ NewO w1 wr (.slice Ab b.length cb) b) := hid ⟨b, Q1.out, Q3.out⟩
      go_wp2_with fail
      go_loopw [8, 10] (fun vb i wx => ∃ k : Nat, i = .int .i64 k ∧ k ≤ 2 ∧ ∃ b : List UInt8, (b.length : Int) = n ∧ NewO w1 wx vb b) (fun _ i _ => 2 - (intOf i).toNat)
      case atStart => exact ⟨0, rfl, by omega, b, Q1.out, Q3.out⟩
      case round =>
        clear Q1 Q3 HQ0
        obtain ⟨k, rfl, hk, b, q1, q3⟩ := hrel
        obtain ⟨Ab, cb, rfl, _, _⟩ := q3.own.rd.form'
        have Q1 := hid q1
        have Q3 := hid q3
        clear q1 q3
        by_cases hk2 : k < 2
        · have hbl : b.length ≤ 2000 := by have := Q1.out; omega
          have hA := law00_Arena (w := wr) 32 16384 (by decide) Q3.out.own.rd (by omega)
          have HRC := hid (fun wx (kk : Keep No wr wx) => ref07_Check (Q3.out.own.rd.keepNo kk) (by omega))
          have HRB := hid (fun wx (h : NewO w1 wx (.slice Ab b.length cb) b) => ref07_Rebuild h (by omega))
          have HLR : Hid ((((rebuild b).getD b).length : Int) = n) := hid (by rw [reb_length (by omega)]; exact Q1.out)
          have e32 : ((32 : Nat) : Int) = 32 := rfl
          rw [e32] at hA
          clear e32
          go_wp2_with fail
          refine hA.mono ?_; rintro e w3 ⟨p, V, rfl, hNA⟩
          have hC := check_Check hNA.ar
          have HNA := hid hNA
          have HKA := hid hNA.keep
          clear hA hNA
          simp only at hC
          cases hcb : checkB b with
          | true =>
            rw [hcb] at hC
            simp only [hcb] at HRC
            simp only [if_true, errV] at hC
            clear hcb
            go_wp2_with fail
            refine hC.mono ?_; rintro e w4 ⟨rfl, k4⟩
            go_wp2_with fail
            refine (HRC.out _ ((HKA.out).thenNo k4)).mono ?_; rintro e w8 ⟨rfl, k8⟩
            have KW := hid (k4.thenNo k8)
            have HBY := hid (fun wx (kx : Keep No w8 wx) => law00_Bytes ((HNA.out.keepNo KW.out).ar.keepNo kx))
            have HCV := hid (fun wx (kx : Keep No w8 wx) => conv_str ((Q3.out.keepNo ((HKA.out.thenNo KW.out).thenNo kx)).own.rd))
            generalize hstr : strOf b = sb at *
            have HSTR := hid hstr
            clear hstr hC k4 k8
            go_wp2_with fail
            go_cut [82] from 62 to 82 (fun t wx => t = .bool false ∧ Keep No w8 wx)
            case first =>
              have HB0 := HBY.out _ (Keep.drew No w8)
              have HCV1 := HCV.out _ (Keep.drew No w8)
              refine wp_region_seq [0, 1, 2, 3, 4, 5, 6, 7, 8, 9, 10, 11, 12, 13, 14, 17, 18, 15, 16, 19, 20] [true, true, true, true, true, true, true, true, true, false, true, true, true, true, true, true, true, false, true, true, true] (fun w' => (convert 24 9 (.slice Ab b.length cb)).run Try.prog w' = .ok (.string sb) w') (by kernel_rfl) (by kernel_rfl) (by kernel_rfl) (by kernel_rfl) (by kernel_rfl) HCV1 ?_
              simp only [List.map_cons, List.map_nil, List.getElem?_cons_succ, List.getElem?_cons_zero, Option.getD_some]
              repeat (first
                | (refine seq_take (by rfl) (fun w hSw => by (try dsimp only at hSw); (try obtain ⟨hS1, hS2⟩ := hSw); go_simp; try with_reducible rfl) ?_; simp only [Act.put, List.setIfInBounds_toArray, List.set_cons_zero, List.set_cons_succ])
                | (refine seq_skip (by rfl) ?_; simp only [Act.put, List.setIfInBounds_toArray, List.set_cons_zero, List.set_cons_succ])
                | (refine seq_pass (by rfl) ?_; simp only [Act.put, List.setIfInBounds_toArray, List.set_cons_zero, List.set_cons_succ]))
              refine seq_call (by rfl) (fun K hK => ?_)
              go_simp
              refine HB0.mono ?_; rintro e w9 ⟨v9, rfl, hN9⟩
              have K9 := hid ((Keep.drew No w8).trans hN9.keep)
              have hcv9 := conv_str hN9.own.rd
              simp only [HSTR.out] at hcv9
              obtain ⟨A9, c9, rfl, _, _⟩ := hN9.own.rd.form'
              have HCV9 := HCV.out _ K9.out
              clear hN9
              go_wp2_with fail
              refine hK.out (fun w' => (convert 24 9 (.slice Ab b.length cb)).run Try.prog w' = .ok (.string sb) w' ∧ (convert 24 9 (.slice A9 b.length c9)).run Try.prog w' = .ok (.string sb) w') _ _ (fun _ h => h.1) ⟨HCV9, hcv9⟩ ?_
              clear hK K
              try simp only [Act.put, List.setIfInBounds_toArray, List.set_cons_zero, List.set_cons_succ]
              repeat (first
                | (refine seq_take (by rfl) (fun w hSw => by (try dsimp only at hSw); (try obtain ⟨hS1, hS2⟩ := hSw); go_simp; try with_reducible rfl) ?_; simp only [Act.put, List.setIfInBounds_toArray, List.set_cons_zero, List.set_cons_succ])
                | (refine seq_skip (by rfl) ?_; simp only [Act.put, List.setIfInBounds_toArray, List.set_cons_zero, List.set_cons_succ])
                | (refine seq_pass (by rfl) ?_; simp only [Act.put, List.setIfInBounds_toArray, List.set_cons_zero, List.set_cons_succ]))
              refine seq_nil ?_
              go_wp2_with fail
              go_meet
              case rel => exact ⟨rfl, K9.out⟩
            case rest =>
              obtain ⟨rfl, kc⟩ := hcut
              have hRB := HRB.out _ (Q3.out.keepNo ((HKA.out.thenNo KW.out).thenNo kc))
              go_wp2_with fail
              refine hRB.mono ?_; rintro e wz ⟨vz, rfl, hz1, _, _⟩
              have HZ := hid hz1
              go_wp2
              refine ⟨⟨k + 1, rfl, by omega, _, HLR.out, HZ.out⟩, ?_⟩
              simp [intOf]; omega
          | false =>
            rw [hcb] at hC
            simp only [hcb] at HRC
            simp only [Bool.false_eq_true, if_false, errV] at hC
            clear hcb
            go_wp2_with fail
            refine hC.mono ?_; rintro e w4 ⟨rfl, k4⟩
            go_wp2_with fail
            refine (HRC.out _ ((HKA.out).thenNo k4)).mono ?_; rintro e w8 ⟨rfl, k8⟩
            have KW := hid (k4.thenNo k8)
            have HBY := hid (fun wx (kx : Keep No w8 wx) => law00_Bytes ((HNA.out.keepNo KW.out).ar.keepNo kx))
            have HCV := hid (fun wx (kx : Keep No w8 wx) => conv_str ((Q3.out.keepNo ((HKA.out.thenNo KW.out).thenNo kx)).own.rd))
            generalize hstr : strOf b = sb at *
            have HSTR := hid hstr
            clear hstr hC k4 k8
            go_wp2_with fail
            go_cut [82] from 62 to 82 (fun t wx => t = .bool false ∧ Keep No w8 wx)
            case first =>
              have HB0 := HBY.out _ (Keep.drew No w8)
              have HCV1 := HCV.out _ (Keep.drew No w8)
              refine wp_region_seq [0, 1, 2, 3, 4, 5, 6, 7, 8, 9, 10, 11, 12, 13, 14, 17, 18, 15, 16, 19, 20] [true, true, true, true, true, true, true, true, true, false, true, true, true, true, true, true, true, false, true, true, true] (fun w' => (convert 24 9 (.slice Ab b.length cb)).run Try.prog w' = .ok (.string sb) w') (by kernel_rfl) (by kernel_rfl) (by kernel_rfl) (by kernel_rfl) (by kernel_rfl) HCV1 ?_
              simp only [List.map_cons, List.map_nil, List.getElem?_cons_succ, List.getElem?_cons_zero, Option.getD_some]
              repeat (first
                | (refine seq_take (by rfl) (fun w hSw => by (try dsimp only at hSw); (try obtain ⟨hS1, hS2⟩ := hSw); go_simp; try with_reducible rfl) ?_; simp only [Act.put, List.setIfInBounds_toArray, List.set_cons_zero, List.set_cons_succ])
                | (refine seq_skip (by rfl) ?_; simp only [Act.put, List.setIfInBounds_toArray, List.set_cons_zero, List.set_cons_succ])
                | (refine seq_pass (by rfl) ?_; simp only [Act.put, List.setIfInBounds_toArray, List.set_cons_zero, List.set_cons_succ]))
              refine seq_call (by rfl) (fun K hK => ?_)
              go_simp
              refine (law00_Code 3 (by decide) _).mono ?_; rintro e wa ⟨rfl, rfl⟩
              go_wp2_with fail
              refine hK.out (fun w' => (convert 24 9 (.slice Ab b.length cb)).run Try.prog w' = .ok (.string sb) w') _ _ (fun _ h => h) HCV1 ?_
              clear hK K
              try simp only [Act.put, List.setIfInBounds_toArray, List.set_cons_zero, List.set_cons_succ]
              repeat (first
                | (refine seq_take (by rfl) (fun w hSw => by (try dsimp only at hSw); (try obtain ⟨hS1, hS2⟩ := hSw); go_simp; try with_reducible rfl) ?_; simp only [Act.put, List.setIfInBounds_toArray, List.set_cons_zero, List.set_cons_succ])
                | (refine seq_skip (by rfl) ?_; simp only [Act.put, List.setIfInBounds_toArray, List.set_cons_zero, List.set_cons_succ])
                | (refine seq_pass (by rfl) ?_; simp only [Act.put, List.setIfInBounds_toArray, List.set_cons_zero, List.set_cons_succ]))
              refine seq_call (by rfl) (fun K hK => ?_)
              go_simp
              refine HB0.mono ?_; rintro e w9 ⟨v9, rfl, hN9⟩
              have K9 := hid ((Keep.drew No w8).trans hN9.keep)
              have hcv9 := conv_str hN9.own.rd
              simp only [HSTR.out] at hcv9
              obtain ⟨A9, c9, rfl, _, _⟩ := hN9.own.rd.form'
              have HCV9 := HCV.out _ K9.out
              clear hN9
              go_wp2_with fail
              refine hK.out (fun w' => (convert 24 9 (.slice Ab b.length cb)).run Try.prog w' = .ok (.string sb) w' ∧ (convert 24 9 (.slice A9 b.length c9)).run Try.prog w' = .ok (.string sb) w') _ _ (fun _ h => h.1) ⟨HCV9, hcv9⟩ ?_
              clear hK K
              try simp only [Act.put, List.setIfInBounds_toArray, List.set_cons_zero, List.set_cons_succ]
              repeat (first
                | (refine seq_take (by rfl) (fun w hSw => by (try dsimp only at hSw); (try obtain ⟨hS1, hS2⟩ := hSw); go_simp; try with_reducible rfl) ?_; simp only [Act.put, List.setIfInBounds_toArray, List.set_cons_zero, List.set_cons_succ])
                | (refine seq_skip (by rfl) ?_; simp only [Act.put, List.setIfInBounds_toArray, List.set_cons_zero, List.set_cons_succ])
                | (refine seq_pass (by rfl) ?_; simp only [Act.put, List.setIfInBounds_toArray, List.set_cons_zero, List.set_cons_succ]))
              refine seq_nil ?_
              go_wp2_with fail
              go_meet
              case rel => exact ⟨rfl, K9.out⟩
            case rest =>
              obtain ⟨rfl, kc⟩ := hcut
              have hRB := HRB.out _ (Q3.out.keepNo ((HKA.out.thenNo KW.out).thenNo kc))
              go_wp2_with fail
              refine hRB.mono ?_; rintro e wz ⟨vz, rfl, hz1, _, _⟩
              have HZ := hid hz1
              go_wp2
              refine ⟨⟨k + 1, rfl, by omega, _, HLR.out, HZ.out⟩, ?_⟩
              simp [intOf]; omega
        · go_wp2
          go_ret
          exact ⟨rfl, K1.out.thenNo Q3.out.keep⟩
end Go.Proofs.Ytnldmhljggcnpaa
namespace Go.Proofs.Ytnldmhljggcnpaa
set_option linter.unusedSimpArgs false
set_option linter.unusedVariables false
open Go.RowKit Go.Deep Cantle
open Go.Proofs.YtnldmhljggcnpaaW.PrintWords (Kd)
set_option maxRecDepth 100000
theorem int_wf {k : IntKind} {n : Int} (h : (Lit.int k n).wf = true) : k.min ≤ n ∧ n ≤ k.max := by
  unfold Lit.wf at h
  rw [Bool.and_eq_true, decide_eq_true_eq, decide_eq_true_eq] at h
  exact h
theorem u64_wf {n : Int} (h : (Lit.int .u64 n).wf = true) : 0 ≤ n ∧ n < 18446744073709551616 := by
  have h := int_wf h
  have e1 : IntKind.u64.min = 0 := by decide
  have e2 : IntKind.u64.max = 18446744073709551615 := by decide
  omega
theorem i64_wf {n : Int} (h : (Lit.int .i64 n).wf = true) : -9223372036854775808 ≤ n ∧ n ≤ 9223372036854775807 := by
  have h := int_wf h
  have e1 : IntKind.i64.min = -9223372036854775808 := by decide
  have e2 : IntKind.i64.max = 9223372036854775807 := by decide
  omega
theorem read_lays {H : Type} {enc : TypeId × Value → H} {W : World} {a : Option Addr} {len cap : Nat} {d : DataW H} {ps : List MemPlace} (h : DataW.Trod enc Try.prog W 0 (fun _ => true) true 42 (.slice a len cap) d ps) :
    ∃ l : List Ref.S152, l.length = len ∧ Kd.C Ref.k152 W a len l ∧ len ≤ cap ∧ cap ≤ maxLen ∧ ∀ y ∈ l, 0 ≤ y.f2 ∧ y.f2 < 18446744073709551616 := by
  obtain ⟨fuel, hf⟩ := h
  rcases open_slice Try.underlying42 hf with ⟨hcs, _⟩ | ⟨ad, len', cap', m, n, D, Pl, hcs, _, hl, hm, hmm, _, hx⟩
  · simp [Value.cells] at hcs
    obtain ⟨rfl, rfl, rfl⟩ := hcs
    exact ⟨[], rfl, ⟨rfl, by omega, fun h => by omega⟩, Nat.le_refl _, Nat.zero_le _, fun y hy => by cases hy⟩
  · simp [Value.cells] at hcs
    obtain ⟨rfl, rfl, rfl⟩ := hcs
    simp only [if_true] at hmm
    subst hmm
    have ce : Try.prog.cellsOf 152 = 3 := by kernel_rfl
    rw [ce] at hx
    have each : ∀ i, i < m → ∃ q : Ref.S152, W.cell? (ad.add (i * 3)) = some (.int .i64 q.f0) ∧ W.cell? (ad.add (i * 3 + 1)) = some (.int .i64 q.f1) ∧ W.cell? (ad.add (i * 3 + 2)) = some (.int .u64 q.f2) ∧ 0 ≤ q.f2 ∧ q.f2 < 18446744073709551616 := by
      intro i hi
      obtain ⟨cs', h1, h2⟩ := hx i hi
      obtain ⟨_, hlen, hcell⟩ := World.cells?_some h1
      obtain ⟨y0, y1, y2, n', _, _, g0, g1, g2⟩ := trod_struct3 Try.underlying152 h2
      match cs', hlen with
      | [v0, v1, v2], _ =>
        have c3 : Try.prog.cellsOf 3 = 1 := by kernel_rfl
        have c49 : Try.prog.cellsOf 49 = 1 := by kernel_rfl
        obtain ⟨x0, e0, _, _⟩ := DataW.trod_int Try.underlying3 g0
        obtain ⟨x1, e1, _, _⟩ := DataW.trod_int Try.underlying3 g1
        obtain ⟨x2, e2, _, w2⟩ := DataW.trod_int Try.underlying49 g2
        simp [c3, c49] at e0 e1 e2
        subst e0; subst e1; subst e2
        have k0 := hcell 0 (by omega)
        have k1 := hcell 1 (by omega)
        have k2 := hcell 2 (by omega)
        rw [add_add] at k0 k1 k2
        exact ⟨⟨x0, x1, x2⟩, by simpa using k0, by simpa using k1, by simpa using k2, u64_wf w2⟩
    haveI : Inhabited Ref.S152 := ⟨⟨0, 0, 0⟩⟩
    obtain ⟨q, hq⟩ := choose_lt each
    refine ⟨(List.range len).map q, by simp, ⟨by simp, ?_, fun _ => ⟨ad, rfl, fun j p hj => ?_⟩⟩, hl, hm, fun y hy => ?_⟩
    · unfold maxLen at hm; omega
    · have hjl : j < len := by have := (List.getElem?_eq_some_iff.1 hj).1; simpa using this
      obtain ⟨a1, a2, a3, _⟩ := hq j (by omega)
      have hp : q j = p := by
        rw [List.getElem?_map, List.getElem?_range hjl] at hj
        exact Option.some.inj hj
      subst hp
      refine ⟨_, rfl, Ref.k152_mk W (q j), fun i u hu => ?_⟩
      have hi : i < 3 := by have := (List.getElem?_eq_some_iff.1 hu).1; simpa using this
      show W.cell? (ad.add (j * 3 + i)) = _
      match i, hi with
      | 0, _ => obtain rfl : Value.int .i64 (q j).f0 = u := by simpa using hu
                exact a1
      | 1, _ => obtain rfl : Value.int .i64 (q j).f1 = u := by simpa using hu
                exact a2
      | 2, _ => obtain rfl : Value.int .u64 (q j).f2 = u := by simpa using hu
                exact a3
    · obtain ⟨i, hi, rfl⟩ := List.mem_map.1 hy
      have hil := List.mem_range.1 hi
      exact (hq i (by omega)).2.2.2
end Go.Proofs.Ytnldmhljggcnpaa
