/-
  Plain Lean: CRC-32 over lists of bytes; numbers as bytes.
-/
/-! CRC-32, plain -/
namespace Cantle
set_option linter.unusedSimpArgs false
set_option linter.unusedVariables false

/-- one bit of the register -/
def crcBit (v : Nat) : Nat := (v / 2) ^^^ (if v % 2 = 1 then 3988292384 else 0)
def crcBits : Nat → Nat → Nat
  | 0, v => v
  | n + 1, v => crcBits n (crcBit v)
/-- a byte -/
def crcByte (v : Nat) (x : Nat) : Nat := crcBits 8 (v ^^^ x)
def crcRun (v : Nat) (l : List UInt8) : Nat := l.foldl (fun v x => crcByte v x.toNat) v

theorem crcBit_lt {v : Nat} (h : v < 2 ^ 32) : crcBit v < 2 ^ 32 := by
  unfold crcBit
  apply Nat.xor_lt_two_pow
  · omega
  · split <;> decide
theorem crcBits_lt (n : Nat) : ∀ {v : Nat}, v < 2 ^ 32 → crcBits n v < 2 ^ 32 := by
  induction n with
  | zero => intro v h; exact h
  | succ n ih => intro v h; exact ih (crcBit_lt h)
theorem crcByte_lt {v x : Nat} (h : v < 2 ^ 32) (hx : x < 256) : crcByte v x < 2 ^ 32 :=
  crcBits_lt 8 (Nat.xor_lt_two_pow h (by omega))
theorem crcRun_lt (l : List UInt8) : ∀ {v : Nat}, v < 2 ^ 32 → crcRun v l < 2 ^ 32 := by
  induction l with
  | nil => intro v h; exact h
  | cons x l ih => intro v h; exact ih (crcByte_lt h x.toNat_lt)
theorem crcRun_append (v : Nat) (a b : List UInt8) : crcRun v (a ++ b) = crcRun (crcRun v a) b := by
  simp [crcRun, List.foldl_append]

theorem xor_div_two (a b : Nat) : (a ^^^ b) / 2 = (a / 2) ^^^ (b / 2) := by
  have := Nat.shiftRight_xor_distrib (a := a) (b := b) (i := 1)
  simpa [Nat.shiftRight_eq_div_pow] using this
theorem xor_mod_two (a b : Nat) : (a ^^^ b) % 2 = (a % 2) ^^^ (b % 2) := by
  have := Nat.xor_mod_two_pow (a := a) (b := b) (n := 1)
  simpa using this

theorem crcBit_xor (a b : Nat) : crcBit (a ^^^ b) = crcBit a ^^^ crcBit b := by
  unfold crcBit
  rw [xor_div_two, xor_mod_two]
  have ha : a % 2 = 0 ∨ a % 2 = 1 := by omega
  have hb : b % 2 = 0 ∨ b % 2 = 1 := by omega
  rcases ha with ha | ha <;> rcases hb with hb | hb <;> simp [ha, hb]
  · rw [Nat.xor_assoc]
  · ac_rfl
  · rw [show (a / 2 ^^^ 3988292384) ^^^ (b / 2 ^^^ 3988292384) = (a / 2 ^^^ b/2) ^^^ (3988292384 ^^^ 3988292384) from by ac_rfl]
    simp
theorem crcBits_xor (n : Nat) : ∀ a b : Nat, crcBits n (a ^^^ b) = crcBits n a ^^^ crcBits n b := by
  induction n with
  | zero => intro a b; rfl
  | succ n ih => intro a b; simp only [crcBits]; rw [crcBit_xor, ih]
theorem crcBits_add (m n : Nat) : ∀ v, crcBits (m + n) v = crcBits n (crcBits m v) := by
  induction m with
  | zero => intro v; simp [crcBits]
  | succ m ih => intro v; rw [show m + 1 + n = (m + n) + 1 from by omega]; simp only [crcBits]; exact ih _

/-- the top bit tells what was shifted out -/
theorem crcBit_top {v : Nat} (h : v < 2 ^ 32) : (crcBit v).testBit 31 = decide (v % 2 = 1) := by
  unfold crcBit
  rw [Nat.testBit_xor]
  have h1 : (v / 2).testBit 31 = false := Nat.testBit_lt_two_pow (by omega)
  rw [h1]
  split
  · rename_i hv; simp [hv]; decide
  · rename_i hv; simp [hv]
theorem crcBit_inj {a b : Nat} (ha : a < 2 ^ 32) (hb : b < 2 ^ 32) (h : crcBit a = crcBit b) : a = b := by
  have ht : decide (a % 2 = 1) = decide (b % 2 = 1) := by rw [← crcBit_top ha, ← crcBit_top hb, h]
  have hm : a % 2 = b % 2 := by
    by_cases h1 : a % 2 = 1 <;> by_cases h2 : b % 2 = 1 <;> simp [h1, h2] at ht <;> omega
  have hd : a / 2 = b / 2 := by
    unfold crcBit at h
    rw [hm] at h
    have h2 := congrArg (· ^^^ (if b % 2 = 1 then 3988292384 else 0)) h
    simpa [Nat.xor_assoc] using h2
  omega
theorem crcBits_inj (n : Nat) : ∀ {a b : Nat}, a < 2 ^ 32 → b < 2 ^ 32 → crcBits n a = crcBits n b → a = b := by
  induction n with
  | zero => intro a b _ _ h; exact h
  | succ n ih => intro a b ha hb h; exact crcBit_inj ha hb (ih (crcBit_lt ha) (crcBit_lt hb) h)

/-- the number of bytes, the lowest first -/
def le : List UInt8 → Nat
  | [] => 0
  | x :: l => x.toNat + 256 * le l
theorem le_lt (l : List UInt8) : le l < 256 ^ l.length := by
  induction l with
  | nil => simp [le]
  | cons x l ih => have := x.toNat_lt; simp only [le, List.length_cons, Nat.pow_succ]; omega
theorem le_append (a b : List UInt8) : le (a ++ b) = le a + 256 ^ a.length * le b := by
  induction a with
  | nil => simp [le]
  | cons x a ih => simp only [List.cons_append, le, ih, List.length_cons, Nat.pow_succ, Nat.mul_add, Nat.mul_comm, Nat.mul_left_comm]; omega
theorem le_inj : ∀ {a b : List UInt8}, a.length = b.length → le a = le b → a = b := by
  intro a
  induction a with
  | nil => intro b h _; cases b with
    | nil => rfl
    | cons => simp at h
  | cons x a ih => intro b h hl; cases b with
    | nil => simp at h
    | cons y b =>
      simp only [le] at hl
      have := x.toNat_lt; have := y.toNat_lt
      have hxy : x = y := UInt8.toNat_inj.1 (by omega)
      rw [hxy, ih (by simpa using h) (by omega)]

theorem crcBits_small (n : Nat) : ∀ x : Nat, crcBits n (x * 2 ^ n) = x := by
  induction n with
  | zero => intro x; simp [crcBits]
  | succ n ih =>
    intro x
    have e : crcBit (x * 2 ^ (n + 1)) = x * 2 ^ n := by
      have h2 : x * 2 ^ (n + 1) = 2 * (x * 2 ^ n) := by rw [Nat.pow_succ]; ac_rfl
      unfold crcBit
      rw [h2]
      simp
    simp only [crcBits]; rw [e, ih]
theorem xor_add_of_lt {a k x : Nat} (h : a < 2 ^ k) : a ^^^ (x * 2 ^ k) = a + 2 ^ k * x := by
  have := Nat.two_pow_add_eq_or_of_lt h x
  rw [Nat.add_comm, this, Nat.mul_comm x]
  apply Nat.eq_of_testBit_eq
  intro i
  rw [Nat.testBit_xor, Nat.testBit_or]
  by_cases hi : i < k
  · rw [Nat.testBit_two_pow_mul]; simp [Nat.not_le.2 hi]
  · rw [Nat.testBit_lt_two_pow (Nat.lt_of_lt_of_le h (Nat.pow_le_pow_right (by omega) (by omega)))]; simp
theorem crcRun_le (l : List UInt8) : ∀ v : Nat, crcRun v l = crcBits (8 * l.length) (v ^^^ le l) := by
  induction l with
  | nil => intro v; simp [crcRun, crcBits, le]
  | cons x l ih =>
    intro v
    show crcRun (crcByte v x.toNat) l = _
    rw [ih]
    have e : le (x :: l) = x.toNat ^^^ (le l * 2 ^ 8) := by rw [xor_add_of_lt (by have := x.toNat_lt; omega)]; rfl
    rw [e, List.length_cons, Nat.mul_add, Nat.add_comm (8 * l.length), crcBits_add]
    congr 1
    rw [show v ^^^ (x.toNat ^^^ le l * 2 ^ 8) = (v ^^^ x.toNat) ^^^ (le l * 2 ^ 8) from by ac_rfl, crcBits_xor, crcBits_small]
    rfl
theorem crcRun_inj (l : List UInt8) : ∀ {a b : Nat}, a < 2 ^ 32 → b < 2 ^ 32 → crcRun a l = crcRun b l → a = b := by
  intro a b ha hb h
  induction l generalizing a b with
  | nil => exact h
  | cons x l ih =>
    have hx := x.toNat_lt
    have := ih (crcByte_lt ha hx) (crcByte_lt hb hx) h
    have h2 := crcBits_inj 8 (Nat.xor_lt_two_pow ha (by omega : x.toNat < 2^32)) (Nat.xor_lt_two_pow hb (by omega)) this
    have h3 := congrArg (· ^^^ x.toNat) h2
    simpa [Nat.xor_assoc] using h3

/-- the sum of bytes -/
def crcSum (l : List UInt8) : Nat := crcRun 4294967295 l ^^^ 4294967295
theorem crcSum_lt (l : List UInt8) : crcSum l < 2 ^ 32 := Nat.xor_lt_two_pow (crcRun_lt l (by decide)) (by decide)
/-- bytes with their sum behind them leave a constant -/
theorem crcRun_sealed {a s : List UInt8} (hs : s.length = 4) : le s = crcSum a ↔ crcRun 4294967295 (a ++ s) = crcBits 32 4294967295 := by
  rw [crcRun_append, crcRun_le s, hs]
  have hr := crcRun_lt a (v := 4294967295) (by decide)
  have hl := le_lt s
  rw [hs] at hl
  constructor
  · intro h; rw [h]; unfold crcSum; rw [← Nat.xor_assoc]; simp
  · intro h
    have := crcBits_inj 32 (Nat.xor_lt_two_pow hr (by simpa using hl)) (by decide) h
    unfold crcSum
    have h3 := congrArg (crcRun 4294967295 a ^^^ ·) this
    simpa [← Nat.xor_assoc] using h3
/-- at most four bytes that stand together are turned: the sum tells it -/
theorem crc_burst {p w w' q : List UInt8} (hw : w.length = 4) (hw' : w'.length = 4)
    (h : crcRun 4294967295 (p ++ w ++ q) = crcRun 4294967295 (p ++ w' ++ q)) : w = w' := by
  rw [crcRun_append, crcRun_append, crcRun_append, crcRun_append] at h
  have hr := crcRun_lt p (v := 4294967295) (by decide)
  have h1 := crcRun_inj q (crcRun_lt w hr) (crcRun_lt w' hr) h
  rw [crcRun_le w, crcRun_le w', hw, hw'] at h1
  have hl := le_lt w; have hl' := le_lt w'
  rw [hw] at hl; rw [hw'] at hl'
  have h2 := crcBits_inj 32 (Nat.xor_lt_two_pow hr (by simpa using hl)) (Nat.xor_lt_two_pow hr (by simpa using hl')) h1
  have h3 := congrArg (crcRun 4294967295 p ^^^ ·) h2
  exact le_inj (hw.trans hw'.symm) (by simpa [← Nat.xor_assoc] using h3)
/-! ### numbers as bytes -/
/-- a number's n lowest bytes, the lowest first -/
def low : Nat → Nat → List UInt8
  | 0, _ => []
  | n + 1, v => UInt8.ofNat (v % 256) :: low n (v / 256)
theorem low_length (n : Nat) : ∀ v, (low n v).length = n := by
  induction n with
  | zero => intro v; rfl
  | succ n ih => intro v; simp [low, ih]
theorem ofNat_mod_toNat (v : Nat) : (UInt8.ofNat (v % 256)).toNat = v % 256 := by simp
theorem le_low (n : Nat) : ∀ v, le (low n v) = v % 256 ^ n := by
  induction n with
  | zero => intro v; simp [low, le, Nat.mod_one]
  | succ n ih =>
    intro v
    simp only [low, le, ih, ofNat_mod_toNat]
    rw [Nat.pow_succ, Nat.mul_comm (256 ^ n), Nat.mod_mul]
theorem low_le (l : List UInt8) : low l.length (le l) = l := by
  apply le_inj (low_length _ _)
  rw [le_low, Nat.mod_eq_of_lt (le_lt l)]
theorem low_get (n : Nat) : ∀ v i (h : i < (low n v).length), (low n v)[i] = UInt8.ofNat (v / 256 ^ i % 256) := by
  induction n with
  | zero => intro v i h; simp [low] at h
  | succ n ih =>
    intro v i h
    cases i with
    | zero => simp [low]
    | succ i =>
      simp only [low, List.getElem_cons_succ]
      rw [ih, Nat.div_div_eq_div_mul, Nat.pow_succ, Nat.mul_comm 256]
theorem le_take_succ (l : List UInt8) (k : Nat) (h : k < l.length) : le (l.take (k + 1)) = le (l.take k) + 256 ^ k * (l[k]).toNat := by
  rw [List.take_succ_eq_append_getElem h, le_append]
  simp [le, List.length_take, Nat.min_eq_left (Nat.le_of_lt h)]
theorem low_take (m n v : Nat) (h : m ≤ n) : (low n v).take m = low m v := by
  apply List.ext_getElem
  · simp [low_length, h]
  · intro i h1 h2
    rw [List.getElem_take, low_get, low_get]

end Cantle
