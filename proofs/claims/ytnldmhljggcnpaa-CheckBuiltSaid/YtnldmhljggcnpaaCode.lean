import Derived.Test.YtnldmhljggcnpaaBlk
import Derived.Lib.IfaceEq
import Derived.Lib.IfaceNeq
import Derived.Laws.StructEq
namespace Go.Proofs.Ytnldmhljggcnpaa
set_option linter.unusedSimpArgs false
set_option linter.unusedVariables false
open Go.RowKit Cantle

/-! ### what the statements ask of errors, numbers, images -/
theorem run_equalIn_fields {P : Program} {d : Nat} {t : TypeId} {fs : Array Field} {xs ys : Array Value} {r : Result Bool} {w : World} (hu : P.underlying t = some (.struct fs)) (hp : P.stoodInHeld t = false) (h : (Op.eqFields d xs ys fs.toList).run P w = r) :
    (Op.equalIn (d + 1) t (.agg xs) (.agg ys)).run P w = r := by
  have hf : P.fieldsOf t = fs := by simp [Program.fieldsOf, hu]
  rw [run_equalIn_struct (P := P) w d t xs ys (by rw [hf]; exact hu) hp, hf]
  exact h
theorem run_equalIn_blk (d : Nat) (x y : Blk) (w : World) : (Op.equalIn (d + 2) 57 (blkV x) (blkV y)).run Try.prog w = .ok (decide (x = y)) w := by
  obtain ⟨a, b, c⟩ := x
  obtain ⟨a', b', c'⟩ := y
  have hi := Try.underlying3
  have hb := Try.underlying4
  have e1 : ∀ p q : Int, (Op.equalIn (d + 1) 3 (.int .i64 p) (.int .i64 q)).run Try.prog w = .ok (p == q) w := fun p q => run_equalIn_int w d _ _ _ p q hi
  have e2 : ∀ p q : Bool, (Op.equalIn (d + 1) 4 (.bool p) (.bool q)).run Try.prog w = .ok (p == q) w := fun p q => run_equalIn_bool' w d _ p q hb
  refine run_equalIn_fields Try.underlying57 (by kernel_rfl) ?_
  by_cases h1 : a = a' <;> by_cases h2 : b = b' <;> by_cases h3 : c = c' <;> simp [Op.eqFields, part, e1, e2, h1, h2, h3]
theorem run_eql_blk (x y : Blk) (w : World) : (binOp .eql 57 (blkV x) (blkV y)).run Try.prog w = .ok (.bool (decide (x = y))) w := by
  have h := run_equalIn_blk 9998 x y w
  unfold blkV at *
  simp only [binOp]
  simp [Op.equal, Op.maxDepth, h]
theorem run_neq_blk (x y : Blk) (w : World) : (binOp .neq 57 (blkV x) (blkV y)).run Try.prog w = .ok (.bool (decide (x ≠ y))) w := by
  have h := run_equalIn_blk 9998 x y w
  unfold blkV at *
  simp only [binOp]
  simp [Op.equal, Op.maxDepth, h]
theorem run_neq_str (a b : List UInt8) (w : World) : (binOp .neq 9 (.string (strOf a)) (.string (strOf b))).run Try.prog w = .ok (.bool (decide (a ≠ b))) w := by
  have hs := str_beq a b
  simp [go_sem, hs]
set_option maxRecDepth 100000
set_option maxHeartbeats 1000000
theorem errV_eq (c k : Nat) (h : 0 < c) (w : World) : (binOp .eql 31 (errV c) (.iface 136 (.int .i64 (k : Int)))).run Try.prog w = .ok (.bool (decide (c = k))) w := by
  obtain ⟨n, rfl⟩ : ∃ n, c = n + 1 := ⟨c - 1, by omega⟩
  refine (Lib.run_eql_iface_int w ((n + 1 : Nat) : Int) (k : Int) Try.underlying31 (by kernel_rfl) Try.underlying136).trans ?_
  congr 2
  rw [Bool.eq_iff_iff]; simp; omega
theorem law00_Code (c : Nat) (hc : c ≤ 10) (w : World) : Calls Try.prog 31 #[errV c] w fun e w' => e = .returned (.int .i64 (c : Int)) ∧ w = w' := by
  by_cases h0 : c = 0
  · subst h0
    simp only [errV]
    go_enter Try.func31, Try.ntmps31
    go_wp2
    go_ret
    exact ⟨rfl, rfl⟩
  · obtain ⟨n, rfl⟩ : ∃ n, c = n + 1 := ⟨c - 1, by omega⟩
    have hv : errV (n + 1) = .iface 136 (.int .i64 ((n + 1 : Nat) : Int)) := rfl
    rw [hv]
    clear hv
    generalize hz : ((n + 1 : Nat) : Int) = z
    have hz1 : z ≤ 10 := by omega
    have hEQ : ∀ k : Int, ∀ W, (binOp .eql 31 (.iface 136 (.int .i64 z)) (.iface 136 (.int .i64 k))).run Try.prog W = .ok (.bool (z == k)) W :=
      fun k W => Lib.run_eql_iface_int W z k Try.underlying31 (by kernel_rfl) Try.underlying136
    have hz0 : 1 ≤ z := by omega
    clear hz h0 hc
    go_enter Try.func31, Try.ntmps31
    go_wp2
    go_loopw [3] (fun i wr => ∃ k : Int, i = .int .i64 k ∧ 1 ≤ k ∧ k ≤ z ∧ wr = w) (fun i _ => (z - intOf i).toNat)
    case atStart => exact ⟨1, rfl, by omega, by omega, rfl⟩
    case round =>
      obtain ⟨k, rfl, hk1, hk2, rfl⟩ := hrel
      by_cases hck : z = k
      · subst hck
        have hE : ∀ W, (binOp .eql 31 (.iface 136 (.int .i64 z)) (.iface 136 (.int .i64 z))).run Try.prog W = .ok (.bool true) W := fun W => by rw [hEQ]; simp
        clear hEQ
        go_wp2
        go_ret
        exact ⟨rfl, rfl⟩
      · have hE : ∀ W, (binOp .eql 31 (.iface 136 (.int .i64 z)) (.iface 136 (.int .i64 k))).run Try.prog W = .ok (.bool false) W := fun W => by rw [hEQ]; simp [hck]
        clear hEQ
        go_wp2
        exact ⟨⟨k + 1, rfl, by omega, by omega, trivial⟩, by simp [intOf]; omega⟩
end Go.Proofs.Ytnldmhljggcnpaa
