import Derived.Test.YtnldmhljggcnpaaCode
import Derived.WideKeyRuns
import Derived.MapKept
import Derived.Maps.OwnSet
namespace Go.Proofs.Ytnldmhljggcnpaa
set_option linter.unusedSimpArgs false
set_option linter.unusedVariables false
open Go.RowKit Cantle
set_option maxRecDepth 100000
set_option maxHeartbeats 1000000

/-! ### a map of places -/
def plV (p : Int × Int) : Value := .agg #[.int .i64 p.1, .int .i64 p.2]
theorem run_equalIn_place (d : Nat) (x y : Int × Int) (w : World) : (Op.equalIn (d + 2) 167 (plV x) (plV y)).run Try.prog w = .ok (decide (x = y)) w := by
  obtain ⟨a, b⟩ := x
  obtain ⟨a', b'⟩ := y
  have hi := Try.underlying3
  have e1 : ∀ p q : Int, (Op.equalIn (d + 1) 3 (.int .i64 p) (.int .i64 q)).run Try.prog w = .ok (p == q) w := fun p q => run_equalIn_int w d _ _ _ p q hi
  refine run_equalIn_fields Try.underlying167 (by kernel_rfl) ?_
  by_cases h1 : a = a' <;> by_cases h2 : b = b' <;> simp [Op.eqFields, part, e1, h1, h2]
theorem run_equal_place (x y : Int × Int) (w : World) : (Op.equal 167 (plV x) (plV y)).run Try.prog w = .ok (decide (x = y)) w := by
  have h := run_equalIn_place 9998 x y w
  simpa [Op.equal, Op.maxDepth] using h
/-- what is found of places -/
theorem run_findAsking_place (p : Int × Int) (w : World) : ∀ (ps : List (Int × Int)) (es : List MapEntry) (i : Nat), es.map (·.key) = ps.map plV → (∀ e ∈ es, e.val = .bool true) →
    (Instr.findAsking 167 (plV p) es i).run Try.prog w = .ok (if p ∈ ps then some (i + ps.idxOf p, .bool true) else none) w
  | [], es, i, h, _ => by
    obtain rfl : es = [] := by simpa using h
    simp [Instr.findAsking]
  | q :: ps, es, i, h, hv => by
    cases es with
    | nil => cases h
    | cons e es =>
      obtain ⟨h1, h2⟩ : e.key = plV q ∧ es.map (·.key) = ps.map plV := by simpa using h
      have ih := run_findAsking_place p w ps es (i + 1) h2 (fun e he => hv e (List.mem_cons_of_mem _ he))
      have hq := run_equal_place p q w
      have hve := hv e (List.mem_cons_self ..)
      unfold Instr.findAsking
      by_cases hpq : p = q
      · subst hpq
        simp [h1, hq, hve]
      · have e0 : (q :: ps).idxOf p = ps.idxOf p + 1 := by
          have : (q == p) = false := by simpa using Ne.symm hpq
          rw [List.idxOf_cons, this]; rfl
        simp [h1, hq, hpq, ih, e0]
        rw [show i + 1 + ps.idxOf p = i + (ps.idxOf p + 1) from by omega]
theorem run_findKey_place (p : Int × Int) (w : World) {ps : List (Int × Int)} {es : List MapEntry} (h : es.map (·.key) = ps.map plV) (hv : ∀ e ∈ es, e.val = .bool true) :
    (Instr.findKey 167 (plV p) es).run Try.prog w = .ok (if p ∈ ps then some (ps.idxOf p, .bool true) else none) w := by
  rw [run_findKey_eq (P := Try.prog) (w := w) (by rw [Try.underlying167]), run_findAsking_place p w ps es 0 h hv, Nat.zero_add]
theorem run_checkKey_place (em : Bool) (p : Int × Int) (w : World) : (Instr.checkKey em 10000 167 (plV p)).run Try.prog w = .ok () w := by
  have hi := Try.underlying3
  have hu := Try.underlying167
  have e1 : ∀ x : Int, (Instr.checkKey em 9999 3 (.int .i64 x)).run Try.prog w = .ok () w := fun x => by
    unfold Instr.checkKey
    simp [run_underlying hi]
  unfold Instr.checkKey
  simp [run_underlying hu, plV, part, e1]
/-- block b is a map that has just the places ps -/
def Mp (w : World) (b : Nat) (ps : List (Int × Int)) : Prop := ∃ es clock, w.heap[b]? = some (.map es clock) ∧ es.toList.map (·.key) = ps.map plV ∧ ∀ e ∈ es.toList, e.val = .bool true
theorem Mp.made (w : World) : Mp (w.alloc (.map #[] 0)) w.heap.size [] := ⟨#[], 0, heap_alloc_new w _, rfl, fun e he => by cases he⟩
theorem Mp.keep {S : Nat → Prop} {w w' : World} {b : Nat} {ps : List (Int × Int)} (h : Mp w b ps) (k : Keep S w w') (hs : ¬ S b) : Mp w' b ps := by
  obtain ⟨es, c, h1, h2⟩ := h
  exact ⟨es, c, k.heap hs h1, h2⟩
theorem Mp.lt {w : World} {b : Nat} {ps : List (Int × Int)} (h : Mp w b ps) : b < w.heap.size := by
  obtain ⟨es, c, h1, _⟩ := h
  exact lt_blk h1
theorem keep_setBlock {w : World} {b : Nat} {o : Obj} (w' : World) (h : w' = { w with heap := w.heap.setIfInBounds b o }) : Keep (fun i => i = b) w w' := by
  subst h
  exact ⟨rfl, rfl, rfl, by simp, fun i _ hn => by simp [Array.getElem?_setIfInBounds, Ne.symm hn]⟩
theorem run_get_m {w : World} {b : Nat} {es : Array MapEntry} {c : Nat} (h : w.heap[b]? = some (.map es c)) : (getObj b).run Try.prog w = .ok (.map es c) w := Go.MapKept.run_getObj_map h
theorem run_set_m {w : World} {b : Nat} {es : Array MapEntry} {c : Nat} (o : Obj) (h : w.heap[b]? = some (.map es c)) : (setObj b o).run Try.prog w = .ok () { w with heap := w.heap.setIfInBounds b o } := Go.MapKept.run_setObj_map o h
theorem Mp.look {w : World} {b : Nat} {ps : List (Int × Int)} (h : Mp w b ps) (p : Int × Int) : (Instr.lookup 162 (.map (some b)) (plV p) false).run Try.prog w = .ok (.bool (decide (p ∈ ps))) w := by
  obtain ⟨es, c, h1, h2, h3⟩ := h
  have hm := Try.underlying162
  have hg : (getObj b).run Try.prog w = .ok (.map es c) w := run_get_m h1
  have hf := run_findKey_place p w h2 h3
  have hc := fun em => run_checkKey_place em p w
  have hz : (zeroValue 4).run Try.prog w = .ok (.bool false) w := by kernel_rfl
  unfold Instr.lookup
  by_cases hp : p ∈ ps
  · rw [if_pos hp] at hf
    simp [run_underlying hm, hg, hc, hf, hp]
  · rw [if_neg hp] at hf
    simp [run_underlying hm, hg, hc, hf, hz, hp]
theorem Mp.update {w : World} {b : Nat} {ps : List (Int × Int)} (h : Mp w b ps) {p : Int × Int} (hp : p ∉ ps) :
    ∃ w', (Instr.mapUpdate 162 (.map (some b)) (plV p) (.bool true)).run Try.prog w = .ok () w' ∧ Mp w' b (ps ++ [p]) ∧ Keep (fun i => i = b) w w' := by
  obtain ⟨es, c, h1, h2, h3⟩ := h
  have hm := Try.underlying162
  have hg : (getObj b).run Try.prog w = .ok (.map es c) w := run_get_m h1
  have hf := run_findKey_place p w h2 h3
  rw [if_neg hp] at hf
  have hc := fun em => run_checkKey_place em p w
  have hs := run_set_m (.map (es.push { key := plV p, val := .bool true, born := c }) (c + 1)) h1
  refine ⟨{ w with heap := w.heap.setIfInBounds b (.map (es.push { key := plV p, val := .bool true, born := c }) (c + 1)) }, by unfold Instr.mapUpdate; simp [run_underlying hm, hg, hc, hf, hs], ⟨es.push { key := plV p, val := .bool true, born := c }, c + 1, ?_, ?_, ?_⟩, keep_setBlock _ rfl⟩
  · simp [Array.getElem?_setIfInBounds, lt_blk h1]
  · simp [h2]
  · intro e he
    simp at he
    rcases he with he | rfl
    · exact h3 e (by simpa using he)
    · rfl
theorem Mp.drop {w : World} {b : Nat} {ps : List (Int × Int)} (h : Mp w b ps) (p : Int × Int) (ty : TypeId) :
    ∃ w', (Builtin.delete_ #[162, 167] ty #[.map (some b), plV p]).run Try.prog w = .ok (.tuple #[]) w' ∧ Mp w' b (ps.erase p) ∧ Keep (fun i => i = b) w w' := by
  obtain ⟨es, c, h1, h2, h3⟩ := h
  have hm := Try.underlying162
  have hg : (getObj b).run Try.prog w = .ok (.map es c) w := run_get_m h1
  have hf := run_findKey_place p w h2 h3
  have hc := fun em => run_checkKey_place em p w
  by_cases hp : p ∈ ps
  · rw [if_pos hp] at hf
    have hs := run_set_m (.map (es.eraseIdxIfInBounds (ps.idxOf p)) c) h1
    refine ⟨{ w with heap := w.heap.setIfInBounds b (.map (es.eraseIdxIfInBounds (ps.idxOf p)) c) }, by unfold Builtin.delete_; simp [run_underlying hm, hg, hc, hf, hs], ⟨es.eraseIdxIfInBounds (ps.idxOf p), c, ?_, ?_, ?_⟩, keep_setBlock _ rfl⟩
    · simp [Array.getElem?_setIfInBounds, lt_blk h1]
    · rw [List.erase_eq_eraseIdx_of_idxOf rfl]
      have gen : ∀ {α β : Type} (f : α → β) (l : List α) (i : Nat), (l.eraseIdx i).map f = (l.map f).eraseIdx i := by
        intro α β f l
        induction l with
        | nil => intro i; rfl
        | cons x l ih => intro i; cases i with
          | zero => rfl
          | succ i => simp [ih]
      rw [gen, ← h2, ← gen]
      simp
    · intro e he
      refine h3 e ?_
      simp at he
      exact List.mem_of_mem_eraseIdx he
  · rw [if_neg hp] at hf
    have hs := run_set_m (.map es c) h1
    refine ⟨{ w with heap := w.heap.setIfInBounds b (.map es c) }, by unfold Builtin.delete_; simp [run_underlying hm, hg, hc, hf, hs], ⟨es, c, ?_, ?_, h3⟩, keep_setBlock _ rfl⟩
    · simp [Array.getElem?_setIfInBounds, lt_blk h1]
    · rw [List.erase_of_not_mem hp]; exact h2
theorem Mp.len {w : World} {b : Nat} {ps : List (Int × Int)} (h : Mp w b ps) (ty : TypeId) : (Builtin.len_ #[162] ty #[.map (some b)]).run Try.prog w = .ok (.int .i64 (ps.length : Int)) w := by
  obtain ⟨es, c, h1, h2, h3⟩ := h
  have hm := Try.underlying162
  have hg : (getObj b).run Try.prog w = .ok (.map es c) w := run_get_m h1
  have hl : es.size = ps.length := by
    have := congrArg List.length h2
    simpa using this
  unfold Builtin.len_
  simp [run_underlying hm, hg, hl, goInt]
theorem wp_mapUpdate_run {P : Program} {w w' : World} {o : Oper} {a : Act} {K : Act → World → Prop} {Q : Exit → Act → World → Prop} (m x v : Operand) (t : TypeId) (hop : o.op = Op.mapUpdate t m x v) (vm vx vv : Value)
    (hm : a.eval m = vm) (hx : a.eval x = vx) (hv : a.eval v = vv) (hr : (Instr.mapUpdate t vm vx vv).run P w = .ok () w') (h : K (a.put o.dst undef) w') : Oper.wp P o a w K Q := by
  unfold Oper.wp
  simp [execOp, hop, hm, hx, hv, hr, Result.andThen]
  exact h
theorem wpList_delete_run {P : Program} {w w' : World} {ops : Array Oper} {rest : List Oper} {o : Oper} {a : Act} {Q : Exit → Act → World → Prop} (hgd : o.guard = none) (m x : Operand) (t k : TypeId)
    (ho : o.op = .call { callee := .builtin .delete, args := #[m, x], argTypes := #[t, k] }) (vm vx : Value) (hm : a.eval m = vm) (hx : a.eval x = vx) {r : Value} (hrun : (Builtin.delete_ #[t, k] o.type #[vm, vx]).run P w = .ok r w')
    (h : wpList P ops Q rest (a.put o.dst r) w') : wpList P ops Q (o :: rest) a w := by
  refine wpList_plain hgd fun K hK => ?_
  unfold Oper.wp
  simp [execOp, ho, resolve, invoke, builtin, hm, hx, hrun, Result.andThen]
  exact hK _ _ h
end Go.Proofs.Ytnldmhljggcnpaa
