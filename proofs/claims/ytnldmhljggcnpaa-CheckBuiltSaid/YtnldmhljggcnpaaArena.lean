import Derived.Test.YtnldmhljggcnpaaBytes
import Derived.Test.YtnldmhljggcnpaaPlainA
namespace Go.Proofs.Ytnldmhljggcnpaa
set_option linter.unusedSimpArgs false
set_option linter.unusedVariables false
open Go.RowKit Cantle
set_option maxRecDepth 100000
set_option maxHeartbeats 1000000

/-- the n bytes from i on of an arena, as a slice of its row -/
def AtV (V v : Value) (len i n : Nat) : Prop := ∃ A c, v = .slice A n c ∧ n ≤ c ∧ c ≤ 9223372036854775807 ∧ (0 < n → ∃ g cap, V = .slice (some ⟨g, 0, none⟩) len cap ∧ A = some ⟨g, i, none⟩)
theorem Ar.form2 {w : World} {p : Nat} {V : Value} {s : ArS} (h : Ar w p V s) : (V = .slice none 0 0 ∧ s.b.length = 0) ∨ ∃ g cap, V = .slice (some ⟨g, 0, none⟩) s.b.length cap ∧ s.b.length ≤ cap ∧ cap ≤ 9223372036854775807 := by
  rcases h.hq.2 with ⟨e, e2⟩ | ⟨g, cap', cur, e, _, _, h1, h2, _⟩
  · exact .inl ⟨e, e2⟩
  · exact .inr ⟨g, cap', e, h1, maxLen_le h2⟩
theorem arena_at_ok {w : World} {p : Nat} {V : Value} {s : ArS} (h : Ar w p V s) (addr n : Nat) (h1 : s.base ≤ addr) (h2 : addr - s.base + n ≤ s.b.length) :
    Calls Try.prog 143 #[.pointer (some ⟨p, 0, none⟩), .int .u64 addr, .int .u64 n] w fun e w' => ∃ v, e = .returned (.tuple #[v, .nilIface]) ∧ AtV V v s.b.length (addr - s.base) n ∧ w = w' := by
  have hf := h.form2
  have c0 := h.c0
  have c2 := h.c2
  have hb := h.base_le
  have hl := h.len_le
  have hc := h.cap_le
  clear h
  obtain ⟨base, scap, b⟩ := s
  simp only at *
  generalize b.length = len at *
  clear b
  have i0 : ¬ ((addr : Int) < base) := by omega
  have i1 : ¬ ((len : Int) < (addr : Int) - base) := by omega
  have i2 : ¬ ((len : Int) - ((addr : Int) - base) < n) := by omega
  rcases hf with ⟨rfl, rfl⟩ | ⟨g, cap, rfl, hc1, hc2⟩
  · obtain rfl : addr = base := by omega
    obtain rfl : n = 0 := by omega
    clear i0 i1 i2
    go_enter Try.func143, Try.ntmps143
    go_wp2
    go_ret2
    exact ⟨_, rfl, ⟨none, 0, rfl, by omega, by omega, fun h => by omega⟩, rfl⟩
  · have hi : (((addr : Int) - base)).toNat = addr - base := by omega
    have hi2 : (((addr : Int) - base) + n).toNat = addr - base + n := by omega
    go_enter Try.func143, Try.ntmps143
    go_wp2
    all_goals
      go_ret2
      refine ⟨_, rfl, ⟨_, _, rfl, by omega, by omega, fun h => ⟨g, _, rfl, ?_⟩⟩, rfl⟩
      first | rfl | (rw [Nat.zero_add]) | (exfalso; omega)
theorem arena_at_bad {w : World} {p : Nat} {V : Value} {s : ArS} (h : Ar w p V s) (addr n : Nat) (ha : addr < 18446744073709551616) (hn : n < 18446744073709551616) (h1 : ¬ (s.base ≤ addr ∧ addr - s.base + n ≤ s.b.length)) :
    Calls Try.prog 143 #[.pointer (some ⟨p, 0, none⟩), .int .u64 addr, .int .u64 n] w fun e w' => e = .returned (.tuple #[.slice none 0 0, errV 2]) ∧ w = w' := by
  obtain ⟨A, cap, rfl, _⟩ := h.form
  have c0 := h.c0
  have c2 := h.c2
  have hb := h.base_le
  have hl := h.len_le
  have hc := h.cap_le
  clear h
  obtain ⟨base, scap, b⟩ := s
  simp only at *
  generalize b.length = len at *
  clear b
  by_cases g0 : (addr : Int) < base
  · clear h1
    go_enter Try.func143, Try.ntmps143
    go_wp2
    go_ret2
    exact ⟨rfl, rfl⟩
  · by_cases g1 : (len : Int) < (addr : Int) - base
    · clear h1
      go_enter Try.func143, Try.ntmps143
      go_wp2
      go_ret2
      exact ⟨rfl, rfl⟩
    · have g2 : (len : Int) - ((addr : Int) - base) < n := by omega
      clear h1
      go_enter Try.func143, Try.ntmps143
      go_wp2
      go_ret2
      exact ⟨rfl, rfl⟩

/-! ### bytes laid over bytes -/
theorem AtV.rd {w : World} {p : Nat} {V v : Value} {s : ArS} {i n : Nat} (h : Ar w p V s) (ha : AtV V v s.b.length i n) (hi : i + n ≤ s.b.length) : Rd w (fun k => V.ownBlock = some k) v n (bv ((s.b.drop i).take n)) := by
  obtain ⟨A, c, rfl, h1, h2, h3⟩ := ha
  refine ⟨A, c, rfl, h1, h2, fun hne => ?_⟩
  have hn : 0 < n := by
    rcases Nat.eq_zero_or_pos n with e | e
    · subst e; simp [bv] at hne
    · exact e
  obtain ⟨g, cap, rfl, rfl⟩ := h3 hn
  refine ⟨g, i, rfl, rfl, (h.hq.lt g rfl).2, fun j u hj => ?_⟩
  have := h.hq.cells (g := g) rfl (i + j) u ?_
  · rwa [addr_add, Nat.zero_add] at this
  · have hj' : j < n := by have := (List.getElem?_eq_some_iff.1 hj).1; rw [bv_length, List.length_take] at this; omega
    rw [bv, List.getElem?_map, List.getElem?_take, if_pos hj', List.getElem?_drop] at hj
    rw [bv, List.getElem?_map]; exact hj
def putAt (b : List UInt8) (i : Nat) (l : List UInt8) : List UInt8 := b.take i ++ l ++ b.drop (i + l.length)
theorem putAt_length {b : List UInt8} {i : Nat} {l : List UInt8} (h : i + l.length ≤ b.length) : (putAt b i l).length = b.length := by
  unfold putAt; simp; omega
theorem Ar.write {w : World} {p g cap : Nat} {s : ArS} {cur : Array Value} (h : Ar w p (.slice (some ⟨g, 0, none⟩) s.b.length cap) s) (hg : w.heap[g]? = some (.cells cur 5 (0, 0))) {i : Nat} {l : List UInt8} (hi : i + l.length ≤ s.b.length) :
    Ar (w.setRow g (cur.toList.take i ++ bv l ++ cur.toList.drop (i + (bv l).length)).toArray) p (.slice (some ⟨g, 0, none⟩) s.b.length cap) { s with b := putAt s.b i l } := by
  have hgp : g ≠ p := fun e => h.ne (by rw [← e]; rfl)
  obtain ⟨h0, hr⟩ := h.hq
  rcases hr with ⟨e, _⟩ | ⟨g', cap', cur', e, hb, hg', h1, h2, h3, h4⟩
  · cases e
  · cases e
    rw [hg] at hg'
    obtain rfl : cur = cur' := by cases hg'; rfl
    have hlen : (bv l).length = l.length := bv_length l
    have hcl : s.b.length ≤ cur.toList.length := by rw [Array.length_toList, h3]; omega
    obtain ⟨nw, hnw⟩ : ∃ nw : Array Value, nw = (cur.toList.take i ++ bv l ++ cur.toList.drop (i + (bv l).length)).toArray := ⟨_, rfl⟩
    rw [← hnw]
    have hgw : (w.setRow g nw).heap[g]? = some (.cells nw 5 (0, 0)) := by
      simp [World.setRow, Array.getElem?_modify, hg]
    have hpl := putAt_length hi
    have hsz : nw.size = cap * 1 := by rw [hnw]; simp [hlen]; rw [h3]; omega
    have htk : nw.toList.take (s.b.length * 1) = bv (putAt s.b i l) := by
      unfold putAt
      rw [bv_append, bv_append, hnw]
      have h4' : cur.toList.take s.b.length = bv s.b := by rw [Nat.mul_one] at h4; exact h4
      have e1 : bv (s.b.take i) = cur.toList.take i := by
        rw [bv, List.map_take]; show (bv s.b).take i = _
        rw [← h4', List.take_take, Nat.min_eq_left (by omega)]
      have e2 : bv (s.b.drop (i + l.length)) = (cur.toList.take s.b.length).drop (i + l.length) := by
        rw [bv, List.map_drop]; show (bv s.b).drop _ = _
        rw [← h4']
      rw [e1, e2, hlen, Nat.mul_one, List.append_assoc, List.append_assoc, List.take_append, List.take_append, List.length_take, hlen, Nat.min_eq_left (by omega)]
      rw [List.take_of_length_le (l := cur.toList.take i) (by rw [List.length_take]; omega), List.take_of_length_le (l := bv l) (by omega)]
      congr 2
      rw [List.drop_take]
      congr 1
      omega
    refine ⟨(setRow_other w g p _ (Ne.symm hgp)).trans h.hp, ⟨by simp [bv_length], .inr ⟨g, cap, nw, by rw [hpl], Nat.zero_le _, hgw, by rw [hpl]; exact h1, h2, hsz, by rw [hpl]; exact htk⟩⟩, h.ne, h.base_le, h.cap_le, by rw [hpl]; exact h.len_le⟩
/-- what a write to an arena leaves -/
structure Wrote (w w' : World) (p : Nat) (V : Value) (s' : ArS) : Prop where
  ar : Ar w' p V s'
  keep : Keep (fun k => V.ownBlock = some k) w w'
theorem copy_run {w : World} {p : Nat} {V v x : Value} {s : ArS} {i n : Nat} {l : List UInt8} (h : Ar w p V s) (ha : AtV V v s.b.length i n) (hi : i + n ≤ s.b.length) {F : Nat → Prop} (hx : Rd w F x n (bv l)) (hl : l.length = n) (ty : TypeId) :
    ∃ w', (Builtin.copy_ #[24, 24] ty #[v, x]).run Try.prog w = .ok (goInt n) w' ∧ Wrote w w' p V { s with b := putAt s.b i l } := by
  obtain ⟨A, c, rfl, h1, h2, h3⟩ := ha
  obtain ⟨B, c2, rfl, g1, g2, g3⟩ := hx
  have hsz : (Try.prog.info? 5).map (·.size) = some 1 := by kernel_rfl
  rcases Nat.eq_zero_or_pos n with e | e
  · subst e
    obtain rfl := List.eq_nil_of_length_eq_zero hl
    refine ⟨w, run_copy_none w 24 24 ty 5 A B 0 c 0 c2 Try.underlying24 hsz rfl, ?_, Keep.refl _ _⟩
    have : putAt s.b i [] = s.b := by simp [putAt]
    rw [this]; exact h
  · obtain ⟨g, cap, rfl, rfl⟩ := h3 e
    have hbn : bv l ≠ [] := by intro q; have := congrArg List.length q; rw [bv_length, List.length_nil] at this; omega
    obtain ⟨b, o, rfl, hF, hb, hc⟩ := g3 hbn
    obtain ⟨h0, hr⟩ := h.hq
    rcases hr with ⟨e, _⟩ | ⟨g', cap', cur, e, hb', hg', k1, k2, k3, k4⟩
    · cases e
    · cases e
      have hrun := run_copy_row (P := Try.prog) w 24 24 ty 5 g i n c ⟨b, o, none⟩ n c2 cur 5 (bv l) Try.underlying24 hsz hg' (by rw [bv_length, hl]; simp) (fun j u hu => by rw [addr_add]; exact hc j u hu) (by rw [bv_length, k3]; omega) (bv_one l)
      rw [bv_length l, hl] at hrun
      refine ⟨_, hrun, ?_, Keep.setRow w g _ rfl⟩
      have := h.write hg' (i := i) (l := l) (by omega)
      rw [bv_length, hl] at this
      exact this
theorem wpList_copy_run {P : Program} {w w' : World} {ops : Array Oper} {rest : List Oper} {o : Oper} {a : Act} {Q : Exit → Act → World → Prop} (hgd : o.guard = none) (d s : Operand) (dT sT : TypeId)
    (ho : o.op = .call { callee := .builtin .copy, args := #[d, s], argTypes := #[dT, sT] }) (vd vs : Value) (hd : a.eval d = vd) (hs : a.eval s = vs) {r : Value} (hrun : (Builtin.copy_ #[dT, sT] o.type #[vd, vs]).run P w = .ok r w')
    (h : wpList P ops Q rest (a.put o.dst r) w') : wpList P ops Q (o :: rest) a w := by
  refine wpList_plain hgd fun K hK => ?_
  unfold Oper.wp
  simp [execOp, ho, resolve, invoke, builtin, hd, hs, hrun, Result.andThen]
  exact hK _ _ h
end Go.Proofs.Ytnldmhljggcnpaa
