import Derived.Test.YtnldmhljggcnpaaArena2
namespace Go.Proofs.Ytnldmhljggcnpaa
set_option linter.unusedSimpArgs false
set_option linter.unusedVariables false
open Go.RowKit Cantle
set_option maxRecDepth 100000
set_option maxHeartbeats 1000000

/-- what a call that turns an arena leaves -/
structure Mut (w w' : World) (p : Nat) (V V' : Value) (s' : ArS) : Prop where
  ar : Ar w' p V' s'
  keep : Keep (Fp p V) w w'
  lies : ∀ i, Fp p V' i → Fp p V i ∨ w.heap.size ≤ i
theorem Wrote.mut {w w' : World} {p : Nat} {V : Value} {s' : ArS} (h : Wrote w w' p V s') : Mut w w' p V V s' := ⟨h.ar, h.keep.mono (fun i _ hi => .inr hi), fun i hi => .inl hi⟩
theorem Mut.refl {w : World} {p : Nat} {V : Value} {s : ArS} (h : Ar w p V s) : Mut w w p V V s := ⟨h, Keep.refl _ _, fun i hi => .inl hi⟩
theorem Mut.ofNo {w w' : World} {p : Nat} {V : Value} {s : ArS} (h : Ar w p V s) (k : Keep No w w') : Mut w w' p V V s := ⟨h.keepNo k, k.no, fun i hi => .inl hi⟩
theorem Mut.trans {w w1 w2 : World} {p : Nat} {V V1 V2 : Value} {s1 s2 : ArS} (h : Mut w w1 p V V1 s1) (k : Mut w1 w2 p V1 V2 s2) : Mut w w2 p V V2 s2 :=
  ⟨k.ar, h.keep.then k.keep (fun i hi hF => by
    rcases h.lies i hF with h1 | h1
    · exact h1
    · omega), fun i hi => by
    rcases k.lies i hi with h1 | h1
    · exact h.lies i h1
    · exact .inr (Nat.le_trans h.keep.size h1)⟩
theorem Mut.thenNo {w w1 w2 : World} {p : Nat} {V V1 : Value} {s1 : ArS} (h : Mut w w1 p V V1 s1) (k : Keep No w1 w2) : Mut w w2 p V V1 s1 := h.trans (Mut.ofNo h.ar k)
theorem Mut.before {w0 w w1 : World} {p : Nat} {V V1 : Value} {s1 : ArS} (k : Keep No w0 w) (h : Mut w w1 p V V1 s1) (h0 : ∀ i, Fp p V i → i < w0.heap.size ∨ True) : Mut w0 w1 p V V1 s1 :=
  ⟨h.ar, k.no.then h.keep (fun i _ hi => hi), fun i hi => (h.lies i hi).imp id (fun q => Nat.le_trans k.size q)⟩
/-! ### Grow -/
theorem bv_zeros (k : Nat) : bv (List.replicate k 0) = List.replicate k (.int .u8 0) := by simp [bv, byteV]
theorem zeroCells_u8 (k : Nat) : (Builtin.zeroCells (Value.cells (.int .u8 0)) k).toList = bv (List.replicate k 0) := by
  rw [bv_zeros]
  apply List.ext_getElem?
  intro j
  by_cases hj : j < k
  · simp [Builtin.zeroCells, hj, Value.cells, Nat.mod_one]
  · simp [Builtin.zeroCells, hj, Value.cells]
theorem append_zeros {w : World} {v : Value} {l : List UInt8} (ho : OwnB w v l) (k : Nat) (hm : l.length + k ≤ 1000000) (ty : TypeId) :
    ∃ v' w', (Builtin.append_ #[24, 3] ty #[v, .int .i64 (k : Int)]).run Try.prog w = .ok v' w' ∧ OwnB w' v' (l ++ List.replicate k 0) ∧ Keep (fun i => v.ownBlock = some i) w w' ∧ (∀ i, v'.ownBlock = some i → v.ownBlock = some i ∨ w.heap.size ≤ i) := by
  obtain ⟨i0, hi, hz0, hz1, hz2⟩ := info_parts info_u8
  have ht : Try.prog.underlying 24 = some (.slice 5) := Try.underlying24
  have htn : Try.prog.underlying 3 = some (.int .i64) := Try.underlying3
  have hw0 : IntKind.i64.wrap 0 = 0 := by decide
  have hll : (l ++ List.replicate k 0).length = l.length + k := by simp
  have fresh : ∀ old, (w.drew.alloc (.cells ((bv l).toArray ++ Builtin.zeroCells (Value.cells (.int .u8 0)) k ++ Builtin.zeroCells (Value.cells (.int .u8 0)) (grownCap w (l.length + k) old 5 - (l.length + k))) 5)).ownsRow 0 5 1
      (.slice (some ⟨w.heap.size, 0, none⟩) (l.length + k) (grownCap w (l.length + k) old 5)) (l.length + k) (bv (l ++ List.replicate k 0)) := by
    intro old
    have hge := grownCap_ge w (l.length + k) old 5
    have hcm : grownCap w (l.length + k) old 5 ≤ maxLen := grownCap_le_maxLen w (l.length + k) old 5 (by unfold maxLen; omega)
    have hsz : ∀ n, (Builtin.zeroCells (Value.cells (.int .u8 0)) n).size = n := fun n => by rw [← Array.length_toList, zeroCells_u8, bv_length, List.length_replicate]
    refine ⟨by rw [bv_length, hll, Nat.mul_one], .inr ⟨w.heap.size, _, _, rfl, Nat.zero_le _, heap_alloc_new w.drew _, hge, hcm, ?_, ?_⟩⟩
    · rw [Array.size_append, Array.size_append, hsz, hsz, List.size_toArray, bv_length]; omega
    · rw [Array.toList_append, Array.toList_append, zeroCells_u8, zeroCells_u8, List.toList_toArray, Nat.mul_one, bv_append]
      exact List.take_left' (by simp [bv_length])
  rcases ho.2 with ⟨rfl, hx⟩ | ⟨g, cap, cur, rfl, hbg, hg, hnc, hcm, hcs, htake⟩
  · have hl0 : l = [] := List.eq_nil_of_length_eq_zero hx
    subst hl0
    rcases Nat.eq_zero_or_pos k with e | e
    · subst e
      refine ⟨.slice none 0 0, w, ?_, by simpa using OwnB.nil w, Keep.refl _ _, fun i h => .inl h⟩
      simp [Builtin.append_, run_underlying ht, run_underlying htn, sizeOf, typeInfo, hi, asInt, asIntOf, hz1, hz2, hw0]
    · have hr := Lib.run_append_nil_zeros (P := Try.prog) w 24 3 ty 5 i0 (.int .u8 0) .i64 .i64 ht htn hi hz0 k e (by omega) (by omega) (by rw [hz2]; simp at hm; omega)
      have hf := fresh 0
      simp only [List.length_nil, Nat.zero_add, bv, List.map_nil, List.nil_append] at hf
      refine ⟨_, _, hr, ?_, Keep.drew _ _ |>.trans (Keep.alloc _ _ _), fun i h => ?_⟩
      · unfold OwnB
        simp only [List.nil_append, List.length_replicate]
        simpa [bv] using hf
      · have : w.heap.size = i := Option.some.inj h
        exact .inr (by omega)
  · by_cases hroom : l.length + k ≤ cap
    · have hr : (Builtin.append_ #[24, 3] ty #[.slice (some ⟨g, 0, none⟩) l.length cap, .int .i64 (k : Int)]).run Try.prog w = .ok (.slice (some ⟨g, 0, none⟩) (l.length + k) cap) (w.setRow g (cur.toList.take l.length ++ bv (List.replicate k 0) ++ cur.toList.drop (l.length + k)).toArray) := by
        have hst := run_storeCells_at Try.prog g 0 5 (bv (List.replicate k 0)) l.length cur w hg (by rw [bv_length, List.length_replicate, hcs]; omega) (bv_one _)
        have hw : IntKind.i64.wrap (k : Int) = k := by rw [IntKind.wrap_i64]; omega
        have hneg : ¬ ((k : Int) < 0) := by omega
        have h48i : ¬ (281474976710656 < (k : Int)) := by omega
        have hadd : ((⟨g, 0, none⟩ : Addr).add l.length) = ⟨g, l.length, none⟩ := by rw [addr_add, Nat.zero_add]
        have hst2 := run_storeCells_at Try.prog g l.length 5 (bv (List.replicate k 0)) 0 cur w hg (by rw [bv_length, List.length_replicate, hcs]; omega) (bv_one _)
        rw [bv_length, List.length_replicate, Nat.add_zero] at hst2
        rcases Nat.eq_zero_or_pos k with e | e
        · subst e
          have hs0 : w.setRow g (cur.toList.take l.length ++ bv (List.replicate 0 0) ++ cur.toList.drop (l.length + 0)).toArray = w := by
            simp only [List.replicate_zero, bv, List.map_nil, List.append_nil, Nat.add_zero, List.take_append_drop, Array.toArray_toList]
            exact setRow_self w g cur 5 (0, 0) hg
          rw [hs0]
          simp [Builtin.append_, run_underlying ht, run_underlying htn, sizeOf, typeInfo, hi, asInt, asIntOf, hnc, storeCells, hw0]
        · have hk0 : k ≠ 0 := by omega
          have hbz := bv_zeros k
          simp [Builtin.append_, run_underlying ht, run_underlying htn, sizeOf, typeInfo, zeroValue, hi, hz0, hz1, hz2, asInt, asIntOf, hw, hneg, h48i, hroom, hadd, hk0, hst2, zeroCells_u8]
      refine ⟨_, _, hr, ?_, Keep.setRow w g _ rfl, fun i h => .inl h⟩
      refine ⟨by rw [bv_length, hll, Nat.mul_one], .inr ⟨g, cap, _, by rw [hll], Nat.zero_le _, setRow_heap w g cur _ 5 _ hg, by rw [hll]; exact hroom, hcm, ?_, ?_⟩⟩
      · simp only [List.size_toArray, List.length_append, List.length_take, List.length_drop, bv_length, List.length_replicate, Array.length_toList, hcs]; omega
      · rw [Nat.mul_one] at htake
        rw [htake, hll, Nat.mul_one, bv_append]
        exact List.take_left' (by simp [bv_length])
    · have hold : (Builtin.firstCells i0.size l.length (.slice (some ⟨g, 0, none⟩) l.length cap)).run Try.prog w.drew = .ok (bv l).toArray w.drew := by
        have h1 : (loadCells ⟨g, 0, none⟩ (l.length * i0.size)).run Try.prog w.drew = .ok (bv l).toArray w.drew := by
          rw [hz1, Nat.mul_one]
          have := run_loadCells_list (P := Try.prog) w.drew ⟨g, 0, none⟩ (bv l) (fun j u hu => (ho.cells (g := g) rfl j u hu))
          rwa [bv_length] at this
        simpa [Builtin.firstCells] using h1
      have hr := Lib.run_append_grow_zeros (P := Try.prog) w 24 3 ty 5 i0 (.int .u8 0) .i64 .i64 ht htn hi hz0 (some ⟨g, 0, none⟩) l.length cap (bv l) hold k (by omega) (by omega) (by omega) (by omega) (by rw [hz2]; omega) (by
        rw [hz2]
        have := growslice_fits (need := l.length + k) (old := cap) (bytes := 1) (by omega) (by omega)
        exact this)
      have hf := fresh cap
      refine ⟨_, _, hr, ?_, Keep.drew _ _ |>.trans (Keep.alloc _ _ _), fun i h => ?_⟩
      · unfold OwnB
        rw [hll]; exact hf
      · have : w.heap.size = i := Option.some.inj h
        exact .inr (by omega)
end Go.Proofs.Ytnldmhljggcnpaa
