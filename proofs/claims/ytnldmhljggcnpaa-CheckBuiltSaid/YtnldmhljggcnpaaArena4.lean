import Derived.Test.YtnldmhljggcnpaaArena3
namespace Go.Proofs.Ytnldmhljggcnpaa
set_option linter.unusedSimpArgs false
set_option linter.unusedVariables false
open Go.RowKit Cantle
set_option maxRecDepth 100000
set_option maxHeartbeats 1000000

theorem OwnB.form {w : World} {v : Value} {l : List UInt8} (h : OwnB w v l) : ∃ A c, v = .slice A l.length c ∧ l.length ≤ c := by
  rcases h.2 with ⟨rfl, h0⟩ | ⟨g, cap, cur, rfl, _, _, h1, _⟩
  · exact ⟨none, 0, by rw [h0], by omega⟩
  · exact ⟨_, _, rfl, h1⟩
theorem Ar.setV {w w1 : World} {p : Nat} {V V' : Value} {s : ArS} {b' : List UInt8} (h : Ar w p V s) (k : Keep (fun i => V.ownBlock = some i) w w1) (ho : OwnB w1 V' b') (hl : ∀ i, V'.ownBlock = some i → V.ownBlock = some i ∨ w.heap.size ≤ i) (hb : b'.length ≤ s.cap) :
    Mut w (w1.setCell ⟨p, 2, none⟩ V') p V V' { s with b := b' } := by
  have hp1 : w1.heap[p]? = some (.cells #[.int .u64 (s.base : Int), .int .i64 (s.cap : Int), V] 188 (0, 0)) := k.heap h.ne h.hp
  have hne : ∀ i, V'.ownBlock = some i → i ≠ p := fun i hi e => by
    subst e
    rcases hl i hi with q | q
    · exact h.ne q
    · have := lt_blk h.hp; omega
  refine ⟨⟨?_, ?_, fun q => hne p q rfl, h.base_le, h.cap_le, hb⟩, ?_, fun i hi => ?_⟩
  · rw [setCell_blk hp1]; rfl
  · exact ho.keep (Keep.setCell (S := fun i => i = p) w1 ⟨p, 2, none⟩ V' rfl) (fun i hi e => hne i hi e)
  · exact (k.mono fun i _ hi => .inr hi).trans (Keep.setCell w1 ⟨p, 2, none⟩ V' (.inl rfl))
  · rcases hi with rfl | hi
    · exact .inl (.inl rfl)
    · exact (hl i hi).imp .inr id
theorem arena_Grow_ok {w : World} {p : Nat} {V : Value} {s : ArS} (h : Ar w p V s) (n : Nat) (hn : s.b.length + n ≤ s.cap) :
    Calls Try.prog 104 #[.pointer (some ⟨p, 0, none⟩), .int .i64 n] w fun e w' => e = .returned .nilIface ∧ ∃ V', Mut w w' p V V' { s with b := s.b ++ List.replicate n 0 } := by
  have hcl := h.cap_le
  have hll := h.len_le
  have hz : (s.b ++ List.replicate n 0).length = s.b.length + n := by simp
  have HA : Hid (∀ wx : World, Keep No w wx → ∃ A' c' w', (Builtin.append_ #[24, 3] 24 #[V, .int .i64 (n : Int)]).run Try.prog wx = .ok (.slice A' (s.b.length + n) c') w' ∧ Hid (OwnB w' (.slice A' (s.b.length + n) c') (s.b ++ List.replicate n 0)) ∧ Keep (fun i => V.ownBlock = some i) wx w' ∧ (∀ i, (Value.slice A' (s.b.length + n) c').ownBlock = some i → V.ownBlock = some i ∨ wx.heap.size ≤ i)) := hid (by
    intro wx k
    obtain ⟨V', w', hrun, ho, hk, hl⟩ := append_zeros (w := wx) (v := V) (l := s.b) ((show OwnB w V s.b from h.hq).keepNo k) n (by omega) 24
    obtain ⟨A', c', rfl, _⟩ := ho.form
    rw [hz] at hrun ho hl
    exact ⟨A', c', w', hrun, ho, hk, hl⟩)
  have HS := hid (fun wx w1 V' b' (k : Keep No w wx) => Ar.setV (w := wx) (w1 := w1) (V' := V') (b' := b') (h.keepNo k))
  clear hz
  obtain ⟨A, cap, rfl, _⟩ := h.form
  have c1 := h.c1
  have c2 := h.c2
  have hlp := lt_blk h.hp
  have HP := hid h.hp
  have HNE := hid h.ne
  clear h
  generalize hL : s.b.length = len at *
  generalize hSC : s.cap = sc at *
  have HL := hid hL
  have HSC := hid hSC
  clear hL hSC
  have g1 : ¬ (n : Int) < 0 := by omega
  have g2 : ¬ (sc : Int) - len < n := by omega
  go_enter Try.func104, Try.ntmps104
  go_wp2
  go_quiet (fail)
  obtain ⟨A', c', w1, hrun, ho, hk, hl⟩ := HA.out (w.drewN nq) (Keep.drewN _ _ _)
  have hp1 := hk.heap (fun e => HNE.out e) (show (w.drewN nq).heap[p]? = _ from HP.out)
  have d2 := (cell_blk hp1 2).trans (show _ = some (Value.slice A len cap) from rfl)
  have f2 := frozen_blk hp1 2
  have HLI := hid hl
  clear hp1 hl
  go_wp2_with (at_builtin; refine Lib.wpList_append_run _ rfl (.tmp 27) (.tmp 28) 24 3 rfl _ _ rfl rfl _ _ hrun ?_)
  go_ret
  refine ⟨rfl, .slice A' (len + n) c', ?_⟩
  have := HS.out (w.drewN nq) w1 _ _ (Keep.drewN _ _ _) hk ho.out HLI.out (by rw [List.length_append, List.length_replicate, HL.out]; omega)
  exact ⟨this.ar, (Keep.drewN _ w nq).trans this.keep, this.lies⟩
theorem arena_Grow_neg {w : World} {p : Nat} {V : Value} {s : ArS} (n : Int) (hn : n < 0) :
    Calls Try.prog 104 #[.pointer (some ⟨p, 0, none⟩), .int .i64 n] w fun e w' => e = .returned (errV 1) ∧ w = w' := by
  go_enter Try.func104, Try.ntmps104
  go_wp2
  go_ret
  exact ⟨rfl, rfl⟩
theorem arena_Grow_no {w : World} {p : Nat} {V : Value} {s : ArS} (h : Ar w p V s) (n : Int) (hn : 0 ≤ n) (hn2 : (s.cap : Int) < s.b.length + n) (hn3 : n ≤ 1000000) :
    Calls Try.prog 104 #[.pointer (some ⟨p, 0, none⟩), .int .i64 n] w fun e w' => e = .returned (errV 5) ∧ Keep No w w' := by
  obtain ⟨A, cap, rfl, _⟩ := h.form
  have c1 := h.c1
  have c2 := h.c2
  have hl := h.len_le
  have hc := h.cap_le
  clear h
  generalize s.b.length = len at *
  generalize s.cap = sc at *
  have g1 : ¬ n < 0 := by omega
  have g2 : (sc : Int) - len < n := by omega
  go_enter Try.func104, Try.ntmps104
  go_wp2
  go_quiet (fail)
  go_wp2
  go_ret
  exact ⟨rfl, Keep.drewN _ _ _⟩

/-! ### Fill -/
theorem putAt_get {b : List UInt8} {i : Nat} {l : List UInt8} (h : i + l.length ≤ b.length) (j : Nat) : (putAt b i l)[j]? = if i ≤ j ∧ j < i + l.length then l[j - i]? else b[j]? := by
  have hm : (b.take i).length = i := by rw [List.length_take]; omega
  unfold putAt
  rw [List.append_assoc]
  by_cases h1 : j < i
  · rw [List.getElem?_append_left (by omega), List.getElem?_take, if_pos h1, if_neg (by omega)]
  · rw [List.getElem?_append_right (by omega), hm]
    by_cases h2 : j - i < l.length
    · rw [List.getElem?_append_left h2, if_pos (by omega)]
    · rw [List.getElem?_append_right (by omega), List.getElem?_drop, if_neg (by omega)]
      congr 1; omega
theorem putAt_next {b : List UInt8} {i k : Nat} {x : UInt8} (h : i + k < b.length) : (putAt b i (List.replicate k x)).set (i + k) x = putAt b i (List.replicate (k + 1) x) := by
  have hl1 : (List.replicate k x).length = k := List.length_replicate
  have hl2 : (List.replicate (k + 1) x).length = k + 1 := List.length_replicate
  apply List.ext_getElem?
  intro j
  rw [putAt_get (by omega), hl2]
  by_cases hj : j = i + k
  · subst hj
    rw [List.getElem?_set_self (by rw [putAt_length (by omega)]; omega), if_pos (by omega), List.getElem?_replicate, if_pos (by omega)]
  · rw [List.getElem?_set_ne (by omega), putAt_get (by omega), hl1]
    by_cases h1 : i ≤ j ∧ j < i + k
    · rw [if_pos h1, if_pos (by omega), List.getElem?_replicate, List.getElem?_replicate, if_pos (by omega), if_pos (by omega)]
    · rw [if_neg h1, if_neg (by omega)]
theorem Ar.setByte {w : World} {p g cap : Nat} {s : ArS} (h : Ar w p (.slice (some ⟨g, 0, none⟩) s.b.length cap) s) (j : Nat) (x : UInt8) (hj : j < s.b.length) :
    Wrote w (w.setCell ⟨g, j, none⟩ (.int .u8 (x.toNat : Int))) p (.slice (some ⟨g, 0, none⟩) s.b.length cap) { s with b := s.b.set j x } := by
  have hgp : g ≠ p := fun e => h.ne (by rw [← e]; rfl)
  have hst := (World.ownsRow.stored (w := w) h.hq j (.int .u8 (x.toNat : Int))).1
  have k : Keep (fun k => (Value.slice (some ⟨g, 0, none⟩) s.b.length cap).ownBlock = some k) w (w.setCell ⟨g, j, none⟩ (.int .u8 (x.toNat : Int))) := Keep.setCell w ⟨g, j, none⟩ _ rfl
  refine ⟨⟨k.heap (fun e => hgp (Option.some.inj e)) h.hp, ?_, h.ne, h.base_le, h.cap_le, by rw [List.length_set]; exact h.len_le⟩, k⟩
  have e : bv (s.b.set j x) = (bv s.b).set j (.int .u8 (x.toNat : Int)) := by rw [bv, List.map_set]; rfl
  simp only [List.length_set]
  rw [e]; exact hst
theorem arena_Fill_ok {w : World} {p : Nat} {V : Value} {s : ArS} (h : Ar w p V s) (addr n : Nat) (x : UInt8) (h1 : s.base ≤ addr) (h2 : addr - s.base + n ≤ s.b.length) :
    Calls Try.prog 68 #[.pointer (some ⟨p, 0, none⟩), .int .u64 addr, .int .u64 n, .int .u8 (x.toNat : Int)] w fun e w' => e = .returned .nilIface ∧ Wrote w w' p V { s with b := putAt s.b (addr - s.base) (List.replicate n x) } := by
  have hat := arena_at_ok h addr n h1 h2
  have hcl := h.cap_le
  have hll := h.len_le
  have HA := hid h
  have HV := hid (fun v => AtV.rd (v := v) (i := addr - s.base) (n := n) h)
  clear h
  generalize hi : addr - s.base = i at *
  have HI := hid hi
  clear hi
  go_enter Try.func68, Try.ntmps68
  go_wp2_with fail
  refine hat.mono ?_; rintro e w1 ⟨v, rfl, hv, rfl⟩
  clear hat
  obtain ⟨A, c, rfl, hc1, hc2, hc3⟩ := hv
  have HC := hid hc3
  clear hc3
  go_wp2_with fail
  go_loopw [21] (fun t wr => ∃ k : Nat, k ≤ n ∧ t = .int .i64 k ∧ Wrote w wr p V { s with b := putAt s.b i (List.replicate k x) }) (fun t _ => n - (intOf t).toNat)
  case atStart =>
    refine ⟨0, by omega, rfl, ?_⟩
    have : putAt s.b i (List.replicate 0 x) = s.b := by simp [putAt]
    rw [this]; exact ⟨HA.out, Keep.refl _ _⟩
  case round =>
    obtain ⟨k, hk, rfl, hW⟩ := hrel
    by_cases hlt : k < n
    · obtain ⟨g, cap, hVe, rfl⟩ := HC.out (by omega)
      have hpl : (putAt s.b i (List.replicate k x)).length = s.b.length := putAt_length (by simp; omega)
      have hA := hW.ar
      subst hVe
      have hA' : Ar wr p (.slice (some ⟨g, 0, none⟩) ({ s with b := putAt s.b i (List.replicate k x) } : ArS).b.length cap) { s with b := putAt s.b i (List.replicate k x) } := by
        show Ar wr p (.slice (some ⟨g, 0, none⟩) (putAt s.b i (List.replicate k x)).length cap) _
        rw [hpl]; exact hA
      have hset := hA'.setByte (i + k) x (by show i + k < (putAt s.b i (List.replicate k x)).length; omega)
      have hcell : ∃ u, wr.cell? ⟨g, i + k, none⟩ = some (.int .u8 u) := by
        have hb := bv_get? (putAt s.b i (List.replicate k x)) (i + k) (by omega)
        have := hA.hq.cells (g := g) rfl (i + k) _ hb
        rw [addr_add, Nat.zero_add] at this
        exact ⟨_, this⟩
      obtain ⟨u, hcell⟩ := hcell
      have hfz : wr.frozen? ⟨g, i + k, none⟩ = false := hA'.hq.frozenAt (i + k)
      have HSET := hid hset
      have HPL := hid hpl
      have HW := hid hW
      clear hset hpl hA hA' hW
      go_wp2
      refine ⟨⟨k + 1, by omega, rfl, ?_⟩, ?_⟩
      · have hs := HSET.out
        simp only [HPL.out] at hs
        rw [putAt_next (by omega)] at hs
        exact ⟨hs.ar, HW.out.keep.trans hs.keep⟩
      · simp [intOf]; omega
    · obtain rfl : k = n := by omega
      have HW := hid hW
      clear hW
      go_wp2
      go_ret
      exact ⟨rfl, HW.out⟩
end Go.Proofs.Ytnldmhljggcnpaa
