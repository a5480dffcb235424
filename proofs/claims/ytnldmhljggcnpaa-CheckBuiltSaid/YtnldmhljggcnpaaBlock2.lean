import Derived.Test.YtnldmhljggcnpaaBlock
import Derived.Test.YtnldmhljggcnpaaPlainB
namespace Go.Proofs.Ytnldmhljggcnpaa
set_option linter.unusedSimpArgs false
set_option linter.unusedVariables false
open Go.RowKit Cantle
set_option maxRecDepth 100000
set_option maxHeartbeats 2000000

/-- new blocks in a row of their own -/
structure NewK (w w' : World) (v : Value) (l : List Blk) : Prop where
  keep : Keep No w w'
  own : OwnK w' v l
  ge : ∀ k, v.ownBlock = some k → w.heap.size ≤ k
theorem NewK.rd {w w' : World} {v : Value} {l : List Blk} (h : NewK w w' v l) : Rd w' (fun i => w.heap.size ≤ i) v l.length (bks l) := h.own.rd.mono fun i _ hi => h.ge i hi
theorem Rd.form' {w : World} {F : Nat → Prop} {v : Value} {n : Nat} {cs : List Value} (h : Rd w F v n cs) : ∃ A c, v = .slice A n c ∧ n ≤ c ∧ c ≤ 9223372036854775807 := by
  obtain ⟨A, c, e, h1, h2, _⟩ := h; exact ⟨A, c, e, h1, h2⟩
theorem OwnK.form {w : World} {v : Value} {l : List Blk} (h : OwnK w v l) : ∃ A c, v = .slice A l.length c ∧ l.length ≤ c ∧ c ≤ 9223372036854775807 := h.rd.form'
theorem bx3 {w : World} {g : Nat} {x y z : Value} {e : TypeId} (h : w.heap[g]? = some (.cells #[x, y, z] e (0, 0))) :
    w.cell? ⟨g, 0, none⟩ = some x ∧ w.cell? ⟨g, 1, none⟩ = some y ∧ w.cell? ⟨g, 2, none⟩ = some z ∧ w.frozen? ⟨g, 0, none⟩ = false ∧ w.frozen? ⟨g, 1, none⟩ = false ∧ w.frozen? ⟨g, 2, none⟩ = false ∧ g < w.heap.size :=
  ⟨(cell_blk h 0).trans rfl, (cell_blk h 1).trans rfl, (cell_blk h 2).trans rfl, frozen_blk h 0, frozen_blk h 1, frozen_blk h 2, lt_blk h⟩
theorem walkGo_stop {b : List UInt8} {o : Int} {k : Nat} (h : (b.length : Int) ≤ o) : walkGo b k o = some [] := by
  cases k with
  | zero => rfl
  | succ k => unfold walkGo; rw [if_neg (by omega)]
theorem walkGo_next {b : List UInt8} {o : Int} {k : Nat} {x : Blk} (h : o < b.length) (hx : bget b o = some x) (hk : (b.length : Int) ≤ o + (k + 1 : Nat)) : walkGo b (k + 1) o = (walkGo b k (o + x.size)).map (x :: ·) := by
  conv => lhs; unfold walkGo
  rw [if_pos h, hx]
/-- what holds ahead of each round of 'block.Walk' -/
def WkRel (w wr : World) (b : List UInt8) (vo : Value) (o : Int) : Prop := ∃ (done : List Blk) (k : Nat), walk b = (walkGo b k o).map (done ++ ·) ∧ (b.length : Int) ≤ o + k ∧ 184 ≤ o ∧ o ≤ b.length ∧ done.length * 32 ≤ o ∧ NewK w wr vo done
theorem block_Walk {w : World} {p : Nat} {V : Value} {s : ArS} (h : Ar w p V s) :
    Calls Try.prog 59 #[.pointer (some ⟨p, 0, none⟩)] w fun e w' => match walk s.b with
      | none => e = .returned (.tuple #[.slice none 0 0, errV 3]) ∧ Keep No w w'
      | some l => ∃ v, e = .returned (.tuple #[v, .nilIface]) ∧ NewK w w' v l := by
  have hll := h.len_le
  have hcl := h.cap_le
  have HL := hid (fun wx (k : Keep No w wx) => arena_Len (h.keepNo k))
  have HG := hid (fun wx o (k : Keep No w wx) => block_Get (h.keepNo k) o)
  clear h
  generalize s.b = b at *
  generalize hlen : b.length = len at *
  have HLEN := hid hlen
  clear hlen
  have hL0 := HL.out w (Keep.refl _ _)
  by_cases h0 : (len : Int) < 184
  · have hw : walk b = none := by unfold walk; rw [HLEN.out, if_pos (by omega)]
    rw [hw]
    simp only
    clear hw
    go_enter Try.func59, Try.ntmps59
    go_wp2_with fail
    refine hL0.mono ?_; rintro e w1 ⟨rfl, rfl⟩
    go_wp2
    go_ret2
    exact ⟨rfl, Keep.refl _ _⟩
  · have HW0 : Hid (WkRel w w b (.slice none 0 0) 184) := hid ⟨[], len, by
      have : walk b = walkGo b len 184 := by unfold walk; rw [HLEN.out, if_neg (by omega)]
      rw [this]; simp, by rw [HLEN.out]; omega, by omega, by rw [HLEN.out]; omega, by simp, Keep.refl _ _, OwnK.nil w, fun k hk => by simp [Value.ownBlock] at hk⟩
    generalize hwk : walk b = WK
    have HWK := hid hwk
    clear hwk
    go_enter Try.func59, Try.ntmps59
    go_wp2_with fail
    refine hL0.mono ?_; rintro e w1 ⟨rfl, rfl⟩
    clear hL0
    go_wp2_with fail
    go_loopw [4, 5] (fun vo t wr => ∃ o : Int, t = .int .i64 o ∧ WkRel w wr b vo o) (fun _ t _ => len - (intOf t).toNat)
    case atStart => exact ⟨184, rfl, HW0.out⟩
    case round =>
      obtain ⟨o, rfl, hR⟩ := hrel
      obtain ⟨done, k, r1, r2, r3, r4, r5, r6⟩ := hR
      rw [HLEN.out] at r2 r4
      have hL1 := HL.out wr r6.keep
      have hG1 := HG.out wr o r6.keep
      have hdl : done.length ≤ 1000000 := by omega
      have R1 := hid r1
      have R6 := hid r6
      obtain ⟨Ao, co, rfl, hco1, hco2⟩ := r6.own.form
      clear r1 r6
      by_cases hlt : o < len
      · cases hg : bget b o with
        | none =>
          rw [hg] at hG1
          have hw : WK = none := by
            rw [← HWK.out, R1.out]
            cases k with
            | zero => exfalso; omega
            | succ k => unfold walkGo; rw [HLEN.out, if_pos hlt, hg]; rfl
          subst hw
          simp only [blkR, errV] at hG1
          clear hg
          go_wp2_with fail
          refine hL1.mono ?_; rintro e w1 ⟨rfl, rfl⟩
          go_wp2_with fail
          refine hG1.mono ?_; rintro e w1 ⟨rfl, k1⟩
          go_wp2
          go_ret2
          exact ⟨rfl, (R6.out.keep.thenNo k1).thenNo (keep_alloc _ _)⟩
        | some x =>
          rw [hg] at hG1
          have hst := bget_stands hg
          have hxo := (bget_some hg).1
          have s1 := hst.s1
          have s2 := hst.s2
          have s3 : o + x.size ≤ len := by have := hst.hi; rw [HLEN.out, hxo] at this; exact this
          have HX := hid hg
          clear hg hst hxo
          simp only [blkR, blkV] at hG1
          go_wp2_with fail
          refine hL1.mono ?_; rintro e w1 ⟨rfl, rfl⟩
          go_wp2_with fail
          refine hG1.mono ?_; rintro e w1 ⟨rfl, k1⟩
          clear hG1 hL1
          have KB := keep_alloc w1 (.cells #[.int .i64 x.off, .int .i64 x.size, .bool x.used] 57)
          have hown1 := (R6.out.own.keepNo k1).keepNo KB
          have hvlt : ∀ i, (Value.slice Ao done.length co).ownBlock = some i → i < w1.heap.size := fun i hi => by have := (R6.out.own).lt i hi; have := k1.size; omega
          obtain ⟨g, cap, w8, ha1, ha2, ha3, ha4, ha5⟩ := append_blk hown1 x hdl 22
          have hsz : (w1.alloc (.cells #[.int .i64 x.off, .int .i64 x.size, .bool x.used] 57)).heap.size = w1.heap.size + 1 := by simp
          rw [hsz] at ha1 ha4
          clear hsz
          have hbx := ha3.heap (fun e => by have := hvlt _ e; omega) (heap_alloc_new w1 (.cells #[.int .i64 x.off, .int .i64 x.size, .bool x.used] 57))
          obtain ⟨b0, b1, b2, f0, f1, f2, bl⟩ := bx3 hbx
          have HN : Hid (WkRel w w8 b (.slice (some ⟨g, 0, none⟩) (done.length + 1) cap) (o + x.size)) := hid (by
            cases k with
            | zero => exfalso; omega
            | succ k =>
              refine ⟨done ++ [x], k, ?_, by rw [HLEN.out]; omega, by omega, by rw [HLEN.out]; omega, by simp; omega, ?_, ha2, fun i hi => ?_⟩
              · rw [R1.out, walkGo_next (by rw [HLEN.out]; exact hlt) HX.out (by rw [HLEN.out]; omega), Option.map_map]
                congr 1
                funext r
                simp
              · exact ((R6.out.keep.thenNo k1).thenNo KB).then ha3 (fun i hi e => by have := R6.out.ge i e; omega)
              · have hgi : g = i := Option.some.inj hi
                subst hgi
                have hs := R6.out.keep.size
                have hs1 := k1.size
                rcases ha4 with q | q
                · exact R6.out.ge _ q
                · omega)
          clear KB hown1 hvlt ha2 ha3 ha4 ha5 hbx f0 f1 f2
          go_wp2_with (at_builtin; refine Lib.wpList_append_run _ rfl (.tmp 25) (.tmp 27) 22 22 rfl _ _ rfl rfl _ _ ha1 ?_)
          refine ⟨⟨o + x.size, rfl, HN.out⟩, ?_⟩
          simp [intOf]; omega
      · have hw : WK = some done := by
          rw [← HWK.out, R1.out, walkGo_stop (by rw [HLEN.out]; omega)]; simp
        subst hw
        go_wp2_with fail
        refine hL1.mono ?_; rintro e w1 ⟨rfl, rfl⟩
        go_wp2
        go_ret2
        exact ⟨_, rfl, R6.out⟩
end Go.Proofs.Ytnldmhljggcnpaa
