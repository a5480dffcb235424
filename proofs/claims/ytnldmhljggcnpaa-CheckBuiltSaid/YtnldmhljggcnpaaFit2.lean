import Derived.Test.YtnldmhljggcnpaaFit
namespace Go.Proofs.Ytnldmhljggcnpaa
set_option linter.unusedSimpArgs false
set_option linter.unusedVariables false
open Go.RowKit Cantle
set_option maxRecDepth 100000
set_option maxHeartbeats 4000000

theorem putAll_take {l : List Blk} {b : List UInt8} {j : Nat} (hj : j < l.length) : putAll (l.take (j + 1)) b = if l[j].used then putAll (l.take j) b else (lput (putAll (l.take j) b) l[j].off).getD (putAll (l.take j) b) := by
  rw [List.take_succ_eq_append_getElem hj, putAll_append]
  simp only [putAll]
/-- what holds ahead of each round of 'fit.Rebuild' -/
def RbRel (w wr : World) (p : Nat) (V : Value) (s : ArS) (l : List Blk) (v : Value) (j : Nat) : Prop :=
  j ≤ l.length ∧ Mut w wr p V V { s with b := putAll (l.take j) (wiped s.b) } ∧ Rd wr (fun i => w.heap.size ≤ i) v l.length (bks l)
def rebuildR (w w' : World) (p : Nat) (V : Value) (s : ArS) (e : Ending) : Option (List UInt8) → Prop
  | none => e = .returned (errV 3) ∧ Keep No w w'
  | some b' => e = .returned .nilIface ∧ Mut w w' p V V { s with b := b' }
theorem fit_Rebuild {w : World} {p : Nat} {V : Value} {s : ArS} (h : Ar w p V s) :
    Calls Try.prog 42 #[.pointer (some ⟨p, 0, none⟩)] w fun e w' => rebuildR w w' p V s e (rebuild s.b) := by
  have hK := block_Walk h
  have hll := h.len_le
  have hcl := h.cap_le
  have hlt := h.lt
  have HAR := hid h
  cases hw : walk s.b with
  | none =>
    rw [hw] at hK
    have hr : rebuild s.b = none := by unfold rebuild; rw [hw]; rfl
    rw [hr]
    simp only [rebuildR, errV] at hK ⊢
    clear hw hr h
    go_enter Try.func42, Try.ntmps42
    go_wp2_with fail
    refine hK.mono ?_; rintro e w1 ⟨rfl, k1⟩
    go_wp2
    go_ret
    exact ⟨rfl, k1⟩
  | some l =>
    rw [hw] at hK
    have hr : rebuild s.b = some (putAll l (wiped s.b)) := by unfold rebuild; rw [hw]; rfl
    have h184 : 184 ≤ s.b.length := (walk_iff.1 hw).1
    rw [hr]
    have HCL := hid (fun wx (k : Keep No w wx) => list_Clear (h.keepNo k) h184)
    have HPI := hid (fun j (hj : j < l.length) (hu : (l[j]).used = false) => (putAll_inv (done := l.take j) (rest := l.drop j) hw (by omega) (List.take_append_drop _ _).symm).2.2.2 l[j] (l.drop (j + 1)) (List.drop_eq_getElem_cons hj) hu)
    have HPUT := hid (fun wx s' (hA : Ar wx p V s') o => list_Put hA o)
    simp only [rebuildR] at hK ⊢
    have HW := hid hw
    have hlen : l.length ≤ 1000000 := by
      have hp := tlp_pair (walk_iff.1 hw).2.1
      have := length_le_of_sub (l := l.map (·.off)) (m := (List.range 16384).map fun i : Nat => (i : Int)) (by
        rw [List.Nodup, List.pairwise_map]
        refine hp.imp_of_mem ?_
        intro x y hx _ hxy e
        have := (walk_mem hw hx).2.s1
        omega) (fun o ho => by
        obtain ⟨x, hx, rfl⟩ := List.mem_map.1 ho
        have h1 := (walk_mem hw hx).2.lo
        have h2 := (walk_mem hw hx).2.hi
        have h3 := (walk_mem hw hx).2.s1
        exact List.mem_map.2 ⟨x.off.toNat, List.mem_range.2 (by omega), by omega⟩)
      simp at this
      omega
    clear hw hr h
    go_enter Try.func42, Try.ntmps42
    go_wp2_with fail
    refine hK.mono ?_; rintro e w1 ⟨v, rfl, hN⟩
    obtain ⟨A, c, rfl, hc1, hc2⟩ := hN.own.form
    have HN := hid hN
    clear hK hN
    go_wp2_with fail
    refine (HCL.out _ HN.out.keep).mono ?_; rintro e w2 ⟨rfl, hW⟩
    have HR0 : Hid (RbRel w w2 p V s l (.slice A l.length c) 0) := hid ⟨Nat.zero_le _, by
      have := (Mut.ofNo HAR.out HN.out.keep).trans hW.mut
      simpa [putAll] using this, HN.out.rd.keep hW.keep (fun i hi hV => by have := hlt i (.inr hV); omega)⟩
    clear hW
    go_wp2_with fail
    go_loopw [24] (fun t wr => ∃ j : Nat, t = .int .i64 j ∧ RbRel w wr p V s l (.slice A l.length c) j) (fun t _ => l.length - (intOf t).toNat)
    case atStart => exact ⟨0, rfl, HR0.out⟩
    case round =>
      obtain ⟨j, rfl, q1, q2, q3⟩ := hrel
      have Q2 := hid q2
      have Q3 := hid q3
      clear q2 q3
      by_cases hj : j < l.length
      · obtain ⟨g, o, cap, he, hgF, hgl, hcc⟩ := Q3.out.blkAt (by omega)
        cases he
        obtain ⟨c0, c1, c2⟩ := hcc j hj
        have hpt := putAll_take (b := wiped s.b) hj
        have HPT := hid hpt
        have HPJ := hid (HPI.out j hj)
        clear hcc hpt
        generalize hlj : l[j] = x at *
        obtain ⟨xo, xs, xu⟩ := x
        have HLJ := hid hlj
        clear hlj
        simp only at *
        cases xu with
        | true =>
          have HN2 : Hid (RbRel w (wr.alloc (.cells #[.int .i64 xo, .int .i64 xs, .bool true] 57)) p V s l (.slice (some ⟨g, o, none⟩) l.length c) (j + 1)) := hid ⟨by omega, by
            have e := HPT.out
            simp only [if_true] at e
            rw [e]
            exact Q2.out.thenNo (keep_alloc _ _), Q3.out.keepNo (keep_alloc _ _)⟩
          go_wp2
          refine ⟨⟨j + 1, rfl, HN2.out⟩, ?_⟩
          simp [intOf]; omega
        | false =>
          obtain ⟨b', hb'⟩ := HPJ.out rfl
          have hP := HPUT.out _ _ (Q2.out.ar.keepNo (keep_alloc wr (.cells #[.int .i64 xo, .int .i64 xs, .bool false] 57))) xo
          simp only at hP
          rw [hb'] at hP
          simp only [TurnR] at hP
          have HB' := hid hb'
          clear hb'
          go_wp2_with fail
          refine hP.mono ?_; rintro e w4 ⟨rfl, hM⟩
          have HN2 : Hid (RbRel w w4 p V s l (.slice (some ⟨g, o, none⟩) l.length c) (j + 1)) := hid ⟨by omega, by
            have e := HPT.out
            simp only [Bool.false_eq_true, if_false, HB'.out, Option.getD_some] at e
            rw [e]
            exact (Q2.out.thenNo (keep_alloc _ _)).trans hM, (Q3.out.keepNo (keep_alloc _ _)).keep hM.keep (fun i hi q => by have := hlt i q; omega)⟩
          clear hM hP
          go_wp2
          refine ⟨⟨j + 1, rfl, HN2.out⟩, ?_⟩
          simp [intOf]; omega
      · go_wp2
        go_ret
        refine ⟨rfl, ?_⟩
        have := Q2.out
        rwa [List.take_of_length_le (by omega)] at this
end Go.Proofs.Ytnldmhljggcnpaa
