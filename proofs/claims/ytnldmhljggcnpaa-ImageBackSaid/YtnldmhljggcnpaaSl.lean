import Derived.Test.YtnldmhljggcnpaaBlk
import Derived.Test.YtnldmhljggcnpaaImage6
namespace Go.Proofs.Ytnldmhljggcnpaa
set_option linter.unusedSimpArgs false
set_option linter.unusedVariables false
open Go.RowKit Cantle

/-! ### a slice of byte slices that is one's own -/
theorem info_sl : (Try.prog.info? 24).map (fun i => (i.zero, i.size, i.bytes)) = some (some (.slice none 0 0), 1, 24) := by kernel_rfl
/-- its cells are vs; each is read as the one of dl; none of their blocks is its own -/
def OwnD (w : World) (F : Nat → Prop) (v : Value) (dl : List (List UInt8)) : Prop :=
  ∃ vs, w.ownsRow 0 24 1 v dl.length vs ∧ ∀ (i : Nat) (x : Value) (l : List UInt8), vs[i]? = some x → dl[i]? = some l → Rd w (fun j => F j ∧ v.ownBlock ≠ some j) x l.length (bv l)
theorem OwnD.nil (w : World) (F : Nat → Prop) : OwnD w F (.slice none 0 0) [] := ⟨[], World.ownsRow_nil w 0 _ 1, fun i x l h => by simp at h⟩
theorem OwnD.keep {S F : Nat → Prop} {w w' : World} {v : Value} {dl : List (List UInt8)} (h : OwnD w F v dl) (k : Keep S w w') (hs : ∀ i, v.ownBlock = some i ∨ F i → ¬ S i) : OwnD w' F v dl := by
  obtain ⟨vs, h1, h2⟩ := h
  exact ⟨vs, k.owns (fun i hi => hs i (.inl hi)) h1, fun i x l a b => (h2 i x l a b).keep k (fun j hj => hs j (.inr hj.1))⟩
theorem OwnD.rd {w : World} {F : Nat → Prop} {v : Value} {dl : List (List UInt8)} (h : OwnD w F v dl) (hv : ∀ i, v.ownBlock = some i → F i) : RdD w F v dl := by
  obtain ⟨vs, h1, h2⟩ := h
  exact ⟨vs, (Rd.ofOwn h1).mono (fun i _ hi => hv i hi), by rw [h1.1, Nat.mul_one], fun i x l a b => (h2 i x l a b).mono (fun j _ hj => hj.1)⟩
theorem OwnD.lt {w : World} {F : Nat → Prop} {v : Value} {dl : List (List UInt8)} (h : OwnD w F v dl) : ∀ k, v.ownBlock = some k → k < w.heap.size := fun k hk => by
  obtain ⟨vs, h1, _⟩ := h
  exact (World.ownsRow.lt h1 k hk).2
theorem append_sl {w : World} {F : Nat → Prop} {v : Value} {dl : List (List UInt8)} (ho : OwnD w F v dl) {A : Option Addr} {n c : Nat} {l : List UInt8} (hx : Rd w (fun j => F j ∧ v.ownBlock ≠ some j) (.slice A n c) l.length (bv l)) (hn : n = l.length) (hm : dl.length ≤ 1000000) (ty : TypeId) :
    ∃ g cap w', (Builtin.append_ #[23, 23] ty #[v, .slice (some ⟨w.heap.size, 0, none⟩) 1 1]).run Try.prog (w.alloc (.cells #[.slice A n c] 24)) = .ok (.slice (some ⟨g, 0, none⟩) (dl.length + 1) cap) w' ∧
      OwnD w' F (.slice (some ⟨g, 0, none⟩) (dl.length + 1) cap) (dl ++ [l]) ∧ Keep (fun i => v.ownBlock = some i) w w' ∧ (v.ownBlock = some g ∨ w.heap.size < g) ∧ g < w'.heap.size := by
  obtain ⟨i0, hi, hz0, hz1, hz2⟩ := info_parts info_sl
  obtain ⟨vs, h1, h2⟩ := ho
  have ka := keep_alloc w (.cells #[.slice A n c] 24)
  have hxx : Rd (w.alloc (.cells #[.slice A n c] 24)) (fun _ => True) (.slice (some ⟨w.heap.size, 0, none⟩) 1 1) 1 [.slice A n c] :=
    ⟨_, 1, rfl, Nat.le_refl _, by omega, fun _ => ⟨w.heap.size, 0, rfl, trivial, by simp, fun j u hu => by
      rw [cell_blk (heap_alloc_new w _), Nat.zero_add]
      simpa using hu⟩⟩
  obtain ⟨v', w', hr, h⟩ := append_own (P := Try.prog) _ 0 23 ty 24 i0 (.slice none 0 0) 1 24 Try.underlying23 hi hz0 hz1 hz2 rfl (by decide) v _ _ (ka.owns (fun _ _ q => q) h1) _ _ _ _ hxx rfl
    (by intro u hu; simp at hu; subst hu; rfl) (by unfold maxLen; omega) (by omega) (Nat.zero_le _)
  obtain ⟨g, cap, rfl, _, hg⟩ := h.own.form (by omega)
  have hl : v.ownBlock = some g ∨ w.heap.size < g := by
    rcases h.lies g rfl with h | h
    · exact .inl h
    · right; simp at h; omega
  refine ⟨g, cap, w', hr, ⟨vs ++ [.slice A n c], ?_, ?_⟩, (ka.no).trans h.keep, hl, hg⟩
  · have := h.own
    rwa [List.length_append]
  · have hvl : vs.length = dl.length := by rw [h1.1, Nat.mul_one]
    have kk : Keep (fun i => v.ownBlock = some i) w w' := (ka.no).trans h.keep
    have up : ∀ {x : Value} {l : List UInt8}, Rd w (fun j => F j ∧ v.ownBlock ≠ some j) x l.length (bv l) → Rd w' (fun j => F j ∧ (Value.slice (some ⟨g, 0, none⟩) (dl.length + 1) cap).ownBlock ≠ some j) x l.length (bv l) := by
      intro x l hr
      obtain ⟨A', c', rfl, r1, r2, r3⟩ := hr
      refine ⟨A', c', rfl, r1, r2, fun hne => ?_⟩
      obtain ⟨b, o, rfl, ⟨hF, hne2⟩, hb, hc⟩ := r3 hne
      refine ⟨b, o, rfl, ⟨hF, fun e => ?_⟩, Nat.lt_of_lt_of_le hb kk.size, fun j u hu => kk.cell (fun e => hne2 e) (hc j u hu)⟩
      have : g = b := Option.some.inj e
      rcases hl with h | h
      · exact hne2 (by rw [h, this])
      · omega
    intro i x l' hxi hli
    rw [List.getElem?_append] at hxi
    split at hxi
    · rename_i hlt
      rw [List.getElem?_append_left (by omega)] at hli
      exact up (h2 i x l' hxi hli)
    · rename_i hge
      have hi0 : i - vs.length = 0 := by
        have := (List.getElem?_eq_some_iff.1 hxi).1
        simp at this; omega
      have : i = vs.length := by omega
      subst this
      rw [hi0] at hxi
      rw [hvl, List.getElem?_append_right (Nat.le_refl _), Nat.sub_self] at hli
      simp at hxi hli
      subst hxi; subst hli
      exact up hx
end Go.Proofs.Ytnldmhljggcnpaa
