import Derived.Deep.RegionHeld3
/-! A region that draws its order, walked in one order: what only reads is taken as soon as it may be; what writes comes up alone. -/
namespace Go.Proofs.Ytnldmhljggcnpaa
set_option linter.unusedSimpArgs false
set_option linter.unusedVariables false

section
variable {P : Program} {ops : Array Oper} {Q : Exit → Act → World → Prop} {md : Region.Mode} {S S' : World → Prop}

theorem held_mono (h : ∀ x, S' x → S x) : ∀ (fuel : Nat) (listed : Array Bool) (a : Act) (w : World), wpAnyH P md ops Q S' fuel listed a w → wpAnyH P md ops Q S fuel listed a w
  | 0, _, _, _, hh => hh
  | fuel + 1, _, _, _, hh => ⟨hh.1, fun i hi => wpOp_mono (fun a' w' q => ⟨h _ q.1, held_mono h fuel _ a' w' q.2⟩) (hh.2 i hi)⟩

/-- Is this order one that serves for all: each number may be taken first (true), or comes up alone (false)? -/
def planB (md : Region.Mode) (ops : Array Oper) : List (Nat × Bool) → Array Bool → Bool
  | [], listed => (Region.ready md ops listed).isEmpty
  | (i, true) :: rest, listed => (Region.free md ops listed i && (Region.ready md ops listed).contains i) && planB md ops rest (listed.setIfInBounds i true)
  | (i, false) :: rest, listed => (Region.ready md ops listed == [i]) && planB md ops rest (listed.setIfInBounds i true)

/-- The walk in that order. -/
def wpPlan (P : Program) (ops : Array Oper) (Q : Exit → Act → World → Prop) : List (Nat × Bool) → (World → Prop) → Act → World → Prop
  | [], _, a, w => Q .normal a w
  | (i, true) :: rest, S, a, w => ∃ o v, ops[i]? = some o ∧ YieldsIf P ops S o v a ∧ wpPlan P ops Q rest S (a.put o.dst v) w
  | (i, false) :: rest, S, a, w => wpOp P ops Q i (fun a' w' => ∃ S' : World → Prop, (∀ x, S' x → S x) ∧ S' w' ∧ wpPlan P ops Q rest S' a' w') a w

theorem held_of_plan (hs : Region.noSelect ops = true) (hQ : ∀ c d v a w, Q (.panic c) (a.put d v) w → Q (.panic c) a w) :
    ∀ (plan : List (Nat × Bool)) (S : World → Prop) (listed : Array Bool) (a : Act) (w : World), planB md ops plan listed = true → S w → wpPlan P ops Q plan S a w →
      wpAnyH P md ops Q S plan.length listed a w
  | [], S, listed, a, w, hp, hS, h => ⟨by simpa [planB] using hp, h⟩
  | (i, true) :: rest, S, listed, a, w, hp, hS, h => by
    obtain ⟨o, v, ho, hy, hr⟩ := h
    simp only [planB, Bool.and_eq_true] at hp
    exact wpAnyH_take ho hs hp.1.1 hp.1.2 (fun c a w => hQ c _ _ a w) hy hS (held_of_plan hs hQ rest S _ _ w hp.2 hS hr)
  | (i, false) :: rest, S, listed, a, w, hp, hS, h => by
    simp only [planB, Bool.and_eq_true, beq_iff_eq] at hp
    refine wpAnyH_all hp.1 (by simp) (fun j hj => ?_)
    obtain rfl : j = i := by simpa using hj
    refine wpOp_mono ?_ h
    rintro a' w' ⟨S', h1, h2, h3⟩
    exact ⟨h1 _ h2, held_mono h1 _ _ _ _ (held_of_plan hs hQ rest S' _ a' w' hp.2 h2 h3)⟩

/-- The same, along the operations themselves, in the order of the text: a flag each. -/
def wpSeq (P : Program) (ops : Array Oper) (Q : Exit → Act → World → Prop) : List Oper → List Bool → (World → Prop) → Act → World → Prop
  | o :: os, true :: fs, S, a, w => ∃ v, YieldsIf P ops S o v a ∧ wpSeq P ops Q os fs S (a.put o.dst v) w
  | o :: os, false :: fs, S, a, w =>
    if Region.wanted o (yielded ops a.tmps) = true then Oper.wp P o a w (fun a' w' => ∃ S' : World → Prop, (∀ x, S' x → S x) ∧ S' w' ∧ wpSeq P ops Q os fs S' a' w') Q
    else wpSeq P ops Q os fs S (a.put o.dst undef) w
  | [], _, _, a, w => Q .normal a w
  | _ :: _, [], _, _, _ => False
theorem plan_of_seq (g : Nat → Oper) : ∀ (σ : List Nat) (fs : List Bool) (S : World → Prop) (a : Act) (w : World), (∀ i ∈ σ, ops[i]? = some (g i)) → σ.length = fs.length → S w → wpSeq P ops Q (σ.map g) fs S a w → wpPlan P ops Q (σ.zip fs) S a w
  | [], [], _, _, _, _, _, _, h => h
  | i :: σ, true :: fs, S, a, w, hk, hl, hS, h => by
    obtain ⟨v, hy, hr⟩ := h
    exact ⟨g i, v, hk i (List.mem_cons_self ..), hy, plan_of_seq g σ fs S _ w (fun k hk' => hk k (List.mem_cons_of_mem _ hk')) (by simpa using hl) hS hr⟩
  | i :: σ, false :: fs, S, a, w, hk, hl, hS, h => by
    have ho : ops[i]? = some (g i) := hk i (List.mem_cons_self ..)
    have hk' : ∀ k ∈ σ, ops[k]? = some (g k) := fun k hk' => hk k (List.mem_cons_of_mem _ hk')
    have hl' : σ.length = fs.length := by simpa using hl
    show wpOp P ops Q i _ a w
    unfold wpOp
    simp only [ho]
    rw [List.map_cons] at h
    unfold wpSeq at h
    split
    · rename_i hw
      rw [if_pos hw] at h
      refine .inl (Oper.wp_mono ?_ h)
      rintro a' w' ⟨S', h1, h2, h3⟩
      exact ⟨S', h1, h2, plan_of_seq g σ fs S' a' w' hk' hl' h2 h3⟩
    · rename_i hw
      rw [if_neg hw] at h
      exact ⟨S, fun _ h => h, hS, plan_of_seq g σ fs S _ w hk' hl' hS h⟩
theorem seq_nil {a : Act} {w : World} (h : Q .normal a w) : wpSeq P ops (NoPanic Q) [] [] S a w := h
theorem seq_take {os : List Oper} {fs : List Bool} {o : Oper} {v : Value} {a : Act} {w : World} (hw : Region.wanted o (yielded ops a.tmps) = true)
    (hy : ∀ w, S w → (execOp a.eval o).run P w = .ok (.value v) w) (h : wpSeq P ops Q os fs S (a.put o.dst v) w) : wpSeq P ops Q (o :: os) (true :: fs) S a w :=
  ⟨v, .inl ⟨hw, hy⟩, h⟩
theorem seq_skip {os : List Oper} {fs : List Bool} {o : Oper} {a : Act} {w : World} (hw : Region.wanted o (yielded ops a.tmps) = false)
    (h : wpSeq P ops Q os fs S (a.put o.dst undef) w) : wpSeq P ops Q (o :: os) (true :: fs) S a w :=
  ⟨undef, .inr ⟨hw, rfl⟩, h⟩
theorem seq_pass {os : List Oper} {fs : List Bool} {o : Oper} {a : Act} {w : World} (hw : Region.wanted o (yielded ops a.tmps) = false)
    (h : wpSeq P ops Q os fs S (a.put o.dst undef) w) : wpSeq P ops Q (o :: os) (false :: fs) S a w := by
  unfold wpSeq
  rw [if_neg (by rw [hw]; simp)]
  exact h
/-- an operation that is carried out: behind it another condition may stand, that says more -/
theorem seq_call {os : List Oper} {fs : List Bool} {o : Oper} {a : Act} {w : World} (hw : Region.wanted o (yielded ops a.tmps) = true)
    (h : ∀ K : Act → World → Prop, Shut (∀ (S' : World → Prop) a w, (∀ x, S' x → S x) → S' w → wpSeq P ops Q os fs S' a w → K a w) → Oper.wp P o a w K Q) : wpSeq P ops Q (o :: os) (false :: fs) S a w := by
  unfold wpSeq
  rw [if_pos hw]
  exact h _ (fun S' a w h1 h2 h3 => ⟨S', h1, h2, h3⟩)
theorem wp_region_seq {l : List Oper} (σ : List Nat) (fs : List Bool) (S : World → Prop) {id : Nat} {a : Act} {w : World} (hm : P.follows .mixedOrders = true) (hs : Region.noSelect l.toArray = true)
    (hi : (σ.all fun i => decide (i < l.length)) = true) (hl : (l.length == σ.length && σ.length == fs.length) = true) (hp : planB .any l.toArray (σ.zip fs) (Array.replicate l.toArray.size false) = true)
    (hS : S w.drew) (h : wpSeq P l.toArray (NoPanic Q) (σ.map fun i => (l[i]?).getD default) fs S a w.drew) : (Code.region id l.toArray true).wp P Q a w := by
  refine wp_region_noPanic (wp_region_held (S := S) hm ?_)
  simp only [Bool.and_eq_true, beq_iff_eq] at hl
  have h1 := plan_of_seq (ops := l.toArray) (fun i => (l[i]?).getD default) σ fs S a w.drew (fun i hi' => by
    have := List.all_eq_true.1 hi i hi'
    have hlt : i < l.length := by simpa using this
    simp [hlt]) hl.2 hS h
  have := held_of_plan (md := .any) hs (fun c d v a w h => h) (σ.zip fs) S _ a w.drew hp hS h1
  rw [List.length_zip, ← hl.2, Nat.min_self, ← hl.1] at this
  simpa using this
end
end Go.Proofs.Ytnldmhljggcnpaa
