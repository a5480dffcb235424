import Derived.Test.YtnldmhljggcnpaaPart1
import Derived.WideKeyRuns
import Derived.MapKept
import Derived.Maps.OwnSet
import Derived.Deep.RegionHeld3
import Derived.Deep.DeepCutAuto
import Derived.ProofKit
import Derived.OpenShut
import Derived.ChangeSlices
import Derived.Deep.Slices
import Derived.Deep.Grids
/- Contracts and plain laws, joined out of this seat's own texts: PlainE, PlainN, Maps, Sched, Check, ReadG. -/
/-!
  Plain Lean: whether an arena is right: three ways to ask it that come to the same.
-/
namespace Cantle
set_option linter.unusedSimpArgs false
set_option linter.unusedVariables false
def apartGo : Bool → List Blk → Bool
  | _, [] => true
  | pf, x :: r => !(pf && !x.used) && apartGo (!x.used) r
def apartL (l : List Blk) : Bool := apartGo false l
theorem apartGo_append (pf : Bool) (l : List Blk) (x : Blk) : apartGo pf (l ++ [x]) = (apartGo pf l && !((match l.getLast? with | none => pf | some y => !y.used) && !x.used)) := by
  induction l generalizing pf with
  | nil => simp [apartGo]
  | cons y l ih =>
    rw [List.cons_append]
    unfold apartGo
    rw [ih, ← Bool.and_assoc]
    cases l with
    | nil => rfl
    | cons z l => rw [List.getLast?_cons_cons]; rfl
def offsOf (l : List Blk) (c : Nat) : List Int := (l.filter fun x => !x.used && cls x.size == (c : Int)).map (·.off)
def freeN (l : List Blk) : Nat := (l.filter fun x => !x.used).length
theorem mem_offsOf {l : List Blk} {c : Nat} {o : Int} : o ∈ offsOf l c ↔ ∃ x ∈ l, x.off = o ∧ x.used = false ∧ cls x.size = c := by
  rw [← mem_listsOf]; unfold listsOf offsOf; rw [List.mem_reverse]
structure Right (b : List UInt8) (l : List Blk) (L : Nat → List Int) : Prop where
  inv : Inv b l L
  apart : apartL l = true
  all : ∀ x ∈ l, x.used = false → x.off ∈ L (cls x.size).toNat
def IsRight (b : List UInt8) : Prop := ∃ l L, Right b l L
theorem walk_nodup {b : List UInt8} {l : List Blk} (h : walk b = some l) : (l.map (·.off)).Nodup := by
  have hp := tlp_pair (walk_iff.1 h).2.1
  rw [List.Nodup, List.pairwise_map]
  refine hp.imp_of_mem ?_
  intro x y hx _ hxy e
  have := (walk_mem h hx).2.s1
  omega
theorem offsOf_nodup {b : List UInt8} {l : List Blk} (h : walk b = some l) (c : Nat) : (offsOf l c).Nodup := by
  unfold offsOf
  exact List.Nodup.sublist (List.Sublist.map _ List.filter_sublist) (walk_nodup h)
def OkC (b : List UInt8) (l : List Blk) (c : Nat) : Prop := ∃ M, lall b c = some M ∧ M.Nodup ∧ ∀ o ∈ M, ∃ x ∈ l, x.off = o ∧ x.used = false
theorem lall_parts {b : List UInt8} {c : Nat} {M : List Int} (h : lall b c = some M) : 184 ≤ b.length ∧ (num b 0).testBit c = decide (num b (hd c) ≠ 0) ∧ dll b 0 (num b (hd c)) M ∧ M.length ≤ 1024 ∧ ∀ o ∈ M, member b o.toNat c = true := by
  unfold lall at h
  split at h
  · cases h
  · split at h
    · cases h
    · rename_i h1 h2
      have := chain_iff.1 h
      exact ⟨by omega, Classical.not_not.1 h2, this⟩
theorem OkC.mem {b : List UInt8} {l : List Blk} {c : Nat} (hw : walk b = some l) {M : List Int} (hM : lall b c = some M) (h : OkC b l c) : M.Nodup ∧ ∀ o ∈ M, ∃ x ∈ l, x.off = o ∧ x.used = false ∧ cls x.size = c := by
  obtain ⟨M', h1, h2, h3⟩ := h
  rw [hM] at h1
  obtain rfl := Option.some.inj h1
  refine ⟨h2, fun o ho => ?_⟩
  obtain ⟨x, hx, rfl, hu⟩ := h3 o ho
  obtain ⟨hg, hs⟩ := walk_mem hw hx
  have hm := (lall_parts hM).2.2.2.2 _ ho
  unfold member at hm
  have := hs.lo
  rw [show ((x.off.toNat : Nat) : Int) = x.off from by omega, hg] at hm
  simp at hm
  exact ⟨x, hx, rfl, hu, hm.2.2⟩
theorem sum_offs (l : List Blk) (hs : ∀ x ∈ l, isSize x.size = true) : ((List.range 22).map fun c => (offsOf l c).length).sum = freeN l := by
  induction l with
  | nil => rfl
  | cons x l ih =>
    have ih := ih fun y hy => hs y (List.mem_cons_of_mem _ hy)
    have hr := cls_range (hs x (List.mem_cons_self ..))
    have hc : ∀ c, (offsOf (x :: l) c).length = (offsOf l c).length + if x.used = false ∧ cls x.size = (c : Int) then 1 else 0 := by
      intro c
      unfold offsOf
      rw [List.filter_cons]
      by_cases h : x.used = false ∧ cls x.size = (c : Int)
      · rw [if_pos (by simp [h.1, h.2]), if_pos h]; simp
      · rw [if_neg (by intro h'; simp at h'; exact h h'), if_neg h]; rfl
    have hsum : ∀ (n : Nat), ((List.range n).map fun c => (offsOf (x :: l) c).length).sum = ((List.range n).map fun c => (offsOf l c).length).sum + if x.used = false ∧ cls x.size < (n : Int) then 1 else 0 := by
      intro n
      induction n with
      | zero => simp; omega
      | succ n ihn =>
        rw [List.range_succ, List.map_append, List.sum_append, List.map_append, List.sum_append, ihn]
        simp only [List.map_cons, List.map_nil, List.sum_cons, List.sum_nil, Nat.add_zero]
        rw [hc n]
        by_cases hu : x.used = false
        · simp only [hu, true_and]
          split <;> split <;> split <;> omega
        · simp [hu]
    rw [hsum 22, ih]
    unfold freeN
    rw [List.filter_cons]
    by_cases hu : x.used = false
    · rw [if_pos ⟨hu, by omega⟩, if_pos (by simp [hu])]; rfl
    · rw [if_neg (fun h => hu h.1), if_neg (by simpa using hu)]; rfl
theorem sum_le_sum {n : Nat} {f g : Nat → Nat} (h : ∀ c, c < n → f c ≤ g c) : ((List.range n).map f).sum ≤ ((List.range n).map g).sum ∧ (((List.range n).map f).sum = ((List.range n).map g).sum → ∀ c, c < n → f c = g c) := by
  induction n with
  | zero => exact ⟨Nat.le_refl _, fun _ c hc => by omega⟩
  | succ n ih =>
    obtain ⟨i1, i2⟩ := ih fun c hc => h c (by omega)
    rw [List.range_succ, List.map_append, List.sum_append, List.map_append, List.sum_append]
    simp only [List.map_cons, List.map_nil, List.sum_cons, List.sum_nil, Nat.add_zero]
    have := h n (by omega)
    refine ⟨by omega, fun e c hc => ?_⟩
    by_cases hcn : c = n
    · subst hcn; omega
    · exact i2 (by omega) c (by omega)
theorem sub_of_len {α : Type} [DecidableEq α] : ∀ {l m : List α}, l.Nodup → (∀ x ∈ l, x ∈ m) → m.length ≤ l.length → ∀ x ∈ m, x ∈ l := by
  intro l
  induction l with
  | nil => intro m _ _ hl x hx; have := List.length_pos_of_mem hx; simp at hl; subst hl; cases hx
  | cons a l ih =>
    intro m hn hs hl x hx
    have h1 := hs a (List.mem_cons_self ..)
    by_cases e : x = a
    · rw [e]; exact List.mem_cons_self ..
    · refine List.mem_cons_of_mem _ (ih (m := m.erase a) (List.nodup_cons.1 hn).2 (fun y hy => ?_) ?_ x ((List.mem_erase_of_ne e).2 hx))
      · have hne : y ≠ a := fun e => (List.nodup_cons.1 hn).1 (e ▸ hy)
        exact (List.mem_erase_of_ne hne).2 (hs y (List.mem_cons_of_mem _ hy))
      · rw [List.length_erase_of_mem h1]; simp at hl; omega
theorem isRight_count {b : List UInt8} {l : List Blk} (hw : walk b = some l) (hl : b.length ≤ 16384) :
    IsRight b ↔ num b 0 < 4194304 ∧ apartL l = true ∧ (∀ c, c < 22 → OkC b l c) ∧ ((List.range 22).map fun c => ((lall b c).getD []).length).sum = freeN l := by
  constructor
  · rintro ⟨l', L, h⟩
    have e := h.inv.wk
    rw [hw] at e
    obtain rfl := Option.some.inj e
    refine ⟨h.inv.top, h.apart, fun c hc => ⟨L c, h.inv.lall hc, h.inv.nd c hc, fun o ho => ?_⟩, ?_⟩
    · obtain ⟨x, hx, h1, h2, _⟩ := h.inv.mem c hc o ho
      exact ⟨x, hx, h1, h2⟩
    · rw [← sum_offs l fun x hx => (h.inv.st hx).size]
      refine Nat.le_antisymm (sum_le_sum fun c hc => ?_).1 (sum_le_sum fun c hc => ?_).1
      · rw [h.inv.lall hc]
        exact length_le_of_sub (h.inv.nd c hc) fun o ho => mem_offsOf.2 (h.inv.mem c hc o ho)
      · rw [h.inv.lall hc]
        exact length_le_of_sub (offsOf_nodup hw c) fun o ho => by
          obtain ⟨x, hx, rfl, hu, hcx⟩ := mem_offsOf.1 ho
          have := h.all x hx hu
          rwa [hcx, Int.toNat_natCast] at this
  · rintro ⟨h1, h2, h3, h4⟩
    have hM : ∀ c, c < 22 → lall b c = some ((lall b c).getD []) := fun c hc => by
      obtain ⟨M, hM, _⟩ := h3 c hc
      rw [hM]; rfl
    have hmem := fun c hc => OkC.mem hw (hM c hc) (h3 c hc)
    have hle : ∀ c, c < 22 → ((lall b c).getD []).length ≤ (offsOf l c).length := fun c hc => length_le_of_sub (hmem c hc).1 fun o ho => mem_offsOf.2 ((hmem c hc).2 o ho)
    have hs := (sum_le_sum hle).2 (by rw [h4, sum_offs l fun x hx => (walk_mem hw hx).2.size])
    refine ⟨l, fun c => (lall b c).getD [], ⟨hw, fun c hc => (lall_parts (hM c hc)).2.2.1, fun c hc => ?_, fun c hc => (hmem c hc).2, fun c hc => (hmem c hc).1, h1, hl⟩, h2, fun x hx hu => ?_⟩
    · have hp := lall_parts (hM c hc)
      rw [hp.2.1]
      have := dll_head hp.2.2.1
      simp [this]
    · have hr := cls_range (walk_mem hw hx).2.size
      refine sub_of_len (hmem (cls x.size).toNat (by omega)).1 (fun o ho => mem_offsOf.2 ((hmem (cls x.size).toNat (by omega)).2 o ho)) (by rw [hs _ (by omega)]; exact Nat.le_refl _) _ ?_
      exact mem_offsOf.2 ⟨x, hx, rfl, hu, by omega⟩
theorem isRight_walk {b : List UInt8} (h : IsRight b) : ∃ l, walk b = some l := by
  obtain ⟨l, L, h⟩ := h; exact ⟨l, h.inv.wk⟩
def places (l : List Blk) : List (Int × Int) := (l.filter fun x => !x.used).map fun x => (x.off, cls x.size)
def eatC (c : Int) : List Int → List (Int × Int) → Option (List (Int × Int))
  | [], left => some left
  | o :: r, left => if (o, c) ∈ left then eatC c r (left.erase (o, c)) else none
def eatGo (b : List UInt8) : Nat → Nat → List (Int × Int) → Option (List (Int × Int))
  | 0, _, left => some left
  | k + 1, c, left => match lall b c with
    | none => none
    | some M => match eatC c M left with
      | none => none
      | some left' => eatGo b k (c + 1) left'
theorem eatC_iff {c : Int} {M : List Int} {left left' : List (Int × Int)} (hn : left.Nodup) (h : eatC c M left = some left') : left'.Nodup ∧ M.Nodup ∧ (∀ o ∈ M, (o, c) ∈ left) ∧ (∀ p, p ∈ left' ↔ p ∈ left ∧ ¬ (p.2 = c ∧ p.1 ∈ M)) := by
  induction M generalizing left with
  | nil =>
    obtain rfl := Option.some.inj h
    exact ⟨hn, List.nodup_nil, (fun o ho => (List.not_mem_nil ho).elim), fun p => by simp⟩
  | cons o M ih =>
    unfold eatC at h
    split at h
    · rename_i hm
      obtain ⟨h1, h2, h3, h4⟩ := ih (hn.erase _) h
      have he : ∀ p, p ∈ left.erase (o, c) ↔ p ≠ (o, c) ∧ p ∈ left := fun p => hn.mem_erase_iff
      refine ⟨h1, List.nodup_cons.2 ⟨fun ho => ?_, h2⟩, fun o' ho' => ?_, fun p => ?_⟩
      · have := h3 o ho
        rw [he] at this
        exact this.1 rfl
      · rcases List.mem_cons.1 ho' with rfl | ho'
        · exact hm
        · exact ((he _).1 (h3 o' ho')).2
      · rw [h4, he]
        obtain ⟨p1, p2⟩ := p
        constructor
        · rintro ⟨⟨a1, a2⟩, a3⟩
          refine ⟨a2, fun ⟨b1, b2⟩ => ?_⟩
          rcases List.mem_cons.1 b2 with b2 | b2
          · simp only at b1 b2; subst b1; subst b2; exact a1 rfl
          · exact a3 ⟨b1, b2⟩
        · rintro ⟨a1, a2⟩
          refine ⟨⟨fun e => ?_, a1⟩, fun ⟨b1, b2⟩ => a2 ⟨b1, List.mem_cons_of_mem _ b2⟩⟩
          obtain ⟨rfl, rfl⟩ := Prod.mk.inj e
          exact a2 ⟨rfl, List.mem_cons_self ..⟩
    · cases h
theorem eatC_some {c : Int} {M : List Int} {left : List (Int × Int)} (hn : left.Nodup) (hM : M.Nodup) (h : ∀ o ∈ M, (o, c) ∈ left) : ∃ left', eatC c M left = some left' := by
  induction M generalizing left with
  | nil => exact ⟨left, rfl⟩
  | cons o M ih =>
    unfold eatC
    rw [if_pos (h o (List.mem_cons_self ..))]
    refine ih (hn.erase _) (List.nodup_cons.1 hM).2 fun o' ho' => ?_
    refine hn.mem_erase_iff.2 ⟨fun e => ?_, h o' (List.mem_cons_of_mem _ ho')⟩
    have := (Prod.mk.inj e).1
    subst this
    exact (List.nodup_cons.1 hM).1 ho'
theorem places_nodup {b : List UInt8} {l : List Blk} (h : walk b = some l) : (places l).Nodup := by
  unfold places
  have hp : ((l.filter fun x => !x.used).map (·.off)).Nodup := List.Nodup.sublist (List.Sublist.map _ List.filter_sublist) (walk_nodup h)
  rw [List.Nodup, List.pairwise_map] at hp ⊢
  exact hp.imp fun hne e => hne (Prod.mk.inj e).1
theorem mem_places {l : List Blk} {p : Int × Int} : p ∈ places l ↔ ∃ x ∈ l, x.off = p.1 ∧ x.used = false ∧ cls x.size = p.2 := by
  unfold places
  rw [List.mem_map]
  constructor
  · rintro ⟨x, hx, rfl⟩
    have := List.mem_filter.1 hx
    exact ⟨x, this.1, rfl, by simpa using this.2, rfl⟩
  · rintro ⟨x, hx, h1, h2, h3⟩
    exact ⟨x, List.mem_filter.2 ⟨hx, by simp [h2]⟩, by rw [h1, h3]⟩
theorem eatGo_some {b : List UInt8} {l : List Blk} : ∀ {k c : Nat} {left left' : List (Int × Int)}, left.Nodup → (∀ p ∈ left, p ∈ places l) → eatGo b k c left = some left' →
    (∀ d, c ≤ d → d < c + k → ∃ M, lall b d = some M ∧ M.Nodup ∧ ∀ o ∈ M, (o, (d : Int)) ∈ left) ∧ (∀ p, p ∈ left' ↔ p ∈ left ∧ ∀ d, c ≤ d → d < c + k → ¬ (p.2 = (d : Int) ∧ p.1 ∈ (lall b d).getD [])) := by
  intro k
  induction k with
  | zero =>
    intro c left left' _ _ h
    obtain rfl := Option.some.inj h
    exact ⟨fun d h1 h2 => by omega, fun p => ⟨fun hp => ⟨hp, fun d h1 h2 => by omega⟩, fun hp => hp.1⟩⟩
  | succ k ih =>
    intro c left left' hn hs h
    unfold eatGo at h
    cases hM : lall b c with
    | none => rw [hM] at h; cases h
    | some M =>
      rw [hM] at h
      simp only at h
      cases hE : eatC c M left with
      | none => rw [hE] at h; cases h
      | some left1 =>
        rw [hE] at h
        simp only at h
        obtain ⟨e1, e2, e3, e4⟩ := eatC_iff hn hE
        obtain ⟨i1, i2⟩ := ih e1 (fun p hp => hs p ((e4 p).1 hp).1) h
        refine ⟨fun d h1 h2 => ?_, fun p => ?_⟩
        · by_cases e : d = c
          · subst e; exact ⟨M, hM, e2, e3⟩
          · obtain ⟨M', j1, j2, j3⟩ := i1 d (by omega) (by omega)
            exact ⟨M', j1, j2, fun o ho => ((e4 _).1 (j3 o ho)).1⟩
        · rw [i2, e4]
          constructor
          · rintro ⟨⟨a1, a2⟩, a3⟩
            refine ⟨a1, fun d h1 h2 => ?_⟩
            by_cases e : d = c
            · subst e; rw [hM]; exact a2
            · exact a3 d (by omega) (by omega)
          · rintro ⟨a1, a2⟩
            refine ⟨⟨a1, ?_⟩, fun d h1 h2 => a2 d (by omega) (by omega)⟩
            have := a2 c (Nat.le_refl _) (by omega)
            rwa [hM] at this
theorem eatGo_ok {b : List UInt8} {k c : Nat} {left : List (Int × Int)} (hn : left.Nodup) (h : ∀ d, c ≤ d → d < c + k → ∃ M, lall b d = some M ∧ M.Nodup ∧ ∀ o ∈ M, (o, (d : Int)) ∈ left) : ∃ left', eatGo b k c left = some left' := by
  induction k generalizing c left with
  | zero => exact ⟨left, rfl⟩
  | succ k ih =>
    obtain ⟨M, hM, h2, h3⟩ := h c (Nat.le_refl _) (by omega)
    obtain ⟨left1, hE⟩ := eatC_some (c := c) hn h2 h3
    obtain ⟨e1, _, _, e4⟩ := eatC_iff hn hE
    unfold eatGo
    rw [hM]; simp only; rw [hE]; simp only
    refine ih e1 fun d h1 hd2 => ?_
    obtain ⟨M', j1, j2, j3⟩ := h d (by omega) (by omega)
    refine ⟨M', j1, j2, fun o ho => (e4 _).2 ⟨j3 o ho, fun hh => ?_⟩⟩
    have := hh.1
    simp only at this
    omega
theorem isRight_eat {b : List UInt8} {l : List Blk} (hw : walk b = some l) (hl : b.length ≤ 16384) :
    IsRight b ↔ apartL l = true ∧ num b 0 < 4194304 ∧ eatGo b 22 0 (places l) = some [] := by
  constructor
  · rintro ⟨l', L, h⟩
    have e := h.inv.wk
    rw [hw] at e
    obtain rfl := Option.some.inj e
    refine ⟨h.apart, h.inv.top, ?_⟩
    obtain ⟨left', hE⟩ := eatGo_ok (b := b) (k := 22) (c := 0) (places_nodup hw) fun d _ hd' => ⟨L d, h.inv.lall (by omega), h.inv.nd d (by omega), fun o ho => mem_places.2 (h.inv.mem d (by omega) o ho)⟩
    rw [hE]
    have h2 := (eatGo_some (l := l) (places_nodup hw) (fun p hp => hp) hE).2
    congr 1
    apply List.eq_nil_iff_forall_not_mem.2
    intro p hp
    obtain ⟨h3, h4⟩ := (h2 p).1 hp
    obtain ⟨x, hx, h5, h6, h7⟩ := mem_places.1 h3
    have hr := cls_range (h.inv.st hx).size
    refine h4 (cls x.size).toNat (Nat.zero_le _) (by omega) ⟨by omega, ?_⟩
    rw [h.inv.lall (by omega)]
    have := h.all x hx h6
    rw [← h5]; exact this
  · rintro ⟨h1, h2, h3⟩
    obtain ⟨i1, i2⟩ := eatGo_some (l := l) (places_nodup hw) (fun p hp => hp) h3
    refine (isRight_count hw hl).2 ⟨h2, h1, fun c hc => ?_, ?_⟩
    · obtain ⟨M, j1, j2, j3⟩ := i1 c (Nat.zero_le _) (by omega)
      refine ⟨M, j1, j2, fun o ho => ?_⟩
      obtain ⟨x, hx, k1, k2, _⟩ := mem_places.1 (j3 o ho)
      exact ⟨x, hx, k1, k2⟩
    · rw [← sum_offs l fun x hx => (walk_mem hw hx).2.size]
      refine Nat.le_antisymm (sum_le_sum fun c hc => ?_).1 (sum_le_sum fun c hc => ?_).1
      · obtain ⟨M, j1, j2, j3⟩ := i1 c (Nat.zero_le _) (by omega)
        rw [j1]
        exact length_le_of_sub j2 fun o ho => mem_offsOf.2 (mem_places.1 (j3 o ho))
      · obtain ⟨M, j1, j2, j3⟩ := i1 c (Nat.zero_le _) (by omega)
        rw [j1]
        refine length_le_of_sub (offsOf_nodup hw c) fun o ho => ?_
        refine Classical.byContradiction fun hno => ?_
        have : (o, (c : Int)) ∈ ([] : List (Int × Int)) := (i2 _).2 ⟨mem_places.2 (mem_offsOf.1 ho), fun d hd1 hd2 hh => ?_⟩
        · cases this
        · have : d = c := by have := hh.1; simp only at this; omega
          subst this
          rw [j1] at hh
          exact hno hh.2
theorem Right.unique {b : List UInt8} {l l' : List Blk} {L L' : Nat → List Int} (h : Inv b l L) (h' : Inv b l' L') : l = l' ∧ ∀ c, c < 22 → L c = L' c := by
  constructor
  · have := h.wk; rw [h'.wk] at this; exact (Option.some.inj this).symm
  · intro c hc
    have := h.lall hc; rw [h'.lall hc] at this; exact (Option.some.inj this).symm
end Cantle
/-!
  Plain Lean: whether an arena is right, as the program asks it, along its blocks.
-/
namespace Cantle
set_option linter.unusedSimpArgs false
set_option linter.unusedVariables false
def checkB (b : List UInt8) : Bool := match walk b with
  | none => false
  | some l => apartL l && (decide (num b 0 < 4194304) && decide (eatGo b 22 0 (places l) = some []))
theorem checkB_iff {b : List UInt8} (hl : b.length ≤ 16384) : checkB b = true ↔ IsRight b := by
  unfold checkB
  cases hw : walk b with
  | none =>
    simp only [Bool.false_eq_true, false_iff]
    intro h
    obtain ⟨l, h⟩ := isRight_walk h
    rw [hw] at h; cases h
  | some l => rw [isRight_eat hw hl]; simp
theorem places_append (l m : List Blk) : places (l ++ m) = places l ++ places m := by simp [places]
theorem take_next' {l : List Blk} {k : Nat} (hk : k < l.length) : l.take (k + 1) = l.take k ++ [l[k]] := (List.take_append_getElem hk).symm
theorem places_take {l : List Blk} {k : Nat} (hk : k < l.length) : places (l.take (k + 1)) = if l[k].used then places (l.take k) else places (l.take k) ++ [(l[k].off, cls l[k].size)] := by
  rw [take_next' hk, places_append]
  cases hu : l[k].used <;> simp [places, hu]
theorem place_new {l : List Blk} (hn : (l.map (·.off)).Nodup) {k : Nat} (hk : k < l.length) (c : Int) : (l[k].off, c) ∉ places (l.take k) := by
  intro h
  obtain ⟨x, hx, h1, _⟩ := mem_places.1 h
  have e : l = l.take k ++ l[k] :: l.drop (k + 1) := by rw [← List.drop_eq_getElem_cons hk, List.take_append_drop]
  rw [e, List.map_append, List.nodup_append] at hn
  exact hn.2.2 x.off (List.mem_map.2 ⟨x, hx, rfl⟩) l[k].off (List.mem_map.2 ⟨l[k], List.mem_cons_self .., rfl⟩) h1
theorem apart_zero {l : List Blk} (hk : 0 < l.length) : apartL (l.take 1) = true := by
  cases l with
  | nil => simp at hk
  | cons x l => simp [apartL, apartGo]
theorem apart_take {l : List Blk} {k : Nat} (hk : k + 1 < l.length) : apartL (l.take (k + 2)) = (apartL (l.take (k + 1)) && !(!(l[k]'(by omega)).used && !l[k + 1].used)) := by
  rw [take_next' hk]
  unfold apartL
  rw [apartGo_append, take_next' (show k < l.length by omega), List.getLast?_append, List.getLast?_singleton, Option.some_or]
theorem apart_no {l : List Blk} {k : Nat} (h : apartL (l.take k) = false) : apartL l = false := by
  have gen : ∀ (pf : Bool) (l m : List Blk), apartGo pf l = false → apartGo pf (l ++ m) = false := by
    intro pf l
    induction l generalizing pf with
    | nil => intro m h; simp [apartGo] at h
    | cons x l ih =>
      intro m h
      unfold apartGo at h
      rw [List.cons_append]
      unfold apartGo
      rw [Bool.and_eq_false_iff] at h ⊢
      rcases h with h | h
      · exact .inl h
      · exact .inr (ih _ m h)
  have := gen false (l.take k) (l.drop k) h
  rwa [List.take_append_drop] at this
theorem tlp_few {b : List UInt8} {l : List Blk} : ∀ {o : Int}, tlp b o l → o + 32 * (l.length : Int) ≤ ends o l := by
  induction l with
  | nil => intro o _; show o + 32 * ((0 : Nat) : Int) ≤ o; omega
  | cons x l ih =>
    rintro o ⟨h1, h2⟩
    obtain ⟨_, _, _, _, h3, _⟩ := bget_some h1
    have hs := (isSize_iff _).1 h3
    have := ih h2
    show o + 32 * ((l.length + 1 : Nat) : Int) ≤ ends (o + x.size) l
    omega
theorem walk_few {b : List UInt8} {l : List Blk} (h : walk b = some l) : l.length ≤ b.length := by
  obtain ⟨h1, h2, h3⟩ := walk_iff.1 h
  have := tlp_few h2
  omega
end Cantle
namespace Go.Proofs.Ytnldmhljggcnpaa
set_option linter.unusedSimpArgs false
set_option linter.unusedVariables false
open Go.RowKit Cantle
set_option maxRecDepth 100000
set_option maxHeartbeats 1000000
def plV (p : Int × Int) : Value := .agg #[.int .i64 p.1, .int .i64 p.2]
theorem run_equalIn_place (d : Nat) (x y : Int × Int) (w : World) : (Op.equalIn (d + 2) 167 (plV x) (plV y)).run Try.prog w = .ok (decide (x = y)) w := by
  obtain ⟨a, b⟩ := x
  obtain ⟨a', b'⟩ := y
  have hi := Try.underlying3
  have e1 : ∀ p q : Int, (Op.equalIn (d + 1) 3 (.int .i64 p) (.int .i64 q)).run Try.prog w = .ok (p == q) w := fun p q => run_equalIn_int w d _ _ _ p q hi
  refine run_equalIn_fields Try.underlying167 (by kernel_rfl) ?_
  by_cases h1 : a = a' <;> by_cases h2 : b = b' <;> simp [Op.eqFields, part, e1, h1, h2]
theorem run_equal_place (x y : Int × Int) (w : World) : (Op.equal 167 (plV x) (plV y)).run Try.prog w = .ok (decide (x = y)) w := by
  have h := run_equalIn_place 9998 x y w
  simpa [Op.equal, Op.maxDepth] using h
theorem run_findAsking_place (p : Int × Int) (w : World) : ∀ (ps : List (Int × Int)) (es : List MapEntry) (i : Nat), es.map (·.key) = ps.map plV → (∀ e ∈ es, e.val = .bool true) →
    (Instr.findAsking 167 (plV p) es i).run Try.prog w = .ok (if p ∈ ps then some (i + ps.idxOf p, .bool true) else none) w
  | [], es, i, h, _ => by
    obtain rfl : es = [] := by simpa using h
    simp [Instr.findAsking]
  | q :: ps, es, i, h, hv => by
    cases es with
    | nil => cases h
    | cons e es =>
      obtain ⟨h1, h2⟩ : e.key = plV q ∧ es.map (·.key) = ps.map plV := by simpa using h
      have ih := run_findAsking_place p w ps es (i + 1) h2 (fun e he => hv e (List.mem_cons_of_mem _ he))
      have hq := run_equal_place p q w
      have hve := hv e (List.mem_cons_self ..)
      unfold Instr.findAsking
      by_cases hpq : p = q
      · subst hpq
        simp [h1, hq, hve]
      · have e0 : (q :: ps).idxOf p = ps.idxOf p + 1 := by
          have : (q == p) = false := by simpa using Ne.symm hpq
          rw [List.idxOf_cons, this]; rfl
        simp [h1, hq, hpq, ih, e0]
        rw [show i + 1 + ps.idxOf p = i + (ps.idxOf p + 1) from by omega]
theorem run_findKey_place (p : Int × Int) (w : World) {ps : List (Int × Int)} {es : List MapEntry} (h : es.map (·.key) = ps.map plV) (hv : ∀ e ∈ es, e.val = .bool true) :
    (Instr.findKey 167 (plV p) es).run Try.prog w = .ok (if p ∈ ps then some (ps.idxOf p, .bool true) else none) w := by
  rw [run_findKey_eq (P := Try.prog) (w := w) (by rw [Try.underlying167]), run_findAsking_place p w ps es 0 h hv, Nat.zero_add]
theorem run_checkKey_place (em : Bool) (p : Int × Int) (w : World) : (Instr.checkKey em 10000 167 (plV p)).run Try.prog w = .ok () w := by
  have hi := Try.underlying3
  have hu := Try.underlying167
  have e1 : ∀ x : Int, (Instr.checkKey em 9999 3 (.int .i64 x)).run Try.prog w = .ok () w := fun x => by
    unfold Instr.checkKey
    simp [run_underlying hi]
  unfold Instr.checkKey
  simp [run_underlying hu, plV, part, e1]
def Mp (w : World) (b : Nat) (ps : List (Int × Int)) : Prop := ∃ es clock, w.heap[b]? = some (.map es clock) ∧ es.toList.map (·.key) = ps.map plV ∧ ∀ e ∈ es.toList, e.val = .bool true
theorem Mp.made (w : World) : Mp (w.alloc (.map #[] 0)) w.heap.size [] := ⟨#[], 0, heap_alloc_new w _, rfl, fun e he => by cases he⟩
theorem Mp.keep {S : Nat → Prop} {w w' : World} {b : Nat} {ps : List (Int × Int)} (h : Mp w b ps) (k : Keep S w w') (hs : ¬ S b) : Mp w' b ps := by
  obtain ⟨es, c, h1, h2⟩ := h
  exact ⟨es, c, k.heap hs h1, h2⟩
theorem Mp.lt {w : World} {b : Nat} {ps : List (Int × Int)} (h : Mp w b ps) : b < w.heap.size := by
  obtain ⟨es, c, h1, _⟩ := h
  exact lt_blk h1
theorem keep_setBlock {w : World} {b : Nat} {o : Obj} (w' : World) (h : w' = { w with heap := w.heap.setIfInBounds b o }) : Keep (fun i => i = b) w w' := by
  subst h
  exact ⟨rfl, rfl, rfl, by simp, fun i _ hn => by simp [Array.getElem?_setIfInBounds, Ne.symm hn]⟩
theorem run_get_m {w : World} {b : Nat} {es : Array MapEntry} {c : Nat} (h : w.heap[b]? = some (.map es c)) : (getObj b).run Try.prog w = .ok (.map es c) w := Go.MapKept.run_getObj_map h
theorem run_set_m {w : World} {b : Nat} {es : Array MapEntry} {c : Nat} (o : Obj) (h : w.heap[b]? = some (.map es c)) : (setObj b o).run Try.prog w = .ok () { w with heap := w.heap.setIfInBounds b o } := Go.MapKept.run_setObj_map o h
theorem Mp.look {w : World} {b : Nat} {ps : List (Int × Int)} (h : Mp w b ps) (p : Int × Int) : (Instr.lookup 162 (.map (some b)) (plV p) false).run Try.prog w = .ok (.bool (decide (p ∈ ps))) w := by
  obtain ⟨es, c, h1, h2, h3⟩ := h
  have hm := Try.underlying162
  have hg : (getObj b).run Try.prog w = .ok (.map es c) w := run_get_m h1
  have hf := run_findKey_place p w h2 h3
  have hc := fun em => run_checkKey_place em p w
  have hz : (zeroValue 4).run Try.prog w = .ok (.bool false) w := by kernel_rfl
  unfold Instr.lookup
  by_cases hp : p ∈ ps
  · rw [if_pos hp] at hf
    simp [run_underlying hm, hg, hc, hf, hp]
  · rw [if_neg hp] at hf
    simp [run_underlying hm, hg, hc, hf, hz, hp]
theorem Mp.update {w : World} {b : Nat} {ps : List (Int × Int)} (h : Mp w b ps) {p : Int × Int} (hp : p ∉ ps) :
    ∃ w', (Instr.mapUpdate 162 (.map (some b)) (plV p) (.bool true)).run Try.prog w = .ok () w' ∧ Mp w' b (ps ++ [p]) ∧ Keep (fun i => i = b) w w' := by
  obtain ⟨es, c, h1, h2, h3⟩ := h
  have hm := Try.underlying162
  have hg : (getObj b).run Try.prog w = .ok (.map es c) w := run_get_m h1
  have hf := run_findKey_place p w h2 h3
  rw [if_neg hp] at hf
  have hc := fun em => run_checkKey_place em p w
  have hs := run_set_m (.map (es.push { key := plV p, val := .bool true, born := c }) (c + 1)) h1
  refine ⟨{ w with heap := w.heap.setIfInBounds b (.map (es.push { key := plV p, val := .bool true, born := c }) (c + 1)) }, by unfold Instr.mapUpdate; simp [run_underlying hm, hg, hc, hf, hs], ⟨es.push { key := plV p, val := .bool true, born := c }, c + 1, ?_, ?_, ?_⟩, keep_setBlock _ rfl⟩
  · simp [Array.getElem?_setIfInBounds, lt_blk h1]
  · simp [h2]
  · intro e he
    simp at he
    rcases he with he | rfl
    · exact h3 e (by simpa using he)
    · rfl
theorem Mp.drop {w : World} {b : Nat} {ps : List (Int × Int)} (h : Mp w b ps) (p : Int × Int) (ty : TypeId) :
    ∃ w', (Builtin.delete_ #[162, 167] ty #[.map (some b), plV p]).run Try.prog w = .ok (.tuple #[]) w' ∧ Mp w' b (ps.erase p) ∧ Keep (fun i => i = b) w w' := by
  obtain ⟨es, c, h1, h2, h3⟩ := h
  have hm := Try.underlying162
  have hg : (getObj b).run Try.prog w = .ok (.map es c) w := run_get_m h1
  have hf := run_findKey_place p w h2 h3
  have hc := fun em => run_checkKey_place em p w
  by_cases hp : p ∈ ps
  · rw [if_pos hp] at hf
    have hs := run_set_m (.map (es.eraseIdxIfInBounds (ps.idxOf p)) c) h1
    refine ⟨{ w with heap := w.heap.setIfInBounds b (.map (es.eraseIdxIfInBounds (ps.idxOf p)) c) }, by unfold Builtin.delete_; simp [run_underlying hm, hg, hc, hf, hs], ⟨es.eraseIdxIfInBounds (ps.idxOf p), c, ?_, ?_, ?_⟩, keep_setBlock _ rfl⟩
    · simp [Array.getElem?_setIfInBounds, lt_blk h1]
    · rw [List.erase_eq_eraseIdx_of_idxOf rfl]
      have gen : ∀ {α β : Type} (f : α → β) (l : List α) (i : Nat), (l.eraseIdx i).map f = (l.map f).eraseIdx i := by
        intro α β f l
        induction l with
        | nil => intro i; rfl
        | cons x l ih => intro i; cases i with
          | zero => rfl
          | succ i => simp [ih]
      rw [gen, ← h2, ← gen]
      simp
    · intro e he
      refine h3 e ?_
      simp at he
      exact List.mem_of_mem_eraseIdx he
  · rw [if_neg hp] at hf
    have hs := run_set_m (.map es c) h1
    refine ⟨{ w with heap := w.heap.setIfInBounds b (.map es c) }, by unfold Builtin.delete_; simp [run_underlying hm, hg, hc, hf, hs], ⟨es, c, ?_, ?_, h3⟩, keep_setBlock _ rfl⟩
    · simp [Array.getElem?_setIfInBounds, lt_blk h1]
    · rw [List.erase_of_not_mem hp]; exact h2
theorem Mp.len {w : World} {b : Nat} {ps : List (Int × Int)} (h : Mp w b ps) (ty : TypeId) : (Builtin.len_ #[162] ty #[.map (some b)]).run Try.prog w = .ok (.int .i64 (ps.length : Int)) w := by
  obtain ⟨es, c, h1, h2, h3⟩ := h
  have hm := Try.underlying162
  have hg : (getObj b).run Try.prog w = .ok (.map es c) w := run_get_m h1
  have hl : es.size = ps.length := by
    have := congrArg List.length h2
    simpa using this
  unfold Builtin.len_
  simp [run_underlying hm, hg, hl, goInt]
theorem wp_mapUpdate_run {P : Program} {w w' : World} {o : Oper} {a : Act} {K : Act → World → Prop} {Q : Exit → Act → World → Prop} (m x v : Operand) (t : TypeId) (hop : o.op = Op.mapUpdate t m x v) (vm vx vv : Value)
    (hm : a.eval m = vm) (hx : a.eval x = vx) (hv : a.eval v = vv) (hr : (Instr.mapUpdate t vm vx vv).run P w = .ok () w') (h : K (a.put o.dst undef) w') : Oper.wp P o a w K Q := by
  unfold Oper.wp
  simp [execOp, hop, hm, hx, hv, hr, Result.andThen]
  exact h
theorem wpList_delete_run {P : Program} {w w' : World} {ops : Array Oper} {rest : List Oper} {o : Oper} {a : Act} {Q : Exit → Act → World → Prop} (hgd : o.guard = none) (m x : Operand) (t k : TypeId)
    (ho : o.op = .call { callee := .builtin .delete, args := #[m, x], argTypes := #[t, k] }) (vm vx : Value) (hm : a.eval m = vm) (hx : a.eval x = vx) {r : Value} (hrun : (Builtin.delete_ #[t, k] o.type #[vm, vx]).run P w = .ok r w')
    (h : wpList P ops Q rest (a.put o.dst r) w') : wpList P ops Q (o :: rest) a w := by
  refine wpList_plain hgd fun K hK => ?_
  unfold Oper.wp
  simp [execOp, ho, resolve, invoke, builtin, hm, hx, hrun, Result.andThen]
  exact hK _ _ h
end Go.Proofs.Ytnldmhljggcnpaa
namespace Go.Proofs.Ytnldmhljggcnpaa
set_option linter.unusedSimpArgs false
set_option linter.unusedVariables false
section
variable {P : Program} {ops : Array Oper} {Q : Exit → Act → World → Prop} {md : Region.Mode} {S S' : World → Prop}
theorem held_mono (h : ∀ x, S' x → S x) : ∀ (fuel : Nat) (listed : Array Bool) (a : Act) (w : World), wpAnyH P md ops Q S' fuel listed a w → wpAnyH P md ops Q S fuel listed a w
  | 0, _, _, _, hh => hh
  | fuel + 1, _, _, _, hh => ⟨hh.1, fun i hi => wpOp_mono (fun a' w' q => ⟨h _ q.1, held_mono h fuel _ a' w' q.2⟩) (hh.2 i hi)⟩
def planB (md : Region.Mode) (ops : Array Oper) : List (Nat × Bool) → Array Bool → Bool
  | [], listed => (Region.ready md ops listed).isEmpty
  | (i, true) :: rest, listed => (Region.free md ops listed i && (Region.ready md ops listed).contains i) && planB md ops rest (listed.setIfInBounds i true)
  | (i, false) :: rest, listed => (Region.ready md ops listed == [i]) && planB md ops rest (listed.setIfInBounds i true)
def wpPlan (P : Program) (ops : Array Oper) (Q : Exit → Act → World → Prop) : List (Nat × Bool) → (World → Prop) → Act → World → Prop
  | [], _, a, w => Q .normal a w
  | (i, true) :: rest, S, a, w => ∃ o v, ops[i]? = some o ∧ YieldsIf P ops S o v a ∧ wpPlan P ops Q rest S (a.put o.dst v) w
  | (i, false) :: rest, S, a, w => wpOp P ops Q i (fun a' w' => ∃ S' : World → Prop, (∀ x, S' x → S x) ∧ S' w' ∧ wpPlan P ops Q rest S' a' w') a w
theorem held_of_plan (hs : Region.noSelect ops = true) (hQ : ∀ c d v a w, Q (.panic c) (a.put d v) w → Q (.panic c) a w) :
    ∀ (plan : List (Nat × Bool)) (S : World → Prop) (listed : Array Bool) (a : Act) (w : World), planB md ops plan listed = true → S w → wpPlan P ops Q plan S a w →
      wpAnyH P md ops Q S plan.length listed a w
  | [], S, listed, a, w, hp, hS, h => ⟨by simpa [planB] using hp, h⟩
  | (i, true) :: rest, S, listed, a, w, hp, hS, h => by
    obtain ⟨o, v, ho, hy, hr⟩ := h
    simp only [planB, Bool.and_eq_true] at hp
    exact wpAnyH_take ho hs hp.1.1 hp.1.2 (fun c a w => hQ c _ _ a w) hy hS (held_of_plan hs hQ rest S _ _ w hp.2 hS hr)
  | (i, false) :: rest, S, listed, a, w, hp, hS, h => by
    simp only [planB, Bool.and_eq_true, beq_iff_eq] at hp
    refine wpAnyH_all hp.1 (by simp) (fun j hj => ?_)
    obtain rfl : j = i := by simpa using hj
    refine wpOp_mono ?_ h
    rintro a' w' ⟨S', h1, h2, h3⟩
    exact ⟨h1 _ h2, held_mono h1 _ _ _ _ (held_of_plan hs hQ rest S' _ a' w' hp.2 h2 h3)⟩
def wpSeq (P : Program) (ops : Array Oper) (Q : Exit → Act → World → Prop) : List Oper → List Bool → (World → Prop) → Act → World → Prop
  | o :: os, true :: fs, S, a, w => ∃ v, YieldsIf P ops S o v a ∧ wpSeq P ops Q os fs S (a.put o.dst v) w
  | o :: os, false :: fs, S, a, w =>
    if Region.wanted o (yielded ops a.tmps) = true then Oper.wp P o a w (fun a' w' => ∃ S' : World → Prop, (∀ x, S' x → S x) ∧ S' w' ∧ wpSeq P ops Q os fs S' a' w') Q
    else wpSeq P ops Q os fs S (a.put o.dst undef) w
  | [], _, _, a, w => Q .normal a w
  | _ :: _, [], _, _, _ => False
theorem plan_of_seq (g : Nat → Oper) : ∀ (σ : List Nat) (fs : List Bool) (S : World → Prop) (a : Act) (w : World), (∀ i ∈ σ, ops[i]? = some (g i)) → σ.length = fs.length → S w → wpSeq P ops Q (σ.map g) fs S a w → wpPlan P ops Q (σ.zip fs) S a w
  | [], [], _, _, _, _, _, _, h => h
  | i :: σ, true :: fs, S, a, w, hk, hl, hS, h => by
    obtain ⟨v, hy, hr⟩ := h
    exact ⟨g i, v, hk i (List.mem_cons_self ..), hy, plan_of_seq g σ fs S _ w (fun k hk' => hk k (List.mem_cons_of_mem _ hk')) (by simpa using hl) hS hr⟩
  | i :: σ, false :: fs, S, a, w, hk, hl, hS, h => by
    have ho : ops[i]? = some (g i) := hk i (List.mem_cons_self ..)
    have hk' : ∀ k ∈ σ, ops[k]? = some (g k) := fun k hk' => hk k (List.mem_cons_of_mem _ hk')
    have hl' : σ.length = fs.length := by simpa using hl
    show wpOp P ops Q i _ a w
    unfold wpOp
    simp only [ho]
    rw [List.map_cons] at h
    unfold wpSeq at h
    split
    · rename_i hw
      rw [if_pos hw] at h
      refine .inl (Oper.wp_mono ?_ h)
      rintro a' w' ⟨S', h1, h2, h3⟩
      exact ⟨S', h1, h2, plan_of_seq g σ fs S' a' w' hk' hl' h2 h3⟩
    · rename_i hw
      rw [if_neg hw] at h
      exact ⟨S, fun _ h => h, hS, plan_of_seq g σ fs S _ w hk' hl' hS h⟩
theorem seq_nil {a : Act} {w : World} (h : Q .normal a w) : wpSeq P ops (NoPanic Q) [] [] S a w := h
theorem seq_take {os : List Oper} {fs : List Bool} {o : Oper} {v : Value} {a : Act} {w : World} (hw : Region.wanted o (yielded ops a.tmps) = true)
    (hy : ∀ w, S w → (execOp a.eval o).run P w = .ok (.value v) w) (h : wpSeq P ops Q os fs S (a.put o.dst v) w) : wpSeq P ops Q (o :: os) (true :: fs) S a w :=
  ⟨v, .inl ⟨hw, hy⟩, h⟩
theorem seq_skip {os : List Oper} {fs : List Bool} {o : Oper} {a : Act} {w : World} (hw : Region.wanted o (yielded ops a.tmps) = false)
    (h : wpSeq P ops Q os fs S (a.put o.dst undef) w) : wpSeq P ops Q (o :: os) (true :: fs) S a w :=
  ⟨undef, .inr ⟨hw, rfl⟩, h⟩
theorem seq_pass {os : List Oper} {fs : List Bool} {o : Oper} {a : Act} {w : World} (hw : Region.wanted o (yielded ops a.tmps) = false)
    (h : wpSeq P ops Q os fs S (a.put o.dst undef) w) : wpSeq P ops Q (o :: os) (false :: fs) S a w := by
  unfold wpSeq
  rw [if_neg (by rw [hw]; simp)]
  exact h
theorem seq_call {os : List Oper} {fs : List Bool} {o : Oper} {a : Act} {w : World} (hw : Region.wanted o (yielded ops a.tmps) = true)
    (h : ∀ K : Act → World → Prop, Shut (∀ (S' : World → Prop) a w, (∀ x, S' x → S x) → S' w → wpSeq P ops Q os fs S' a w → K a w) → Oper.wp P o a w K Q) : wpSeq P ops Q (o :: os) (false :: fs) S a w := by
  unfold wpSeq
  rw [if_pos hw]
  exact h _ (fun S' a w h1 h2 h3 => ⟨S', h1, h2, h3⟩)
theorem wp_region_seq {l : List Oper} (σ : List Nat) (fs : List Bool) (S : World → Prop) {id : Nat} {a : Act} {w : World} (hm : P.follows .mixedOrders = true) (hs : Region.noSelect l.toArray = true)
    (hi : (σ.all fun i => decide (i < l.length)) = true) (hl : (l.length == σ.length && σ.length == fs.length) = true) (hp : planB .any l.toArray (σ.zip fs) (Array.replicate l.toArray.size false) = true)
    (hS : S w.drew) (h : wpSeq P l.toArray (NoPanic Q) (σ.map fun i => (l[i]?).getD default) fs S a w.drew) : (Code.region id l.toArray true).wp P Q a w := by
  refine wp_region_noPanic (wp_region_held (S := S) hm ?_)
  simp only [Bool.and_eq_true, beq_iff_eq] at hl
  have h1 := plan_of_seq (ops := l.toArray) (fun i => (l[i]?).getD default) σ fs S a w.drew (fun i hi' => by
    have := List.all_eq_true.1 hi i hi'
    have hlt : i < l.length := by simpa using this
    simp [hlt]) hl.2 hS h
  have := held_of_plan (md := .any) hs (fun c d v a w h => h) (σ.zip fs) S _ a w.drew hp hS h1
  rw [List.length_zip, ← hl.2, Nat.min_self, ← hl.1] at this
  simpa using this
end
end Go.Proofs.Ytnldmhljggcnpaa
namespace Go.Proofs.Ytnldmhljggcnpaa
set_option linter.unusedSimpArgs false
set_option linter.unusedVariables false
open Go.RowKit Cantle
set_option maxRecDepth 100000
set_option maxHeartbeats 4000000
def freeMR (w w' : World) (l : List Blk) (e : Ending) : Bool → Prop
  | false => e = .returned (.tuple #[.map none, .bool false]) ∧ Keep No w w'
  | true => ∃ b, e = .returned (.tuple #[.map (some b), .bool true]) ∧ Mp w' b (places l) ∧ Keep No w w' ∧ w.heap.size ≤ b
theorem check_free {w : World} {F : Nat → Prop} {A : Option Addr} {c : Nat} {l : List Blk} (h : Rd w F (.slice A l.length c) l.length (bks l)) (hl : l.length ≤ 1000000) (hn : (l.map (·.off)).Nodup) :
    Calls Try.prog 106 #[.slice A l.length c] w fun e w' => freeMR w w' l e (apartL l) := by
  have HR := hid h
  have HN := hid hn
  have hmm := @run_makeMap Try.prog
  generalize hAP : apartL l = ap
  have HAPL := hid hAP
  clear h hn hAP
  go_enter Try.func106, Try.ntmps106
  go_wp2_with fail
  go_loopw [10] (fun t wr => ∃ k : Nat, t = .int .i64 k ∧ k ≤ l.length ∧ apartL (l.take k) = true ∧ Mp wr w.heap.size (places (l.take k)) ∧ Keep (fun i => i = w.heap.size) (w.alloc (.map #[] 0)) wr) (fun t _ => l.length - (intOf t).toNat)
  case atStart => exact ⟨0, rfl, by omega, rfl, Mp.made w, Keep.refl _ _⟩
  case round =>
    obtain ⟨k, rfl, hk, r1, r2, r3⟩ := hrel
    have HK0 := hid (fun i (hi : i < w.heap.size) => show ¬ i = w.heap.size by omega)
    have R1 := hid r1
    have R2 := hid r2
    have R3 := hid r3
    clear r1 r2 r3
    by_cases hj : k < l.length
    · have hRr : Rd wr F (.slice A l.length c) l.length (bks l) := by
        obtain ⟨A', c', e, h1, h2, h3⟩ := HR.out
        refine ⟨A', c', e, h1, h2, fun hne => ?_⟩
        obtain ⟨b, o, q1, q2, q3, q4⟩ := h3 hne
        have K0 := (keep_alloc w (.map #[] 0)).no.then R3.out (S := fun i => i = w.heap.size) (fun _ _ h => h)
        exact ⟨b, o, q1, q2, Nat.lt_of_lt_of_le q3 K0.size, fun j u hju => K0.cell (HK0.out b q3) (q4 j u hju)⟩
      obtain ⟨g, o, cap, he, hgF, hgl, hcc⟩ := hRr.blkAt (by omega)
      cases he
      obtain ⟨c0, c1, c2⟩ := hcc k hj
      have hpl := places_take hj
      have hnew := place_new HN.out hj (cls l[k].size)
      have hpv : ∃ u : Bool, apartL (l.take (k + 1)) = (apartL (l.take k) && (u || l[k].used)) ∧ (k = 0 ∧ u = true ∨ ∃ j : Nat, j + 1 = k ∧ wr.cell? ⟨g, o + j * 3 + 2, none⟩ = some (.bool u)) := by
        cases k with
        | zero => exact ⟨true, by rw [apart_zero hj]; rfl, .inl ⟨rfl, rfl⟩⟩
        | succ j => exact ⟨(l[j]'(by omega)).used, by rw [apart_take hj]; cases (l[j]'(by omega)).used <;> cases l[j + 1].used <;> rfl, .inr ⟨j, rfl, (hcc j (by omega)).2.2⟩⟩
      have hlt := hgl
      generalize hux : l[k].used = xu at *
      generalize hxo : l[k].off = xo at *
      generalize hxs : l[k].size = xs at *
      clear hxo hxs
      have HPL := hid hpl
      clear hpl hcc
      have hCl := fun wx => class_Class xs wx
      cases xu with
      | true =>
        obtain ⟨u, hap, _⟩ := hpv
        have HAP := hid hap
        clear hux hap hnew hCl
        go_wp2
        refine ⟨⟨k + 1, rfl, by omega, ?_, ?_, R3.out.trans (Keep.alloc _ _ _)⟩, ?_⟩
        · rw [HAP.out, R1.out]; simp
        · rw [HPL.out, if_pos rfl]
          exact R2.out.keep (Keep.alloc No _ _) (fun q => q)
        · simp [intOf]; omega
      | false =>
        simp only [Bool.false_eq_true, if_false] at HPL
        obtain ⟨u, hap, hpv⟩ := hpv
        have HAP := hid hap
        clear hux hap
        rcases hpv with ⟨hk0, rfl⟩ | ⟨j, hjj, cu⟩
        · have hkz : ¬ (0 < (k : Int)) := by omega
          clear hk0
          have hcl := Keep.alloc No wr (.cells #[.int .i64 xo, .int .i64 xs, .bool false] 57)
          have hbx := heap_alloc_new wr (.cells #[.int .i64 xo, .int .i64 xs, .bool false] 57)
          obtain ⟨q0, q1, q2, q3, q4, q5, q6⟩ := bx3 hbx
          have hM8 := (R2.out.keep hcl (fun q => q)).keep (Keep.drew No _) (fun q => q)
          obtain ⟨w9, hU, hM9, k9⟩ := hM8.update hnew
          simp only [plV] at hU
          have HM8L := hid R2.out.lt
          have HM9 := hid hM9
          have HK9 := hid k9
          clear hM8 hM9 k9 hnew hbx
          have d0 := (Keep.drew No _).cell (fun q => q) q0
          have d1 := (Keep.drew No _).cell (fun q => q) q1
          go_upto_region 8 with fail
          refine wp_region_seq [0, 1, 2, 3, 4, 5, 6, 7] [true, true, true, true, true, false, true, false] (fun w' => w'.cell? ⟨wr.heap.size, 0, none⟩ = some (.int .i64 xo) ∧ w'.cell? ⟨wr.heap.size, 1, none⟩ = some (.int .i64 xs)) (by kernel_rfl) (by kernel_rfl) (by kernel_rfl) (by kernel_rfl) (by kernel_rfl) ⟨d0, d1⟩ ?_
          simp only [List.map_cons, List.map_nil, List.getElem?_cons_succ, List.getElem?_cons_zero, Option.getD_some]
          repeat (first
            | (refine seq_take (by rfl) (fun w hSw => by (try dsimp only at hSw); (try obtain ⟨hS1, hS2⟩ := hSw); go_simp; try with_reducible rfl) ?_; simp only [Act.put, List.setIfInBounds_toArray, List.set_cons_zero, List.set_cons_succ])
            | (refine seq_skip (by rfl) ?_; simp only [Act.put, List.setIfInBounds_toArray, List.set_cons_zero, List.set_cons_succ])
            | (refine seq_pass (by rfl) ?_; simp only [Act.put, List.setIfInBounds_toArray, List.set_cons_zero, List.set_cons_succ]))
          refine seq_call (by rfl) (fun K hK => ?_)
          go_simp
          refine (hCl _).mono ?_; rintro e wa ⟨rfl, rfl⟩
          go_wp2_with fail
          refine hK.out (fun w' => w'.cell? ⟨wr.heap.size, 0, none⟩ = some (.int .i64 xo) ∧ w'.cell? ⟨wr.heap.size, 1, none⟩ = some (.int .i64 xs)) _ _ (fun _ h => h) ⟨d0, d1⟩ ?_
          clear hK K
          try simp only [Act.put, List.setIfInBounds_toArray, List.set_cons_zero, List.set_cons_succ]
          repeat (first
            | (refine seq_take (by rfl) (fun w hSw => by (try dsimp only at hSw); (try obtain ⟨hS1, hS2⟩ := hSw); go_simp; try with_reducible rfl) ?_; simp only [Act.put, List.setIfInBounds_toArray, List.set_cons_zero, List.set_cons_succ])
            | (refine seq_skip (by rfl) ?_; simp only [Act.put, List.setIfInBounds_toArray, List.set_cons_zero, List.set_cons_succ])
            | (refine seq_pass (by rfl) ?_; simp only [Act.put, List.setIfInBounds_toArray, List.set_cons_zero, List.set_cons_succ]))
          refine seq_call (by rfl) (fun K hK => ?_)
          refine wp_mapUpdate_run (.tmp 28) (.tmp 34) (.const (.bool true)) 162 rfl _ _ _ rfl rfl rfl hU ?_
          refine hK.out (fun x => x = w9) _ _ (fun x hx => by subst hx; exact ⟨HK9.out.cell (fun e => by have := HM8L.out; simp at e; omega) d0, HK9.out.cell (fun e => by have := HM8L.out; simp at e; omega) d1⟩) rfl ?_
          clear hK K
          try simp only [Act.put, List.setIfInBounds_toArray, List.set_cons_zero, List.set_cons_succ]
          refine seq_nil ?_
          go_wp2
          refine ⟨⟨k + 1, rfl, by omega, ?_, ?_, ?_⟩, ?_⟩
          · rw [HAP.out, R1.out]; rfl
          · rw [HPL.out]; exact HM9.out
          · exact ((R3.out.trans (Keep.alloc _ _ _)).trans (Keep.drew _ _)).trans HK9.out
          · simp [intOf]; omega
        · have hkz : 0 < (k : Int) := by omega
          have hkj : (k : Int) - 1 = (j : Int) := by omega
          have hjl : (j : Int) < l.length := by omega
          cases u with
          | true =>
            clear hjj
            have cu' := (Keep.alloc No wr (.cells #[.int .i64 xo, .int .i64 xs, .bool false] 57)).cell (fun q => q) cu
            have hcl := Keep.alloc No wr (.cells #[.int .i64 xo, .int .i64 xs, .bool false] 57)
            have hbx := heap_alloc_new wr (.cells #[.int .i64 xo, .int .i64 xs, .bool false] 57)
            obtain ⟨q0, q1, q2, q3, q4, q5, q6⟩ := bx3 hbx
            have hM8 := (R2.out.keep hcl (fun q => q)).keep (Keep.drew No _) (fun q => q)
            obtain ⟨w9, hU, hM9, k9⟩ := hM8.update hnew
            simp only [plV] at hU
            have HM8L := hid R2.out.lt
            have HM9 := hid hM9
            have HK9 := hid k9
            clear hM8 hM9 k9 hnew hbx
            have d0 := (Keep.drew No _).cell (fun q => q) q0
            have d1 := (Keep.drew No _).cell (fun q => q) q1
            go_upto_region 8 with fail
            refine wp_region_seq [0, 1, 2, 3, 4, 5, 6, 7] [true, true, true, true, true, false, true, false] (fun w' => w'.cell? ⟨wr.heap.size, 0, none⟩ = some (.int .i64 xo) ∧ w'.cell? ⟨wr.heap.size, 1, none⟩ = some (.int .i64 xs)) (by kernel_rfl) (by kernel_rfl) (by kernel_rfl) (by kernel_rfl) (by kernel_rfl) ⟨d0, d1⟩ ?_
            simp only [List.map_cons, List.map_nil, List.getElem?_cons_succ, List.getElem?_cons_zero, Option.getD_some]
            repeat (first
              | (refine seq_take (by rfl) (fun w hSw => by (try dsimp only at hSw); (try obtain ⟨hS1, hS2⟩ := hSw); go_simp; try with_reducible rfl) ?_; simp only [Act.put, List.setIfInBounds_toArray, List.set_cons_zero, List.set_cons_succ])
              | (refine seq_skip (by rfl) ?_; simp only [Act.put, List.setIfInBounds_toArray, List.set_cons_zero, List.set_cons_succ])
              | (refine seq_pass (by rfl) ?_; simp only [Act.put, List.setIfInBounds_toArray, List.set_cons_zero, List.set_cons_succ]))
            refine seq_call (by rfl) (fun K hK => ?_)
            go_simp
            refine (hCl _).mono ?_; rintro e wa ⟨rfl, rfl⟩
            go_wp2_with fail
            refine hK.out (fun w' => w'.cell? ⟨wr.heap.size, 0, none⟩ = some (.int .i64 xo) ∧ w'.cell? ⟨wr.heap.size, 1, none⟩ = some (.int .i64 xs)) _ _ (fun _ h => h) ⟨d0, d1⟩ ?_
            clear hK K
            try simp only [Act.put, List.setIfInBounds_toArray, List.set_cons_zero, List.set_cons_succ]
            repeat (first
              | (refine seq_take (by rfl) (fun w hSw => by (try dsimp only at hSw); (try obtain ⟨hS1, hS2⟩ := hSw); go_simp; try with_reducible rfl) ?_; simp only [Act.put, List.setIfInBounds_toArray, List.set_cons_zero, List.set_cons_succ])
              | (refine seq_skip (by rfl) ?_; simp only [Act.put, List.setIfInBounds_toArray, List.set_cons_zero, List.set_cons_succ])
              | (refine seq_pass (by rfl) ?_; simp only [Act.put, List.setIfInBounds_toArray, List.set_cons_zero, List.set_cons_succ]))
            refine seq_call (by rfl) (fun K hK => ?_)
            refine wp_mapUpdate_run (.tmp 28) (.tmp 34) (.const (.bool true)) 162 rfl _ _ _ rfl rfl rfl hU ?_
            refine hK.out (fun x => x = w9) _ _ (fun x hx => by subst hx; exact ⟨HK9.out.cell (fun e => by have := HM8L.out; simp at e; omega) d0, HK9.out.cell (fun e => by have := HM8L.out; simp at e; omega) d1⟩) rfl ?_
            clear hK K
            try simp only [Act.put, List.setIfInBounds_toArray, List.set_cons_zero, List.set_cons_succ]
            refine seq_nil ?_
            go_wp2
            refine ⟨⟨k + 1, rfl, by omega, ?_, ?_, ?_⟩, ?_⟩
            · rw [HAP.out, R1.out]; rfl
            · rw [HPL.out]; exact HM9.out
            · exact ((R3.out.trans (Keep.alloc _ _ _)).trans (Keep.drew _ _)).trans HK9.out
            · simp [intOf]; omega
          | false =>
            have hap : apartL l = false := apart_no (k := k + 1) (by rw [HAP.out]; simp)
            obtain rfl : ap = false := by rw [← HAPL.out]; exact hap
            have cu' := (Keep.alloc No wr (.cells #[.int .i64 xo, .int .i64 xs, .bool false] 57)).cell (fun q => q) cu
            clear hap hjj
            go_wp2
            go_ret2
            exact ⟨rfl, (((keep_alloc w (.map #[] 0)).no.then R3.out (S := fun i => i = w.heap.size) (fun _ _ h => h)).mono (fun i hi e => HK0.out i hi e)).trans (Keep.alloc _ _ _)⟩
    · obtain rfl : k = l.length := by omega
      have hap := R1.out
      have hmp := R2.out
      rw [List.take_length] at hap hmp
      obtain rfl : ap = true := by rw [← HAPL.out]; exact hap
      clear hap
      go_wp2
      go_ret2
      exact ⟨w.heap.size, rfl, hmp, ((keep_alloc w (.map #[] 0)).no.then R3.out (S := fun i => i = w.heap.size) (fun _ _ h => h)).mono (fun i hi e => HK0.out i hi e), Nat.le_refl _⟩
theorem check_Check {w : World} {p : Nat} {V : Value} {s : ArS} (h : Ar w p V s) :
    Calls Try.prog 29 #[.pointer (some ⟨p, 0, none⟩)] w fun e w' => e = .returned (errV (if checkB s.b then 0 else 3)) ∧ Keep No w w' := by
  have hll := h.len_le
  have hcl := h.cap_le
  have hWk := block_Walk h
  have HB := hid (fun wx (k : Keep No w wx) => arena_Base (h.keepNo k))
  have HW := hid (fun wx (k : Keep No w wx) => arena_Word (h.keepNo k) 0 (by omega))
  have HA := hid (fun wx (k : Keep No w wx) c hc => list_All (h.keepNo k) c hc)
  simp only [Nat.add_zero] at HW
  clear h
  generalize hCB : checkB s.b = CB
  have HCB := hid hCB
  clear hCB
  generalize s.b = b at *
  generalize s.base = base at *
  cases hw : walk b with
  | none =>
    rw [hw] at hWk
    obtain rfl : CB = false := by rw [← HCB.out]; unfold checkB; rw [hw]
    clear hw
    simp only [errV, Bool.false_eq_true, if_false] at hWk ⊢
    go_enter Try.func29, Try.ntmps29
    go_wp2_with fail
    refine hWk.mono ?_; rintro e w1 ⟨rfl, k1⟩
    go_wp2
    go_ret
    exact ⟨rfl, k1⟩
  | some l =>
    rw [hw] at hWk
    have hlen0 := (walk_iff.1 hw).1
    have hnd := walk_nodup hw
    have hlf : l.length ≤ 1000000 := by
      have := walk_few hw
      omega
    have hCBv : CB = (apartL l && (decide (num b 0 < 4194304) && decide (eatGo b 22 0 (places l) = some []))) := by rw [← HCB.out]; unfold checkB; rw [hw]
    have HCV := hid hCBv
    clear hw hCBv HCB
    simp only at hWk
    rw [if_pos (by omega)] at HW
    simp only [errV] at HW
    have HN0 := hid (num_lt b 0)
    generalize num b 0 = N at *
    go_enter Try.func29, Try.ntmps29
    go_wp2_with fail
    refine hWk.mono ?_; rintro e w1 ⟨v, rfl, hN⟩
    obtain ⟨A, c, rfl, _, _⟩ := hN.own.form
    have hF := check_free hN.rd hlf hnd
    have HK1 := hid hN.keep
    clear hWk hN hnd
    cases hap : apartL l with
    | false =>
      rw [hap] at hF
      have HCV2 := HCV.out
      rw [hap] at HCV2
      obtain rfl : CB = false := HCV2
      clear hap
      simp only [freeMR, errV, Bool.false_eq_true, if_false] at hF ⊢
      go_wp2_with fail
      refine hF.mono ?_; rintro e w2 ⟨rfl, k2⟩
      go_wp2_with fail
      refine (HB.out _ (HK1.out.thenNo k2)).mono ?_; rintro e w3 ⟨rfl, rfl⟩
      go_wp2_with fail
      refine (HW.out _ (HK1.out.thenNo k2)).mono ?_; rintro e w3 ⟨rfl, rfl⟩
      go_wp2
      go_ret
      exact ⟨rfl, HK1.out.thenNo k2⟩
    | true =>
      rw [hap] at hF
      have HCV2 := HCV.out
      rw [hap, Bool.true_and] at HCV2
      have HC2 := hid HCV2
      clear HCV2 hap HCV
      simp only [freeMR] at hF
      go_wp2_with fail
      refine hF.mono ?_; rintro e w2 ⟨B, rfl, hM, k2, hB⟩
      have K2 := hid (HK1.out.thenNo k2)
      have hBw : w.heap.size ≤ B := Nat.le_trans HK1.out.size hB
      have HM := hid hM
      clear hM k2 hF
      go_wp2_with fail
      refine (HB.out _ K2.out).mono ?_; rintro e w3 ⟨rfl, rfl⟩
      go_wp2_with fail
      refine (HW.out _ K2.out).mono ?_; rintro e w3 ⟨rfl, rfl⟩
      by_cases hN4 : N < 4194304
      · have hsh : (N : Int) / 4194304 = 0 := by omega
        have HC3 : Hid (CB = decide (eatGo b 22 0 (places l) = some [])) := hid (by rw [HC2.out]; simp [hN4])
        clear HC2 hN4
        obtain ⟨wS, rfl⟩ : ∃ wS : World, wS = w2 := ⟨_, rfl⟩
        go_wp2_with fail
        go_loopw [46] (fun t wr => ∃ (k : Nat) (left : List (Int × Int)), t = .int .i64 k ∧ k ≤ 22 ∧ eatGo b 22 0 (places l) = eatGo b (22 - k) k left ∧ Mp wr B left ∧ left.length ≤ l.length ∧ Keep (fun i => i = B) wS wr) (fun t _ => 22 - (intOf t).toNat)
        case atStart => exact ⟨0, places l, rfl, by omega, rfl, HM.out, by unfold places; rw [List.length_map]; exact List.length_filter_le _ _, Keep.refl _ _⟩
        case round =>
          obtain ⟨k, left, rfl, hk, r1, r2, r3, r4⟩ := hrel
          obtain ⟨wo, rfl⟩ : ∃ wo : World, wo = wr := ⟨_, rfl⟩
          have R1 := hid r1
          have R2 := hid r2
          have R4 := hid r4
          have KR := hid (show Keep No w wo from K2.out.then r4 (fun i hi e => by omega))
          clear r1 r2 r4
          by_cases hj : k < 22
          · have hjz : (k : Int) < 22 := by omega
            have hA := HA.out wo KR.out k hj
            have hgo : eatGo b (22 - k) k left = match lall b k with
                | none => none
                | some M => match eatC k M left with
                  | none => none
                  | some left' => eatGo b (22 - (k + 1)) (k + 1) left' := by
              rw [show 22 - k = (22 - (k + 1)) + 1 from by omega]; rfl
            have HGO := hid hgo
            clear hgo
            cases hl : lall b k with
            | none =>
              rw [hl] at hA
              obtain rfl : CB = false := by rw [HC3.out, R1.out, HGO.out, hl]; rfl
              clear hl
              simp only [allR, errV] at hA
              go_wp2_with fail
              refine hA.mono ?_; rintro e w5 ⟨rfl, k5⟩
              go_wp2
              go_ret
              exact ⟨rfl, KR.out.thenNo k5⟩
            | some M =>
              rw [hl] at hA
              have hgo := HGO.out
              rw [hl] at hgo
              simp only at hgo
              have HGO2 := hid hgo
              clear hgo hl
              simp only [allR] at hA
              go_wp2_with fail
              refine hA.mono ?_; rintro e w5 ⟨v5, rfl, hN5⟩
              obtain ⟨A5, c5, rfl, _, _⟩ := hN5.own.form
              have HN5 := hid hN5
              clear hA hN5
              obtain ⟨wT, rfl⟩ : ∃ wT : World, wT = w5 := ⟨_, rfl⟩
              go_wp2_with fail
              go_loopw [60] (fun t wx => ∃ (j : Nat) (left2 : List (Int × Int)), t = .int .i64 j ∧ j ≤ M.length ∧ eatC k M left = eatC k (M.drop j) left2 ∧ Mp wx B left2 ∧ left2.length ≤ l.length ∧ Keep (fun i => i = B) wT wx) (fun t _ => M.length - (intOf t).toNat)
              case atStart => exact ⟨0, left, rfl, by omega, by rw [List.drop_zero], R2.out.keep HN5.out.keep (fun q => q), r3, Keep.refl _ _⟩
              case round =>
                obtain ⟨j, left2, rfl, hj2, q1, q2, q3, q4⟩ := hrel
                have Q1 := hid q1
                have Q2 := hid q2
                have Q4 := hid q4
                clear q1 q2 q4
                by_cases hj3 : j < M.length
                · have hRd : Rd wr (fun i => i ≠ B) (.slice A5 M.length c5) M.length (iv M) := by
                    have hb := R2.out.lt
                    exact (HN5.out.rd.mono (F' := fun i => i ≠ B) (fun i _ hi => by omega)).keep Q4.out (fun i hi => hi)
                  obtain ⟨g, o, cap, he, _, _, _, hgl, hcc⟩ := hRd.cells (by rw [iv_length]; omega)
                  cases he
                  have cM := hcc j _ (iv_get? M j hj3)
                  have hdr : M.drop j = M[j] :: M.drop (j + 1) := List.drop_eq_getElem_cons hj3
                  have hea : eatC k (M.drop j) left2 = if (M[j], (k : Int)) ∈ left2 then eatC k (M.drop (j + 1)) (left2.erase (M[j], (k : Int))) else none := by rw [hdr]; rfl
                  have HEA := hid hea
                  have hjM : (j : Int) < M.length := by omega
                  clear hcc hdr hea hRd
                  generalize M[j] = mo at *
                  have hLk := Q2.out.look (mo, (k : Int))
                  simp only [plV] at hLk
                  by_cases hin : (mo, (k : Int)) ∈ left2
                  · obtain ⟨w7, hD, hM7, k7⟩ := Q2.out.drop (mo, (k : Int)) 0
                    simp only [plV] at hD
                    rw [decide_eq_true hin] at hLk
                    have HM7 := hid hM7
                    have K7 := hid k7
                    have hq1 : eatC k M left = eatC k (M.drop (j + 1)) (left2.erase (mo, (k : Int))) := by rw [Q1.out, HEA.out, if_pos hin]
                    have HQ1 := hid hq1
                    have hle : (left2.erase (mo, (k : Int))).length ≤ l.length := Nat.le_trans (List.length_erase_le ..) q3
                    clear hM7 k7 hq1 hin
                    go_wp2_with (at_builtin; refine wpList_delete_run rfl (.tmp 71) (.tmp 74) 162 167 rfl _ _ rfl rfl hD ?_)
                    go_wp2
                    refine ⟨⟨j + 1, _, rfl, by omega, HQ1.out, HM7.out, hle, Q4.out.trans K7.out⟩, ?_⟩
                    simp [intOf]; omega
                  · rw [decide_eq_false hin] at hLk
                    obtain rfl : CB = false := by
                      rw [HC3.out, R1.out, HGO2.out, Q1.out, HEA.out, if_neg hin]; rfl
                    clear hin
                    go_wp2
                    go_ret
                    exact ⟨rfl, (KR.out.thenNo HN5.out.keep).then Q4.out (fun i hi e => by omega)⟩
                · obtain rfl : j = M.length := by omega
                  have hq : eatC k M left = some left2 := by rw [Q1.out, List.drop_length]; rfl
                  have hgo2 : eatGo b 22 0 (places l) = eatGo b (22 - (k + 1)) (k + 1) left2 := by rw [R1.out, HGO2.out, hq]
                  have HG2 := hid hgo2
                  clear hq hgo2
                  go_wp2
                  refine ⟨⟨k + 1, left2, rfl, by omega, HG2.out, Q2.out, q3, (R4.out.thenNo HN5.out.keep).trans Q4.out⟩, ?_⟩
                  simp [intOf]; omega
          · obtain rfl : k = 22 := by omega
            have hLn := R2.out.len 3
            have hfin : eatGo b 22 0 (places l) = some left := R1.out
            cases left with
            | nil =>
              obtain rfl : CB = true := by rw [HC3.out, hfin]; rfl
              clear hfin
              simp only [List.length_nil, Int.natCast_zero] at hLn
              go_wp2
              go_ret
              exact ⟨rfl, KR.out⟩
            | cons x left =>
              obtain rfl : CB = false := by rw [HC3.out, hfin]; rfl
              clear hfin
              have hpos : 0 < ((x :: left).length : Int) := by rw [List.length_cons]; omega
              generalize (x :: left).length = n at *
              go_wp2
              go_ret
              exact ⟨rfl, KR.out⟩
      · have hsh : ((N : Int) / 4194304 == 0) = false := by rw [beq_eq_false_iff_ne]; omega
        obtain rfl : CB = false := by rw [HC2.out]; simp [hN4]
        clear HC2
        go_wp2
        go_ret
        exact ⟨rfl, K2.out⟩
end Go.Proofs.Ytnldmhljggcnpaa
namespace Go.Proofs.Ytnldmhljggcnpaa
set_option linter.unusedSimpArgs false
set_option linter.unusedVariables false
open Go.RowKit Go.Deep Cantle
set_option maxRecDepth 100000
theorem wf_i64 {n : Int} (h : (Lit.int .i64 n).wf = true) : -9223372036854775808 ≤ n ∧ n ≤ 9223372036854775807 := by
  unfold Lit.wf at h
  rw [Bool.and_eq_true, decide_eq_true_eq, decide_eq_true_eq] at h
  have e1 : IntKind.i64.min = -9223372036854775808 := by decide
  have e2 : IntKind.i64.max = 9223372036854775807 := by decide
  have := h.1
  have := h.2
  omega
theorem rd_of {w : World} {ad : Addr} {n cap : Nat} {cs : List Value} (h1 : n ≤ cap) (h2 : cap ≤ maxLen) (h : ∀ j u, cs[j]? = some u → w.cell? (ad.add j) = some u) : Rd w (fun _ => True) (.slice (some ad) n cap) n cs := by
  refine ⟨_, cap, rfl, h1, by unfold maxLen at h2; omega, fun hn => ?_⟩
  cases cs with
  | nil => exact absurd rfl hn
  | cons u0 r =>
    have h0 := h 0 u0 rfl
    obtain ⟨b, o, s⟩ := ad
    cases s with
    | none =>
      rw [addr_add] at h0
      exact ⟨b, o, rfl, trivial, World.block_lt_of_cell? w _ h0, fun j u hj => by have := h j u hj; rwa [addr_add] at this⟩
    | some p => exfalso; revert h0; simp only [World.cell?, Addr.add]; split <;> simp
theorem read_ints {H : Type} {enc : TypeId × Value → H} {W : World} {a : Option Addr} {len cap : Nat} {d : DataW H} {ps : List MemPlace} (h : DataW.Trod enc Try.prog W 0 (fun _ => true) true 43 (.slice a len cap) d ps) :
    ∃ l : List Int, l.length = len ∧ Rd W (fun _ => True) (.slice a len cap) len (iv l) ∧ ∀ x ∈ l, -9223372036854775808 ≤ x ∧ x ≤ 9223372036854775807 := by
  obtain ⟨fuel, hf⟩ := h
  rcases Go.ChangeShapes.open_ints Try.underlying43 Try.underlying3 (by kernel_rfl) hf with ⟨hcs, _⟩ | ⟨ad, len', cap', zs, hcs, _, hl, hm, hzs, _, hx, hwf⟩
  · simp [Value.cells] at hcs
    obtain ⟨rfl, rfl, rfl⟩ := hcs
    exact ⟨[], rfl, ⟨_, _, rfl, Nat.le_refl _, by omega, fun h => absurd rfl h⟩, fun y hy => by cases hy⟩
  · simp [Value.cells] at hcs
    obtain ⟨rfl, rfl, rfl⟩ := hcs
    simp only [if_true] at hzs
    have hlz : len ≤ zs.length := by omega
    refine ⟨zs.take len, by rw [List.length_take]; omega, rd_of hl hm fun j u hj => ?_, fun x hx => wf_i64 (hwf x (List.mem_of_mem_take hx))⟩
    have hjl : j < len := by
      have := (List.getElem?_eq_some_iff.1 hj).1
      rw [iv_length, List.length_take] at this
      omega
    rw [iv, List.getElem?_map, List.getElem?_take, if_pos hjl, List.getElem?_eq_getElem (by omega)] at hj
    obtain rfl := Option.some.inj hj
    rw [hx j (by omega), List.getD_eq_getElem?_getD, List.getElem?_eq_getElem (by omega)]
    rfl
theorem read_bools {H : Type} {enc : TypeId × Value → H} {W : World} {a : Option Addr} {len cap : Nat} {d : DataW H} {ps : List MemPlace} (h : DataW.Trod enc Try.prog W 0 (fun _ => true) true 60 (.slice a len cap) d ps) :
    ∃ l : List Bool, l.length = len ∧ Rd W (fun _ => True) (.slice a len cap) len (l.map Value.bool) := by
  obtain ⟨fuel, hf⟩ := h
  rcases open_bools Try.underlying60 Try.underlying4 (by kernel_rfl) hf with ⟨hcs, _⟩ | ⟨ad, len', cap', B, hcs, _, hl, hm, _, hx⟩
  · simp [Value.cells] at hcs
    obtain ⟨rfl, rfl, rfl⟩ := hcs
    exact ⟨[], rfl, ⟨_, _, rfl, Nat.le_refl _, by omega, fun h => absurd rfl h⟩⟩
  · simp [Value.cells] at hcs
    obtain ⟨rfl, rfl, rfl⟩ := hcs
    refine ⟨(List.range len).map B, by simp, rd_of hl hm fun j u hj => ?_⟩
    have hjl : j < len := by
      have := (List.getElem?_eq_some_iff.1 hj).1
      simpa using this
    rw [List.getElem?_map, List.getElem?_map, List.getElem?_range hjl] at hj
    obtain rfl := Option.some.inj hj
    exact hx j (by omega)
end Go.Proofs.Ytnldmhljggcnpaa
