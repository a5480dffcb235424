import Derived.Test.YtnldmhljggcnpaaPlainD
/-!
  Plain Lean: whether an arena is right: three ways to ask it that come to the same.
-/
namespace Cantle
set_option linter.unusedSimpArgs false
set_option linter.unusedVariables false

/-- no two free ones stand next to each other; pf: the one ahead is free -/
def apartGo : Bool → List Blk → Bool
  | _, [] => true
  | pf, x :: r => !(pf && !x.used) && apartGo (!x.used) r
def apartL (l : List Blk) : Bool := apartGo false l
theorem apartGo_append (pf : Bool) (l : List Blk) (x : Blk) : apartGo pf (l ++ [x]) = (apartGo pf l && !((match l.getLast? with | none => pf | some y => !y.used) && !x.used)) := by
  induction l generalizing pf with
  | nil => simp [apartGo]
  | cons y l ih =>
    rw [List.cons_append]
    unfold apartGo
    rw [ih, ← Bool.and_assoc]
    cases l with
    | nil => rfl
    | cons z l => rw [List.getLast?_cons_cons]; rfl
/-- the free ones of a class, where they stand -/
def offsOf (l : List Blk) (c : Nat) : List Int := (l.filter fun x => !x.used && cls x.size == (c : Int)).map (·.off)
def freeN (l : List Blk) : Nat := (l.filter fun x => !x.used).length
theorem mem_offsOf {l : List Blk} {c : Nat} {o : Int} : o ∈ offsOf l c ↔ ∃ x ∈ l, x.off = o ∧ x.used = false ∧ cls x.size = c := by
  rw [← mem_listsOf]; unfold listsOf offsOf; rw [List.mem_reverse]
/-- an arena is right -/
structure Right (b : List UInt8) (l : List Blk) (L : Nat → List Int) : Prop where
  inv : Inv b l L
  apart : apartL l = true
  all : ∀ x ∈ l, x.used = false → x.off ∈ L (cls x.size).toNat
def IsRight (b : List UInt8) : Prop := ∃ l L, Right b l L
theorem walk_nodup {b : List UInt8} {l : List Blk} (h : walk b = some l) : (l.map (·.off)).Nodup := by
  have hp := tlp_pair (walk_iff.1 h).2.1
  rw [List.Nodup, List.pairwise_map]
  refine hp.imp_of_mem ?_
  intro x y hx _ hxy e
  have := (walk_mem h hx).2.s1
  omega
theorem offsOf_nodup {b : List UInt8} {l : List Blk} (h : walk b = some l) (c : Nat) : (offsOf l c).Nodup := by
  unfold offsOf
  exact List.Nodup.sublist (List.Sublist.map _ List.filter_sublist) (walk_nodup h)
/-- one class is right -/
def OkC (b : List UInt8) (l : List Blk) (c : Nat) : Prop := ∃ M, lall b c = some M ∧ M.Nodup ∧ ∀ o ∈ M, ∃ x ∈ l, x.off = o ∧ x.used = false
theorem lall_parts {b : List UInt8} {c : Nat} {M : List Int} (h : lall b c = some M) : 184 ≤ b.length ∧ (num b 0).testBit c = decide (num b (hd c) ≠ 0) ∧ dll b 0 (num b (hd c)) M ∧ M.length ≤ 1024 ∧ ∀ o ∈ M, member b o.toNat c = true := by
  unfold lall at h
  split at h
  · cases h
  · split at h
    · cases h
    · rename_i h1 h2
      have := chain_iff.1 h
      exact ⟨by omega, Classical.not_not.1 h2, this⟩
theorem OkC.mem {b : List UInt8} {l : List Blk} {c : Nat} (hw : walk b = some l) {M : List Int} (hM : lall b c = some M) (h : OkC b l c) : M.Nodup ∧ ∀ o ∈ M, ∃ x ∈ l, x.off = o ∧ x.used = false ∧ cls x.size = c := by
  obtain ⟨M', h1, h2, h3⟩ := h
  rw [hM] at h1
  obtain rfl := Option.some.inj h1
  refine ⟨h2, fun o ho => ?_⟩
  obtain ⟨x, hx, rfl, hu⟩ := h3 o ho
  obtain ⟨hg, hs⟩ := walk_mem hw hx
  have hm := (lall_parts hM).2.2.2.2 _ ho
  unfold member at hm
  have := hs.lo
  rw [show ((x.off.toNat : Nat) : Int) = x.off from by omega, hg] at hm
  simp at hm
  exact ⟨x, hx, rfl, hu, hm.2.2⟩
theorem sum_offs (l : List Blk) (hs : ∀ x ∈ l, isSize x.size = true) : ((List.range 22).map fun c => (offsOf l c).length).sum = freeN l := by
  induction l with
  | nil => rfl
  | cons x l ih =>
    have ih := ih fun y hy => hs y (List.mem_cons_of_mem _ hy)
    have hr := cls_range (hs x (List.mem_cons_self ..))
    have hc : ∀ c, (offsOf (x :: l) c).length = (offsOf l c).length + if x.used = false ∧ cls x.size = (c : Int) then 1 else 0 := by
      intro c
      unfold offsOf
      rw [List.filter_cons]
      by_cases h : x.used = false ∧ cls x.size = (c : Int)
      · rw [if_pos (by simp [h.1, h.2]), if_pos h]; simp
      · rw [if_neg (by intro h'; simp at h'; exact h h'), if_neg h]; rfl
    have hsum : ∀ (n : Nat), ((List.range n).map fun c => (offsOf (x :: l) c).length).sum = ((List.range n).map fun c => (offsOf l c).length).sum + if x.used = false ∧ cls x.size < (n : Int) then 1 else 0 := by
      intro n
      induction n with
      | zero => simp; omega
      | succ n ihn =>
        rw [List.range_succ, List.map_append, List.sum_append, List.map_append, List.sum_append, ihn]
        simp only [List.map_cons, List.map_nil, List.sum_cons, List.sum_nil, Nat.add_zero]
        rw [hc n]
        by_cases hu : x.used = false
        · simp only [hu, true_and]
          split <;> split <;> split <;> omega
        · simp [hu]
    rw [hsum 22, ih]
    unfold freeN
    rw [List.filter_cons]
    by_cases hu : x.used = false
    · rw [if_pos ⟨hu, by omega⟩, if_pos (by simp [hu])]; rfl
    · rw [if_neg (fun h => hu h.1), if_neg (by simpa using hu)]; rfl
theorem sum_le_sum {n : Nat} {f g : Nat → Nat} (h : ∀ c, c < n → f c ≤ g c) : ((List.range n).map f).sum ≤ ((List.range n).map g).sum ∧ (((List.range n).map f).sum = ((List.range n).map g).sum → ∀ c, c < n → f c = g c) := by
  induction n with
  | zero => exact ⟨Nat.le_refl _, fun _ c hc => by omega⟩
  | succ n ih =>
    obtain ⟨i1, i2⟩ := ih fun c hc => h c (by omega)
    rw [List.range_succ, List.map_append, List.sum_append, List.map_append, List.sum_append]
    simp only [List.map_cons, List.map_nil, List.sum_cons, List.sum_nil, Nat.add_zero]
    have := h n (by omega)
    refine ⟨by omega, fun e c hc => ?_⟩
    by_cases hcn : c = n
    · subst hcn; omega
    · exact i2 (by omega) c (by omega)
theorem sub_of_len {α : Type} [DecidableEq α] : ∀ {l m : List α}, l.Nodup → (∀ x ∈ l, x ∈ m) → m.length ≤ l.length → ∀ x ∈ m, x ∈ l := by
  intro l
  induction l with
  | nil => intro m _ _ hl x hx; have := List.length_pos_of_mem hx; simp at hl; subst hl; cases hx
  | cons a l ih =>
    intro m hn hs hl x hx
    have h1 := hs a (List.mem_cons_self ..)
    by_cases e : x = a
    · rw [e]; exact List.mem_cons_self ..
    · refine List.mem_cons_of_mem _ (ih (m := m.erase a) (List.nodup_cons.1 hn).2 (fun y hy => ?_) ?_ x ((List.mem_erase_of_ne e).2 hx))
      · have hne : y ≠ a := fun e => (List.nodup_cons.1 hn).1 (e ▸ hy)
        exact (List.mem_erase_of_ne hne).2 (hs y (List.mem_cons_of_mem _ hy))
      · rw [List.length_erase_of_mem h1]; simp at hl; omega
/-- what the document's answer counts -/
theorem isRight_count {b : List UInt8} {l : List Blk} (hw : walk b = some l) (hl : b.length ≤ 16384) :
    IsRight b ↔ num b 0 < 4194304 ∧ apartL l = true ∧ (∀ c, c < 22 → OkC b l c) ∧ ((List.range 22).map fun c => ((lall b c).getD []).length).sum = freeN l := by
  constructor
  · rintro ⟨l', L, h⟩
    have e := h.inv.wk
    rw [hw] at e
    obtain rfl := Option.some.inj e
    refine ⟨h.inv.top, h.apart, fun c hc => ⟨L c, h.inv.lall hc, h.inv.nd c hc, fun o ho => ?_⟩, ?_⟩
    · obtain ⟨x, hx, h1, h2, _⟩ := h.inv.mem c hc o ho
      exact ⟨x, hx, h1, h2⟩
    · rw [← sum_offs l fun x hx => (h.inv.st hx).size]
      refine Nat.le_antisymm (sum_le_sum fun c hc => ?_).1 (sum_le_sum fun c hc => ?_).1
      · rw [h.inv.lall hc]
        exact length_le_of_sub (h.inv.nd c hc) fun o ho => mem_offsOf.2 (h.inv.mem c hc o ho)
      · rw [h.inv.lall hc]
        exact length_le_of_sub (offsOf_nodup hw c) fun o ho => by
          obtain ⟨x, hx, rfl, hu, hcx⟩ := mem_offsOf.1 ho
          have := h.all x hx hu
          rwa [hcx, Int.toNat_natCast] at this
  · rintro ⟨h1, h2, h3, h4⟩
    have hM : ∀ c, c < 22 → lall b c = some ((lall b c).getD []) := fun c hc => by
      obtain ⟨M, hM, _⟩ := h3 c hc
      rw [hM]; rfl
    have hmem := fun c hc => OkC.mem hw (hM c hc) (h3 c hc)
    have hle : ∀ c, c < 22 → ((lall b c).getD []).length ≤ (offsOf l c).length := fun c hc => length_le_of_sub (hmem c hc).1 fun o ho => mem_offsOf.2 ((hmem c hc).2 o ho)
    have hs := (sum_le_sum hle).2 (by rw [h4, sum_offs l fun x hx => (walk_mem hw hx).2.size])
    refine ⟨l, fun c => (lall b c).getD [], ⟨hw, fun c hc => (lall_parts (hM c hc)).2.2.1, fun c hc => ?_, fun c hc => (hmem c hc).2, fun c hc => (hmem c hc).1, h1, hl⟩, h2, fun x hx hu => ?_⟩
    · have hp := lall_parts (hM c hc)
      rw [hp.2.1]
      have := dll_head hp.2.2.1
      simp [this]
    · have hr := cls_range (walk_mem hw hx).2.size
      refine sub_of_len (hmem (cls x.size).toNat (by omega)).1 (fun o ho => mem_offsOf.2 ((hmem (cls x.size).toNat (by omega)).2 o ho)) (by rw [hs _ (by omega)]; exact Nat.le_refl _) _ ?_
      exact mem_offsOf.2 ⟨x, hx, rfl, hu, by omega⟩
theorem isRight_walk {b : List UInt8} (h : IsRight b) : ∃ l, walk b = some l := by
  obtain ⟨l, L, h⟩ := h; exact ⟨l, h.inv.wk⟩
/-! ### as the program asks it: places that are struck off -/
def places (l : List Blk) : List (Int × Int) := (l.filter fun x => !x.used).map fun x => (x.off, cls x.size)
def eatC (c : Int) : List Int → List (Int × Int) → Option (List (Int × Int))
  | [], left => some left
  | o :: r, left => if (o, c) ∈ left then eatC c r (left.erase (o, c)) else none
def eatGo (b : List UInt8) : Nat → Nat → List (Int × Int) → Option (List (Int × Int))
  | 0, _, left => some left
  | k + 1, c, left => match lall b c with
    | none => none
    | some M => match eatC c M left with
      | none => none
      | some left' => eatGo b k (c + 1) left'
theorem eatC_iff {c : Int} {M : List Int} {left left' : List (Int × Int)} (hn : left.Nodup) (h : eatC c M left = some left') : left'.Nodup ∧ M.Nodup ∧ (∀ o ∈ M, (o, c) ∈ left) ∧ (∀ p, p ∈ left' ↔ p ∈ left ∧ ¬ (p.2 = c ∧ p.1 ∈ M)) := by
  induction M generalizing left with
  | nil =>
    obtain rfl := Option.some.inj h
    exact ⟨hn, List.nodup_nil, (fun o ho => (List.not_mem_nil ho).elim), fun p => by simp⟩
  | cons o M ih =>
    unfold eatC at h
    split at h
    · rename_i hm
      obtain ⟨h1, h2, h3, h4⟩ := ih (hn.erase _) h
      have he : ∀ p, p ∈ left.erase (o, c) ↔ p ≠ (o, c) ∧ p ∈ left := fun p => hn.mem_erase_iff
      refine ⟨h1, List.nodup_cons.2 ⟨fun ho => ?_, h2⟩, fun o' ho' => ?_, fun p => ?_⟩
      · have := h3 o ho
        rw [he] at this
        exact this.1 rfl
      · rcases List.mem_cons.1 ho' with rfl | ho'
        · exact hm
        · exact ((he _).1 (h3 o' ho')).2
      · rw [h4, he]
        obtain ⟨p1, p2⟩ := p
        constructor
        · rintro ⟨⟨a1, a2⟩, a3⟩
          refine ⟨a2, fun ⟨b1, b2⟩ => ?_⟩
          rcases List.mem_cons.1 b2 with b2 | b2
          · simp only at b1 b2; subst b1; subst b2; exact a1 rfl
          · exact a3 ⟨b1, b2⟩
        · rintro ⟨a1, a2⟩
          refine ⟨⟨fun e => ?_, a1⟩, fun ⟨b1, b2⟩ => a2 ⟨b1, List.mem_cons_of_mem _ b2⟩⟩
          obtain ⟨rfl, rfl⟩ := Prod.mk.inj e
          exact a2 ⟨rfl, List.mem_cons_self ..⟩
    · cases h
theorem eatC_some {c : Int} {M : List Int} {left : List (Int × Int)} (hn : left.Nodup) (hM : M.Nodup) (h : ∀ o ∈ M, (o, c) ∈ left) : ∃ left', eatC c M left = some left' := by
  induction M generalizing left with
  | nil => exact ⟨left, rfl⟩
  | cons o M ih =>
    unfold eatC
    rw [if_pos (h o (List.mem_cons_self ..))]
    refine ih (hn.erase _) (List.nodup_cons.1 hM).2 fun o' ho' => ?_
    refine hn.mem_erase_iff.2 ⟨fun e => ?_, h o' (List.mem_cons_of_mem _ ho')⟩
    have := (Prod.mk.inj e).1
    subst this
    exact (List.nodup_cons.1 hM).1 ho'
theorem places_nodup {b : List UInt8} {l : List Blk} (h : walk b = some l) : (places l).Nodup := by
  unfold places
  have hp : ((l.filter fun x => !x.used).map (·.off)).Nodup := List.Nodup.sublist (List.Sublist.map _ List.filter_sublist) (walk_nodup h)
  rw [List.Nodup, List.pairwise_map] at hp ⊢
  exact hp.imp fun hne e => hne (Prod.mk.inj e).1
theorem mem_places {l : List Blk} {p : Int × Int} : p ∈ places l ↔ ∃ x ∈ l, x.off = p.1 ∧ x.used = false ∧ cls x.size = p.2 := by
  unfold places
  rw [List.mem_map]
  constructor
  · rintro ⟨x, hx, rfl⟩
    have := List.mem_filter.1 hx
    exact ⟨x, this.1, rfl, by simpa using this.2, rfl⟩
  · rintro ⟨x, hx, h1, h2, h3⟩
    exact ⟨x, List.mem_filter.2 ⟨hx, by simp [h2]⟩, by rw [h1, h3]⟩
theorem eatGo_some {b : List UInt8} {l : List Blk} : ∀ {k c : Nat} {left left' : List (Int × Int)}, left.Nodup → (∀ p ∈ left, p ∈ places l) → eatGo b k c left = some left' →
    (∀ d, c ≤ d → d < c + k → ∃ M, lall b d = some M ∧ M.Nodup ∧ ∀ o ∈ M, (o, (d : Int)) ∈ left) ∧ (∀ p, p ∈ left' ↔ p ∈ left ∧ ∀ d, c ≤ d → d < c + k → ¬ (p.2 = (d : Int) ∧ p.1 ∈ (lall b d).getD [])) := by
  intro k
  induction k with
  | zero =>
    intro c left left' _ _ h
    obtain rfl := Option.some.inj h
    exact ⟨fun d h1 h2 => by omega, fun p => ⟨fun hp => ⟨hp, fun d h1 h2 => by omega⟩, fun hp => hp.1⟩⟩
  | succ k ih =>
    intro c left left' hn hs h
    unfold eatGo at h
    cases hM : lall b c with
    | none => rw [hM] at h; cases h
    | some M =>
      rw [hM] at h
      simp only at h
      cases hE : eatC c M left with
      | none => rw [hE] at h; cases h
      | some left1 =>
        rw [hE] at h
        simp only at h
        obtain ⟨e1, e2, e3, e4⟩ := eatC_iff hn hE
        obtain ⟨i1, i2⟩ := ih e1 (fun p hp => hs p ((e4 p).1 hp).1) h
        refine ⟨fun d h1 h2 => ?_, fun p => ?_⟩
        · by_cases e : d = c
          · subst e; exact ⟨M, hM, e2, e3⟩
          · obtain ⟨M', j1, j2, j3⟩ := i1 d (by omega) (by omega)
            exact ⟨M', j1, j2, fun o ho => ((e4 _).1 (j3 o ho)).1⟩
        · rw [i2, e4]
          constructor
          · rintro ⟨⟨a1, a2⟩, a3⟩
            refine ⟨a1, fun d h1 h2 => ?_⟩
            by_cases e : d = c
            · subst e; rw [hM]; exact a2
            · exact a3 d (by omega) (by omega)
          · rintro ⟨a1, a2⟩
            refine ⟨⟨a1, ?_⟩, fun d h1 h2 => a2 d (by omega) (by omega)⟩
            have := a2 c (Nat.le_refl _) (by omega)
            rwa [hM] at this
theorem eatGo_ok {b : List UInt8} {k c : Nat} {left : List (Int × Int)} (hn : left.Nodup) (h : ∀ d, c ≤ d → d < c + k → ∃ M, lall b d = some M ∧ M.Nodup ∧ ∀ o ∈ M, (o, (d : Int)) ∈ left) : ∃ left', eatGo b k c left = some left' := by
  induction k generalizing c left with
  | zero => exact ⟨left, rfl⟩
  | succ k ih =>
    obtain ⟨M, hM, h2, h3⟩ := h c (Nat.le_refl _) (by omega)
    obtain ⟨left1, hE⟩ := eatC_some (c := c) hn h2 h3
    obtain ⟨e1, _, _, e4⟩ := eatC_iff hn hE
    unfold eatGo
    rw [hM]; simp only; rw [hE]; simp only
    refine ih e1 fun d h1 hd2 => ?_
    obtain ⟨M', j1, j2, j3⟩ := h d (by omega) (by omega)
    refine ⟨M', j1, j2, fun o ho => (e4 _).2 ⟨j3 o ho, fun hh => ?_⟩⟩
    have := hh.1
    simp only at this
    omega
/-- what the program strikes off -/
theorem isRight_eat {b : List UInt8} {l : List Blk} (hw : walk b = some l) (hl : b.length ≤ 16384) :
    IsRight b ↔ apartL l = true ∧ num b 0 < 4194304 ∧ eatGo b 22 0 (places l) = some [] := by
  constructor
  · rintro ⟨l', L, h⟩
    have e := h.inv.wk
    rw [hw] at e
    obtain rfl := Option.some.inj e
    refine ⟨h.apart, h.inv.top, ?_⟩
    obtain ⟨left', hE⟩ := eatGo_ok (b := b) (k := 22) (c := 0) (places_nodup hw) fun d _ hd' => ⟨L d, h.inv.lall (by omega), h.inv.nd d (by omega), fun o ho => mem_places.2 (h.inv.mem d (by omega) o ho)⟩
    rw [hE]
    have h2 := (eatGo_some (l := l) (places_nodup hw) (fun p hp => hp) hE).2
    congr 1
    apply List.eq_nil_iff_forall_not_mem.2
    intro p hp
    obtain ⟨h3, h4⟩ := (h2 p).1 hp
    obtain ⟨x, hx, h5, h6, h7⟩ := mem_places.1 h3
    have hr := cls_range (h.inv.st hx).size
    refine h4 (cls x.size).toNat (Nat.zero_le _) (by omega) ⟨by omega, ?_⟩
    rw [h.inv.lall (by omega)]
    have := h.all x hx h6
    rw [← h5]; exact this
  · rintro ⟨h1, h2, h3⟩
    obtain ⟨i1, i2⟩ := eatGo_some (l := l) (places_nodup hw) (fun p hp => hp) h3
    refine (isRight_count hw hl).2 ⟨h2, h1, fun c hc => ?_, ?_⟩
    · obtain ⟨M, j1, j2, j3⟩ := i1 c (Nat.zero_le _) (by omega)
      refine ⟨M, j1, j2, fun o ho => ?_⟩
      obtain ⟨x, hx, k1, k2, _⟩ := mem_places.1 (j3 o ho)
      exact ⟨x, hx, k1, k2⟩
    · rw [← sum_offs l fun x hx => (walk_mem hw hx).2.size]
      refine Nat.le_antisymm (sum_le_sum fun c hc => ?_).1 (sum_le_sum fun c hc => ?_).1
      · obtain ⟨M, j1, j2, j3⟩ := i1 c (Nat.zero_le _) (by omega)
        rw [j1]
        exact length_le_of_sub j2 fun o ho => mem_offsOf.2 (mem_places.1 (j3 o ho))
      · obtain ⟨M, j1, j2, j3⟩ := i1 c (Nat.zero_le _) (by omega)
        rw [j1]
        refine length_le_of_sub (offsOf_nodup hw c) fun o ho => ?_
        refine Classical.byContradiction fun hno => ?_
        have : (o, (c : Int)) ∈ ([] : List (Int × Int)) := (i2 _).2 ⟨mem_places.2 (mem_offsOf.1 ho), fun d hd1 hd2 hh => ?_⟩
        · cases this
        · have : d = c := by have := hh.1; simp only at this; omega
          subst this
          rw [j1] at hh
          exact hno hh.2
theorem Right.unique {b : List UInt8} {l l' : List Blk} {L L' : Nat → List Int} (h : Inv b l L) (h' : Inv b l' L') : l = l' ∧ ∀ c, c < 22 → L c = L' c := by
  constructor
  · have := h.wk; rw [h'.wk] at this; exact (Option.some.inj this).symm
  · intro c hc
    have := h.lall hc; rw [h'.lall hc] at this; exact (Option.some.inj this).symm
end Cantle
