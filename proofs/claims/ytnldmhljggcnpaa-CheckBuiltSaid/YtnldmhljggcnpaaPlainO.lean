import Derived.Test.YtnldmhljggcnpaaPlainN
import Derived.Test.YtnldmhljggcnpaaPlainF
/-!
  Plain Lean: blocks laid one behind the other in zeros, and their lists made: right just if no two free ones stand side by side; with a byte turned, not right.
-/
namespace Cantle
set_option linter.unusedSimpArgs false
set_option linter.unusedVariables false
set_option maxHeartbeats 1000000

theorem check_inv {b : List UInt8} {l : List Blk} (h : Inv b l (listsOf l)) : checkB b = apartL l := by
  rw [Bool.eq_iff_iff, checkB_iff h.len]
  constructor
  · rintro ⟨l', L', h'⟩
    obtain ⟨rfl, _⟩ := Right.unique h'.inv h
    exact h'.apart
  · intro ha
    refine ⟨l, listsOf l, h, ha, fun x hx hu => mem_listsOf.2 ⟨x, hx, rfl, hu, ?_⟩⟩
    have := cls_range (h.st hx).size
    omega
/-! ### a byte turned -/
theorem num_ne {b b' : List UInt8} {o k : Nat} (hl : b'.length = b.length) (ho : o + 8 ≤ b.length) (h1 : o ≤ k) (h2 : k < o + 8) (hne : b'[k]? ≠ b[k]?) : num b' o ≠ num b o := by
  intro h
  rw [num_some (by omega), num_some ho] at h
  have := le_inj (by rw [List.length_take, List.length_drop, List.length_take, List.length_drop, hl]) h
  apply hne
  have e := congrArg (fun l : List UInt8 => l[k - o]?) this
  simp only [List.getElem?_take, List.getElem?_drop] at e
  rw [if_pos (by omega), if_pos (by omega), show o + (k - o) = k from by omega] at e
  exact e
theorem bit_ext {a c n : Nat} (ha : a < 2 ^ n) (hc : c < 2 ^ n) (h : ∀ i, i < n → a.testBit i = c.testBit i) : a = c := by
  apply Nat.eq_of_testBit_eq
  intro i
  by_cases hi : i < n
  · exact h i hi
  · rw [Nat.testBit_lt_two_pow (Nat.lt_of_lt_of_le ha (Nat.pow_le_pow_right (by decide) (by omega))), Nat.testBit_lt_two_pow (Nat.lt_of_lt_of_le hc (Nat.pow_le_pow_right (by decide) (by omega)))]
theorem dll_prev0 {b : List UInt8} {L : List Int} : ∀ {last at_ : Nat}, dll b last at_ L → ∀ o ∈ L, num b (o.toNat + 16) = 0 → last = 0 → (o = (at_ : Int)) := by
  induction L with
  | nil => intro last at_ _ o ho; cases ho
  | cons x L ih =>
    rintro last at_ ⟨e, h1, h2, h3⟩ o ho h0 hl
    rcases List.mem_cons.1 ho with rfl | ho
    · exact e.symm
    · exfalso
      clear ih
      have gen : ∀ {L : List Int} {last at_ : Nat}, last ≠ 0 → dll b last at_ L → ∀ o ∈ L, num b (o.toNat + 16) ≠ 0 := by
        intro L
        induction L with
        | nil => intro last at_ _ _ o ho; cases ho
        | cons y L ih2 =>
          rintro last at_ hl ⟨e, h1, h2, h3⟩ o ho
          rcases List.mem_cons.1 ho with rfl | ho
          · rw [show o.toNat = at_ from by omega, h2]; exact hl
          · exact ih2 h1 h3 o ho
      exact gen h1 h3 o ho h0
/-- a byte ahead of the blocks turned: it is right no more -/
theorem turn_head {b b' : List UInt8} {l : List Blk} {L : Nat → List Int} (h : Right b l L) {k : Nat} (hk : k < 184) (hl : b'.length = b.length) (hne : b'[k]? ≠ b[k]?) (hs : ∀ i, i ≠ k → b'[i]? = b[i]?) : ¬ IsRight b' := by
  rintro ⟨l', L', h'⟩
  have hlen0 := h.inv.len0
  have hnum : ∀ s : Nat, (k < s ∨ s + 8 ≤ k) → num b' s = num b s := fun s hs2 => num_congr hl fun i h1 h2 => hs i (by omega)
  have hwk : walk b' = some l := walk_congr hl h.inv.wk fun x hx => by
    have := (h.inv.st hx).lo; have := (h.inv.st hx).s1
    exact ⟨hnum _ (by omega), hnum _ (by omega)⟩
  have e := h'.inv.wk
  rw [hwk] at e
  obtain rfl := Option.some.inj e
  have hlink : ∀ c, c < 22 → ∀ o, (o ∈ L c ∨ o ∈ L' c) → num b' (o.toNat + 8) = num b (o.toNat + 8) ∧ num b' (o.toNat + 16) = num b (o.toNat + 16) := by
    intro c hc o ho
    have : 184 ≤ o := by
      rcases ho with ho | ho
      · obtain ⟨x, hx, rfl, _⟩ := h.inv.mem c hc o ho; exact (h.inv.st hx).lo
      · obtain ⟨x, hx, rfl, _⟩ := h'.inv.mem c hc o ho; exact (h'.inv.st hx).lo
    exact ⟨hnum _ (by omega), hnum _ (by omega)⟩
  -- heads are alike
  have hsame : ∀ c, c < 22 → ∀ o, o ∈ L' c ↔ o ∈ L c := by
    intro c hc o
    constructor
    · intro ho
      obtain ⟨x, hx, rfl, hu, hcx⟩ := h'.inv.mem c hc o ho
      have := h.all x hx hu
      rwa [hcx, Int.toNat_natCast] at this
    · intro ho
      obtain ⟨x, hx, rfl, hu, hcx⟩ := h.inv.mem c hc o ho
      have := h'.all x hx hu
      rwa [hcx, Int.toNat_natCast] at this
  have hhead : ∀ c, c < 22 → num b' (hd c) = num b (hd c) := by
    intro c hc
    have d1 := h.inv.dl c hc
    have d2 := h'.inv.dl c hc
    by_cases z : num b' (hd c) = 0
    · have e1 := (dll_head d2).1 z
      have e2 : L c = [] := List.eq_nil_iff_forall_not_mem.2 fun o ho => by
        have := (hsame c hc o).2 ho
        rw [e1] at this; cases this
      rw [z, (dll_head d1).2 e2]
    · have hm := dll_head_mem d2 z
      have hm2 := (hsame c hc _).1 hm
      have hp : num b' (num b' (hd c) + 16) = 0 := by
        cases hL : L' c with
        | nil => rw [hL] at hm; cases hm
        | cons y r =>
          rw [hL] at d2
          obtain ⟨_, _, h3, _⟩ := d2
          exact h3
      have hp2 := (hlink c hc _ (.inl hm2)).2
      rw [Int.toNat_natCast] at hp2
      have := dll_prev0 d1 _ hm2 (by rw [Int.toNat_natCast, ← hp2]; exact hp) rfl
      omega
  by_cases k8 : k < 8
  · refine num_ne (o := 0) hl (by omega) (by omega) (by omega) hne ?_
    refine bit_ext h'.inv.top h.inv.top fun c hc => ?_
    rw [h'.inv.bit c hc, h.inv.bit c hc]
    have e1 := dll_head (h.inv.dl c hc)
    have e2 := dll_head (h'.inv.dl c hc)
    rw [hhead c hc] at e2
    rw [decide_eq_decide, ne_eq, ne_eq, ← e1, ← e2]
  · have hc : (k - 8) / 8 < 22 := by omega
    exact num_ne (o := hd ((k - 8) / 8)) hl (by unfold hd; omega) (by unfold hd; omega) (by unfold hd; omega) hne (hhead _ hc)
/-! ### what lies between tags -/
/-- at places that are multiples of 16: a block's end tag, or nothing, or a place of a block -/
def Clean (b : List UInt8) (l : List Blk) : Prop := ∀ p : Nat, p % 16 = 0 → 184 ≤ p → (∀ z ∈ l, (p : Int) ≠ z.off + z.size - 8) → num b p = 0 ∨ num b p % 16 = 8
theorem clean_zeros (n : Nat) : Clean (List.replicate n 0) [] := fun p _ _ _ => by
  by_cases h : p + 8 ≤ n
  · left
    rw [num_some (by rw [List.length_replicate]; exact h), List.drop_replicate, List.take_replicate, Nat.min_eq_left (by omega), le_zeros]
  · exact .inl (num_none (by rw [List.length_replicate]; omega))
theorem clean_set {b b' : List UInt8} {l : List Blk} {x : Blk} (h : Clean b l) (hx : bset b x = some b') (h0 : 184 ≤ x.off) (hm : x.off % 16 = 8) (hs : isSize x.size = true) : Clean b' (l ++ [x]) := by
  intro p hp hp2 hz
  have h1 := (isSize_iff _).1 hs
  unfold bset at hx
  split at hx
  · obtain rfl := Option.some.inj hx
    have hpx := hz x (List.mem_append_right _ (List.mem_cons_self ..))
    rw [num_lay_ne (by omega), num_lay_ne (by omega)]
    exact h p hp hp2 fun z hz' => hz z (List.mem_append_left _ hz')
  · cases hx
theorem clean_wiped {b : List UInt8} {l : List Blk} (h : Clean b l) (h0 : 184 ≤ b.length) : Clean (wiped b) l := fun p hp hp2 hz => by
  rw [(wiped_num h0 p).2 hp2]
  exact h p hp hp2 hz
theorem clean_put {b b' : List UInt8} {l : List Blk} {L : Nat → List Int} (h : Clean b l) (hI : Inv b l L) {x : Blk} (hx : x ∈ l) (hu : x.used = false) (hp : lput b x.off = some b') : Clean b' l := by
  have hxs := hI.st hx
  have a1 := hxs.lo; have a2 := hxs.m; have a3 := hxs.hi; have a4 := hxs.s1; have a6 := hxs.s3
  have hr := cls_range hxs.size
  have hc : (cls x.size).toNat < 22 := by omega
  have hfree : freeC b x.off = some (cls x.size).toNat := by unfold freeC; rw [(walk_mem hI.wk hx).1]; simp [hu]
  generalize (cls x.size).toNat = c at *
  have hfb : num b (hd c) ≠ 0 → 184 ≤ num b (hd c) ∧ num b (hd c) % 16 = 8 ∧ num b (hd c) + 24 ≤ b.length := fun h0 => by
    obtain ⟨y, hy, e, _⟩ := hI.mem c hc _ (dll_head_mem (hI.dl c hc) h0)
    have k0 := hI.st hy
    have := k0.lo; have := k0.m; have := k0.hi; have := k0.s1
    omega
  unfold lput at hp
  rw [hfree] at hp
  simp only at hp
  split at hp
  · cases hp
  · obtain rfl := Option.some.inj hp
    obtain ⟨_, p2, _⟩ := put_nums (o := x.off.toNat) (b2 := lay (lay b (x.off.toNat + 8) (num b (hd c))) (x.off.toNat + 16) 0) (b3 := if num b (hd c) = 0 then lay (lay b (x.off.toNat + 8) (num b (hd c))) (x.off.toNat + 16) 0 else lay (lay (lay b (x.off.toNat + 8) (num b (hd c))) (x.off.toNat + 16) 0) (num b (hd c) + 16) x.off.toNat) hc hI.len0 (by omega) (by omega) (by omega) (num_lt b _) (by have := hI.len; omega) (fun h0 => by have := hfb h0; omega) rfl rfl hI.top
    intro s hs hs2 hz
    rw [p2 s (by omega), if_neg (by omega), if_neg (by unfold hd; omega), if_neg, if_neg (by omega)]
    · by_cases e : s = x.off.toNat + 8
      · rw [if_pos e]
        by_cases h0 : num b (hd c) = 0
        · exact .inl h0
        · exact .inr (hfb h0).2.1
      · rw [if_neg e]; exact h s hs hs2 hz
    · rintro ⟨h0, e⟩
      have := hfb h0
      omega
theorem clean_all {b : List UInt8} {l : List Blk} (h : walk b = some l) (hl : b.length ≤ 16384) (hc : Clean b l) : ∀ j, j ≤ l.length → Clean (putAll (l.take j) (wiped b)) l := by
  intro j
  induction j with
  | zero => intro _; exact clean_wiped hc (walk_iff.1 h).1
  | succ j ih =>
    intro hj
    have ih := ih (by omega)
    have e' : l = l.take j ++ (l[j] :: l.drop (j + 1)) := by rw [← List.drop_eq_getElem_cons (by omega), List.take_append_drop]
    obtain ⟨hI, _⟩ := putAll_inv h hl e'
    rw [take_next' (by omega), putAll_append]
    unfold putAll
    cases hu : l[j].used with
    | true => rw [if_pos rfl]; exact ih
    | false =>
      rw [if_neg (by simp)]
      unfold putAll
      cases hp : lput (putAll (l.take j) (wiped b)) l[j].off with
      | none => exact ih
      | some b' => exact clean_put ih hI (List.getElem_mem _) hu hp
/-- the lowest byte of a block's start tag turned: no block stands there any more -/
theorem turn_tag {b b' : List UInt8} {l : List Blk} (hw : walk b = some l) (hlen : b.length ≤ 16384) (hc : Clean b l) {x : Blk} (hx : x ∈ l) (hl : b'.length = b.length) (hne : b'[x.off.toNat]? ≠ b[x.off.toNat]?) (hs : ∀ i, i ≠ x.off.toNat → b'[i]? = b[i]?) : checkB b' = false := by
  have hxs := (walk_mem hw hx).2
  have a1 := hxs.lo; have a2 := hxs.m; have a3 := hxs.hi; have a4 := hxs.s1; have a6 := hxs.s3
  have hnum : ∀ s : Nat, (x.off.toNat < s ∨ s + 8 ≤ x.off.toNat) → num b' s = num b s := fun s hs2 => num_congr hl fun i h1 h2 => hs i (by omega)
  have hno : bget b' x.off = none := by
    cases hg : bget b' x.off with
    | none => rfl
    | some y =>
      exfalso
      obtain ⟨e0, g1, g2, g3, g4, g5, g6⟩ := bget_some hg
      have hys := (isSize_iff _).1 g4
      have hcl := hc (x.off.toNat + y.size.toNat - 8) (by omega) (by omega)
      rw [hnum _ (by omega)] at g6
      have hpk : num b (x.off.toNat + y.size.toNat - 8) = y.size.toNat ∨ num b (x.off.toNat + y.size.toNat - 8) = y.size.toNat + 1 := by
        rw [g6]; unfold pack; rw [if_pos g4]
        cases y.used <;> simp [b2n]
      by_cases hz : ∀ z ∈ l, ((x.off.toNat + y.size.toNat - 8 : Nat) : Int) ≠ z.off + z.size - 8
      · have := hcl hz
        omega
      · obtain ⟨z, hz2, hze⟩ : ∃ z, z ∈ l ∧ ((x.off.toNat + y.size.toNat - 8 : Nat) : Int) = z.off + z.size - 8 := by
          refine Classical.byContradiction fun hno => hz fun z hz2 e => hno ⟨z, hz2, e⟩
        obtain ⟨zg, zs⟩ := walk_mem hw hz2
        obtain ⟨_, _, _, z3, z4, z5, z6⟩ := bget_some zg
        have hzs := (isSize_iff _).1 z4
        have ez : x.off.toNat + y.size.toNat - 8 = z.off.toNat + z.size.toNat - 8 := by have := zs.lo; omega
        rw [ez, z6] at g6
        have hse : z.size = y.size ∧ z.used = y.used := by
          have h1 := unpack_pack' (u := z.used) z4
          have h2 := unpack_pack' (u := y.used) g4
          rw [g6, h2] at h1
          obtain ⟨h3, h4⟩ : y.size.toNat = z.size.toNat ∧ y.used = z.used := by simpa using h1
          exact ⟨by omega, h4.symm⟩
        have hzx : z = x := walk_off hw hz2 hx (by omega)
        subst hzx
        refine num_ne (o := z.off.toNat) hl (by omega) (Nat.le_refl _) (by omega) hne ?_
        rw [g5, z5, hse.1, hse.2]
  unfold checkB
  have hwn : walk b' = none := by
    cases hw' : walk b' with
    | none => rfl
    | some l' =>
      exfalso
      obtain ⟨p, q, e⟩ := List.append_of_mem hx
      obtain ⟨w1, w2, w3⟩ := walk_iff.1 hw
      obtain ⟨w1', w2', w3'⟩ := walk_iff.1 hw'
      rw [e] at w2 w3
      obtain ⟨t1, t2, t3⟩ := tlp_append.1 w2
      -- up to x both walks are alike
      have gen : ∀ (p : List Blk) (o : Int) (m : List Blk), tlp b o p → tlp b' o m → (∀ y ∈ p, y.off + y.size ≤ x.off) → ends o m = b.length → ends o p = x.off → 184 ≤ o → False := by
        intro p
        induction p with
        | nil =>
          intro o m _ hm _ he hx0 _
          have hx0 : o = x.off := hx0
          cases m with
          | nil => have : o = b.length := he; omega
          | cons y m =>
            obtain ⟨h1, _⟩ := hm
            rw [hx0, hno] at h1; cases h1
        | cons y p ih =>
          rintro o m ⟨h1, h2⟩ hm hy he hx0 ho
          obtain ⟨ey, g1, g2, g3, g4, g5, g6⟩ := bget_some h1
          have hys := (isSize_iff _).1 g4
          have hyx := hy y (List.mem_cons_self ..)
          have hgy : bget b' o = some y := bget_congr h1 hl (hnum _ (by omega)) (hnum _ (by omega))
          cases m with
          | nil =>
            have : o = b.length := he
            omega
          | cons y' m =>
            obtain ⟨h3, h4⟩ := hm
            rw [hgy] at h3
            obtain rfl := Option.some.inj h3
            exact ih (o + y.size) m h2 h4 (fun z hz => hy z (List.mem_cons_of_mem _ hz)) he hx0 (by omega)
      have hxe : ends 184 p = x.off := by
        obtain ⟨e1, _⟩ := bget_some t2
        exact e1.symm
      exact gen p 184 l' t1 w2' (fun y hy => by
        have := tlp_under t1 y hy
        omega) (by rw [w3', hl]) hxe (by omega)
  rw [hwn]
end Cantle
