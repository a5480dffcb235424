import Derived.Test.YtnldmhljggcnpaaPlainC
/-!
  Plain Lean: taking a block out of its list; making the lists anew.
-/
namespace Cantle
set_option linter.unusedSimpArgs false
set_option linter.unusedVariables false

theorem take_nums {b b2 b3 : List UInt8} {c p n : Nat} (hc : c < 22) (hb : 184 ≤ b.length) (hpl : p < 18446744073709551616) (hnl : n < 18446744073709551616)
    (hp1 : p ≠ 0 → 184 ≤ p ∧ p % 16 = 8 ∧ p + 24 ≤ b.length) (hn1 : n ≠ 0 → 184 ≤ n ∧ n % 16 = 8 ∧ n + 24 ≤ b.length)
    (e2 : b2 = if p = 0 then lay b (hd c) n else lay b (p + 8) n) (e3 : b3 = if n = 0 then b2 else lay b2 (n + 16) p) (hw : num b 0 < 2 ^ 22) :
    (mark b3 c).length = b.length ∧ (∀ s, s % 8 = 0 → num (mark b3 c) s = if s = 0 then (if (if p = 0 then n else num b (hd c)) = 0 then clearBit (num b 0) c else setBit (num b 0) c) else if p = 0 ∧ s = hd c then n else if p ≠ 0 ∧ s = p + 8 then n else if n ≠ 0 ∧ s = n + 16 then p else num b s) ∧
    (∀ i, (184 ≤ i ∧ (p = 0 ∨ i < p + 8 ∨ p + 24 ≤ i) ∧ (n = 0 ∨ i < n + 8 ∨ n + 24 ≤ i)) → (mark b3 c)[i]? = b[i]?) := by
  have hd8 : hd c % 8 = 0 := by unfold hd; omega
  have hdb : hd c + 8 ≤ 184 := by unfold hd; omega
  have hd0 : hd c ≠ 0 := by unfold hd; omega
  have l2 : b2.length = b.length := by rw [e2]; split <;> rw [lay_length]
  have l3 : b3.length = b.length := by rw [e3]; split; exact l2; rw [lay_length]; exact l2
  have n2 : ∀ s, s % 8 = 0 → num b2 s = if p = 0 ∧ s = hd c then n else if p ≠ 0 ∧ s = p + 8 then n else num b s := fun s hs => by
    rw [e2]
    by_cases h0 : p = 0
    · rw [if_pos h0, num_lay hd8 hs (by omega) hnl]
      by_cases e : s = hd c
      · rw [if_pos e, if_pos ⟨h0, e⟩]
      · rw [if_neg e, if_neg (fun h => e h.2), if_neg (fun h => h.1 h0)]
    · have := hp1 h0
      rw [if_neg h0, num_lay (by omega) hs (by omega) hnl, if_neg (c := p = 0 ∧ _) (fun h => h0 h.1)]
      by_cases e : s = p + 8
      · rw [if_pos e, if_pos ⟨h0, e⟩]
      · rw [if_neg e, if_neg (fun h => e h.2)]
  have n3 : ∀ s, s % 8 = 0 → num b3 s = if p = 0 ∧ s = hd c then n else if p ≠ 0 ∧ s = p + 8 then n else if n ≠ 0 ∧ s = n + 16 then p else num b s := fun s hs => by
    rw [e3]
    by_cases h0 : n = 0
    · rw [if_pos h0, n2 s hs, if_neg (c := n ≠ 0 ∧ _) (fun h => h.1 h0)]
    · have := hn1 h0
      rw [if_neg h0, num_lay (by omega) hs (by omega) hpl, n2 s hs]
      by_cases e : s = n + 16
      · rw [if_pos e, if_neg (fun h => by omega), if_neg, if_pos ⟨h0, e⟩]
        rintro ⟨h1, h2⟩; have := hp1 h1; omega
      · rw [if_neg e, if_neg (c := n ≠ 0 ∧ _) (fun h => e h.2)]
  have h0 : num b3 0 = num b 0 := by
    rw [n3 0 rfl, if_neg (by omega), if_neg (by omega), if_neg (by omega)]
  have hh : num b3 (hd c) = if p = 0 then n else num b (hd c) := by
    rw [n3 _ hd8]
    by_cases h0 : p = 0
    · rw [if_pos ⟨h0, rfl⟩, if_pos h0]
    · have := hp1 h0
      rw [if_neg (fun h => h0 h.1), if_neg (by omega), if_neg (by omega), if_neg h0]
  have hsl : ∀ w : Nat, w < 2 ^ 22 → w < 18446744073709551616 := fun w h => Nat.lt_of_lt_of_le h (by decide)
  refine ⟨by unfold mark; rw [lay_length, l3], fun s hs => ?_, fun i hi => ?_⟩
  · unfold mark
    rw [num_lay rfl hs (by omega) (by split; exact hsl _ (clearBit_lt (by rw [h0]; exact hw) hc); exact hsl _ (setBit_lt (by rw [h0]; exact hw) hc)), n3 s hs, hh, h0]
  · unfold mark
    rw [lay_get (.inr (by omega)), e3]
    have : b2[i]? = b[i]? := by
      rw [e2]; split
      · rw [lay_get (by omega)]
      · rename_i h; rw [lay_get (by omega)]
    split
    · exact this
    · rw [lay_get (by omega)]; exact this
theorem Inv.off_cls {b : List UInt8} {l : List Blk} {L : Nat → List Int} (h : Inv b l L) {c d : Nat} (hc : c < 22) (hd' : d < 22) {o : Int} (ho : o ∈ L c) (ho' : o ∈ L d) : c = d := by
  obtain ⟨y, hy, rfl, _, hyc⟩ := h.mem c hc o ho
  obtain ⟨z, hz, e, _, hzc⟩ := h.mem d hd' _ ho'
  have := walk_off h.wk hz hy e
  subst this
  omega
/-- the free block is taken out of its list -/
theorem Inv.take {b : List UInt8} {l : List Blk} {L : Nat → List Int} (h : Inv b l L) {x : Blk} (hx : x ∈ l) (hu : x.used = false) {c : Nat} (hcx : cls x.size = c) (hc : c < 22) (hn : x.off ∈ L c) :
    ∃ b', ltake b x.off = some b' ∧ Inv b' l (upd L c ((L c).erase x.off)) ∧ b'.length = b.length ∧ (∀ y ∈ l, y.used = true → ∀ i : Nat, y.off ≤ i → (i : Int) < y.off + y.size → b'[i]? = b[i]?) := by
  obtain ⟨hg, hs⟩ := walk_mem h.wk hx
  have a1 := hs.lo; have a2 := hs.m; have a3 := hs.hi; have a4 := hs.s1; have a5 := hs.s2; have a6 := hs.s3
  have hlen := h.len
  have hlen0 := h.len0
  have hdl := h.dl c hc
  have hnd := h.nd c hc
  have hfree : freeC b x.off = some c := by unfold freeC; rw [hg]; simp [hu, hcx]
  obtain ⟨pre, post, hL⟩ := List.append_of_mem hn
  have hmem := h.mem c hc
  rw [hL] at hdl hnd hmem
  obtain ⟨q1, q2, q3, q4⟩ := dll_prev hdl
  have hxe : (L c).erase x.off = pre ++ post := by
    rw [hL]
    have : x.off ∉ pre := fun hp => by
      have := (List.nodup_append.1 hnd).2.2 _ hp _ (List.mem_cons_self ..)
      exact this rfl
    rw [List.erase_append_right _ this, List.erase_cons_head]
  have hxpp : x.off ∉ pre ++ post := by
    intro hp
    rcases List.mem_append.1 hp with hp | hp
    · exact (List.nodup_append.1 hnd).2.2 _ hp _ (List.mem_cons_self ..) rfl
    · exact (List.nodup_cons.1 (List.nodup_append.1 hnd).2.1).1 hp
  have hpm : num b (x.off.toNat + 16) ≠ 0 → ((num b (x.off.toNat + 16) : Nat) : Int) ∈ pre := fun h0 => by
    by_cases e : pre = []
    · exact absurd (q1 e).1 h0
    · exact q2 e
  have hnm : num b (x.off.toNat + 8) ≠ 0 → ((num b (x.off.toNat + 8) : Nat) : Int) ∈ post := fun h0 => by
    by_cases e : post = []
    · exact absurd (q3 e) h0
    · exact q4 e
  have hp0 : num b (x.off.toNat + 16) = 0 → pre = [] := fun h0 => by
    by_cases e : pre = []
    · exact e
    · exfalso
      have := q2 e
      rw [h0] at this
      obtain ⟨y, hy, e', _⟩ := hmem _ (List.mem_append_left _ this)
      have := (h.st hy).lo
      omega
  have hn0 : num b (x.off.toNat + 8) = 0 → post = [] := fun h0 => by
    by_cases e : post = []
    · exact e
    · exfalso
      have := q4 e
      rw [h0] at this
      obtain ⟨y, hy, e', _⟩ := hmem _ (List.mem_append_right _ (List.mem_cons_of_mem _ this))
      have := (h.st hy).lo
      omega
  have hfs : ∀ s : Nat, (s : Int) ∈ pre ++ post → ∃ y ∈ l, y.off = (s : Nat) ∧ y.used = false ∧ cls y.size = c := fun s hs => by
    rcases List.mem_append.1 hs with hs | hs
    · exact hmem _ (List.mem_append_left _ hs)
    · exact hmem _ (List.mem_append_right _ (List.mem_cons_of_mem _ hs))
  have hfb : ∀ s : Nat, (s : Int) ∈ pre ++ post → 184 ≤ s ∧ s % 16 = 8 ∧ s + 24 ≤ b.length := fun s hs => by
    obtain ⟨y, hy, e, _⟩ := hfs s hs
    have k0 := h.st hy
    have := k0.lo; have := k0.m; have := k0.hi; have := k0.s1
    omega
  -- the linked facts on the neighbours
  have hpn : num b (x.off.toNat + 16) ≠ 0 → num b (num b (x.off.toNat + 16) + 8) = x.off.toNat ∧ pre ≠ [] := fun h0 => by
    have e : pre ≠ [] := fun e => h0 (q1 e).1
    refine ⟨?_, e⟩
    clear hxe hxpp hpm hnm hp0 hn0 hfs hfb q1 q2 q3 q4 hfree
    have gen : ∀ (pre : List Int) (last at_ : Nat), pre ≠ [] → dll b last at_ (pre ++ x.off :: post) → num b (num b (x.off.toNat + 16) + 8) = x.off.toNat := by
      intro pre
      induction pre with
      | nil => intro _ _ h; exact absurd rfl h
      | cons y pre ih =>
        intro last at_ _ hd'
        obtain ⟨rfl, g1, g2, g3⟩ := hd'
        by_cases e : pre = []
        · subst e
          obtain ⟨e1, _, e3, _⟩ := g3
          have : num b (at_ + 8) = x.off.toNat := by omega
          rw [this] at e3
          rw [e3, this]
        · exact ih _ _ e g3
    exact gen pre 0 _ e hdl
  have hnp : num b (x.off.toNat + 8) ≠ 0 → num b (num b (x.off.toNat + 8) + 16) = x.off.toNat ∧ post ≠ [] := fun h0 => by
    have e : post ≠ [] := fun e => h0 (q3 e)
    refine ⟨?_, e⟩
    clear hxe hxpp hpm hnm hp0 hn0 hfs hfb q1 q2 q3 q4 hfree hpn
    have gen : ∀ (pre : List Int) (last at_ : Nat), dll b last at_ (pre ++ x.off :: post) → num b (num b (x.off.toNat + 8) + 16) = x.off.toNat := by
      intro pre
      induction pre with
      | nil =>
        intro last at_ hd'
        obtain ⟨e1, g1, g2, g3⟩ := hd'
        have e1' : x.off.toNat = at_ := by omega
        rw [e1']
        cases post with
        | nil => exact absurd rfl e
        | cons z post =>
          obtain ⟨_, _, e3, _⟩ := g3
          exact e3
      | cons y pre ih =>
        intro last at_ hd'
        obtain ⟨rfl, g1, g2, g3⟩ := hd'
        exact ih _ _ g3
    exact gen pre 0 _ hdl
  have hpl := num_lt b (x.off.toNat + 16)
  have hnl := num_lt b (x.off.toNat + 8)
  have hhd : num b (x.off.toNat + 16) = 0 → (num b (hd c) : Int) = x.off := fun h0 => (q1 (hp0 h0)).2
  have hhn : num b (x.off.toNat + 16) ≠ 0 → num b (hd c) ≠ 0 ∧ (num b (hd c) : Int) ∈ pre := fun h0 => by
    have e := (hpn h0).2
    cases pre with
    | nil => exact absurd rfl e
    | cons y pre => obtain ⟨e1, e2, _⟩ := hdl; exact ⟨e2, e1 ▸ List.mem_cons_self ..⟩
  have hlp : ∃ b2 b3, b2 = (if num b (x.off.toNat + 16) = 0 then lay b (hd c) (num b (x.off.toNat + 8)) else lay b (num b (x.off.toNat + 16) + 8) (num b (x.off.toNat + 8))) ∧ b3 = (if num b (x.off.toNat + 8) = 0 then b2 else lay b2 (num b (x.off.toNat + 8) + 16) (num b (x.off.toNat + 16))) ∧ ltake b x.off = some (mark b3 c) := by
    refine ⟨_, _, rfl, rfl, ?_⟩
    unfold ltake
    rw [hfree]
    simp only
    rw [if_neg, if_neg, if_neg]
    · rintro ⟨h0, hm | hm⟩
      · have := h.member hc (o := (num b (x.off.toNat + 8) : Nat)) (by rw [hL]; exact List.mem_append_right _ (List.mem_cons_of_mem _ (hnm h0)))
        rw [Int.toNat_natCast, hm] at this; cases this
      · have := (hnp h0).1; omega
    · rintro ⟨h0, hm | hm⟩
      · have := h.member hc (o := (num b (x.off.toNat + 16) : Nat)) (by rw [hL]; exact List.mem_append_left _ (hpm h0))
        rw [Int.toNat_natCast, hm] at this; cases this
      · have := (hpn h0).1; omega
    · rintro ⟨h0, hm⟩
      exact hm (hhd h0)
  obtain ⟨b2, b3, e2, e3, hlp⟩ := hlp
  generalize hP : num b (x.off.toNat + 16) = p at *
  generalize hN : num b (x.off.toNat + 8) = n at *
  have hp1 : p ≠ 0 → 184 ≤ p ∧ p % 16 = 8 ∧ p + 24 ≤ b.length := fun h0 => hfb p (List.mem_append_left _ (hpm h0))
  have hn1 : n ≠ 0 → 184 ≤ n ∧ n % 16 = 8 ∧ n + 24 ≤ b.length := fun h0 => hfb n (List.mem_append_right _ (hnm h0))
  obtain ⟨p1, p2, p3⟩ := take_nums hc hlen0 hpl hnl hp1 hn1 e2 e3 h.top
  generalize mark b3 c = b' at *
  have hdc : ∀ d, d < 22 → hd d % 8 = 0 ∧ 8 ≤ hd d ∧ hd d + 8 ≤ 184 ∧ (hd d = hd c ↔ d = c) := fun d hd' => by unfold hd; omega
  have hdc' := hdc c hc
  have hslot : ∀ y ∈ l, ∀ s : Nat, s % 8 = 0 → (s = y.off.toNat ∨ s = y.off.toNat + y.size.toNat - 8) → num b' s = num b s := by
    intro y hy s hs8 hs2
    have hys := h.st hy
    have b1 := hys.lo; have b2' := hys.m; have b3' := hys.hi; have b4 := hys.s1; have b5 := hys.s3
    rw [p2 s hs8, if_neg (by omega), if_neg (by omega), if_neg, if_neg]
    · rintro ⟨h0, e⟩
      obtain ⟨z, hz, ez, _⟩ := hfs n (List.mem_append_right _ (hnm h0))
      have hzs := h.st hz
      have c1 := hzs.lo; have c2 := hzs.m; have c3 := hzs.s1; have c4 := hzs.s3
      rcases walk_cases h.wk hz hy with e' | e' | e'
      · subst e'; omega
      · omega
      · omega
    · rintro ⟨h0, e⟩
      obtain ⟨z, hz, ez, _⟩ := hfs p (List.mem_append_left _ (hpm h0))
      have hzs := h.st hz
      have c1 := hzs.lo; have c2 := hzs.m; have c3 := hzs.s1; have c4 := hzs.s3
      rcases walk_cases h.wk hz hy with e' | e' | e'
      · subst e'; omega
      · omega
      · omega
  have hwk : walk b' = some l := walk_congr p1 h.wk fun y hy => by
    have hys := h.st hy
    have b1 := hys.lo; have b2' := hys.m; have b3' := hys.s1; have b5 := hys.s3
    exact ⟨hslot y hy _ (by omega) (.inl rfl), hslot y hy _ (by omega) (.inr rfl)⟩
  have hlink : ∀ d, d < 22 → ∀ o ∈ L d, num b' (o.toNat + 8) = (if o = (p : Int) then n else num b (o.toNat + 8)) ∧ num b' (o.toNat + 16) = (if o = (n : Int) then p else num b (o.toNat + 16)) := by
    intro d hd' o ho
    obtain ⟨y, hy, rfl, hyu, hyc⟩ := h.mem d hd' o ho
    have hys := h.st hy
    have b1 := hys.lo; have b2' := hys.m; have b3' := hys.s1
    constructor
    · rw [p2 _ (by omega), if_neg (by omega), if_neg (by omega)]
      by_cases e : y.off = (p : Int)
      · rw [if_pos e, if_pos ⟨by omega, by omega⟩]
      · rw [if_neg e, if_neg (by omega), if_neg]
        rintro ⟨h0, e'⟩; have := hn1 h0; omega
    · rw [p2 _ (by omega), if_neg (by omega), if_neg (by omega), if_neg]
      · by_cases e : y.off = (n : Int)
        · rw [if_pos e, if_pos ⟨by omega, by omega⟩]
        · rw [if_neg e, if_neg (by omega)]
      · rintro ⟨h0, e'⟩; have := hp1 h0; omega
  refine ⟨b', hlp, ⟨hwk, ?_, ?_, ?_, ?_, ?_, by omega⟩, p1, ?_⟩
  · intro d hd'
    by_cases e : d = c
    · subst e
      rw [upd_self, hxe]
      have hh : num b' (hd d) = if pre = [] then n else num b (hd d) := by
        rw [p2 _ hdc'.1, if_neg (by omega)]
        by_cases h0 : p = 0
        · rw [if_pos ⟨h0, rfl⟩, if_pos (hp0 h0)]
        · have := hp1 h0
          rw [if_neg (fun h => h0 h.1), if_neg (by omega), if_neg, if_neg (hpn h0).2]
          rintro ⟨h1, h2⟩; have := hn1 h1; omega
      rw [hh, ← hN]
      have hpp : ∀ z ∈ pre ++ post, z ∈ L d := fun z hz => by
        rw [hL]
        rcases List.mem_append.1 hz with hz | hz
        · exact List.mem_append_left _ hz
        · exact List.mem_append_right _ (List.mem_cons_of_mem _ hz)
      refine dll_take hdl hnd ?_ ?_ ?_
      · intro h0
        obtain ⟨y, hy, e', _⟩ := hmem _ h0
        have := (h.st hy).lo
        omega
      · intro z hz
        rw [hP, hN]
        exact (hlink d hc z (hpp z hz)).1
      · intro z hz
        rw [hP, hN]
        exact (hlink d hc z (hpp z hz)).2
    · rw [upd_ne _ _ e]
      have := hdc d hd'
      have hh : num b' (hd d) = num b (hd d) := by
        rw [p2 _ this.1, if_neg (by omega), if_neg (fun e' => e (this.2.2.2.1 e'.2)), if_neg, if_neg]
        · rintro ⟨h0, e'⟩; have := hn1 h0; omega
        · rintro ⟨h0, e'⟩; have := hp1 h0; omega
      rw [hh]
      refine dll_congr (h.dl d hd') fun o ho => ?_
      have hl := hlink d hd' o ho
      constructor
      · rw [hl.2, if_neg]
        intro e'
        have h0 : n ≠ 0 := by
          obtain ⟨y, hy, e2, _⟩ := h.mem d hd' o ho
          have := (h.st hy).lo; omega
        exact e (h.off_cls hd' hc ho (by rw [e', hL]; exact List.mem_append_right _ (List.mem_cons_of_mem _ (hnm h0))))
      · rw [hl.1, if_neg]
        intro e'
        have h0 : p ≠ 0 := by
          obtain ⟨y, hy, e2, _⟩ := h.mem d hd' o ho
          have := (h.st hy).lo; omega
        exact e (h.off_cls hd' hc ho (by rw [e', hL]; exact List.mem_append_left _ (hpm h0)))
  · intro d hd'
    rw [p2 0 rfl, if_pos rfl]
    by_cases h0 : p = 0
    · rw [if_pos h0]
      by_cases h1 : n = 0
      · rw [if_pos h1, clearBit_test, h.bit d hd']
        by_cases e : d = c
        · subst e; rw [upd_self, hxe, hp0 h0, hn0 h1]; simp
        · rw [upd_ne _ _ e]; simp [Ne.symm e]
      · rw [if_neg h1, setBit_test, h.bit d hd']
        by_cases e : d = c
        · subst e
          rw [upd_self, hxe]
          have := hnm h1
          have : pre ++ post ≠ [] := fun e => by simp at e; rw [e.2] at this; cases this
          simp [this]
        · rw [upd_ne _ _ e]; simp [Ne.symm e]
    · rw [if_neg h0, if_neg (hhn h0).1, setBit_test, h.bit d hd']
      by_cases e : d = c
      · subst e
        rw [upd_self, hxe]
        have := hpm h0
        have : pre ++ post ≠ [] := fun e => by simp at e; rw [e.1] at this; cases this
        simp [this]
      · rw [upd_ne _ _ e]; simp [Ne.symm e]
  · intro d hd' o ho
    by_cases e : d = c
    · subst e
      rw [upd_self] at ho
      exact h.mem d hc o (List.mem_of_mem_erase ho)
    · rw [upd_ne _ _ e] at ho
      exact h.mem d hd' o ho
  · intro d hd'
    by_cases e : d = c
    · subst e
      rw [upd_self]
      exact (h.nd d hc).erase _
    · rw [upd_ne _ _ e]; exact h.nd d hd'
  · rw [p2 0 rfl, if_pos rfl]
    repeat' split
    all_goals first | exact clearBit_lt h.top hc | exact setBit_lt h.top hc
  · intro y hy hyu i h1 h2
    have hys := h.st hy
    have b1 := hys.lo
    refine p3 i ⟨by omega, ?_, ?_⟩
    · by_cases h0 : p = 0
      · exact .inl h0
      · obtain ⟨z, hz, ez, hzu, _⟩ := hfs p (List.mem_append_left _ (hpm h0))
        have c3 := (h.st hz).s1
        have c4 := (h.st hz).s3
        rcases walk_cases h.wk hz hy with e | e | e
        · subst e; rw [hzu] at hyu; cases hyu
        · omega
        · omega
    · by_cases h0 : n = 0
      · exact .inl h0
      · obtain ⟨z, hz, ez, hzu, _⟩ := hfs n (List.mem_append_right _ (hnm h0))
        have c3 := (h.st hz).s1
        have c4 := (h.st hz).s3
        rcases walk_cases h.wk hz hy with e | e | e
        · subst e; rw [hzu] at hyu; cases hyu
        · omega
        · omega
/-! ### the lists anew -/
theorem wiped_length {b : List UInt8} (h : 184 ≤ b.length) : (wiped b).length = b.length := by unfold wiped; rw [List.length_append, List.length_replicate, List.length_drop]; omega
theorem wiped_get {b : List UInt8} (i : Nat) (hi : 184 ≤ i) : (wiped b)[i]? = b[i]? := by
  unfold wiped
  rw [List.getElem?_append_right (by rw [List.length_replicate]; exact hi), List.getElem?_drop, List.length_replicate, show 184 + (i - 184) = i from by omega]
theorem le_zeros (n : Nat) : le (List.replicate n 0) = 0 := by
  induction n with
  | zero => rfl
  | succ n ih => rw [List.replicate_succ]; simp [le, ih]
theorem wiped_num {b : List UInt8} (h : 184 ≤ b.length) (s : Nat) : (s + 8 ≤ 184 → num (wiped b) s = 0) ∧ (184 ≤ s → num (wiped b) s = num b s) := by
  constructor
  · intro hs
    rw [num_some (by rw [wiped_length h]; omega)]
    have : ((wiped b).drop s).take 8 = List.replicate 8 0 := by
      apply List.ext_getElem?
      intro i
      rw [List.getElem?_take]
      split
      · rw [List.getElem?_drop]
        unfold wiped
        rw [List.getElem?_append_left (by rw [List.length_replicate]; omega), List.getElem?_replicate, List.getElem?_replicate, if_pos (by omega), if_pos (by omega)]
      · rw [List.getElem?_replicate, if_neg (by omega)]
    rw [this, le_zeros]
  · intro hs
    exact num_congr (wiped_length h) fun i h1 _ => wiped_get i (by omega)
theorem inv_wiped {b : List UInt8} {l : List Blk} (h : walk b = some l) (hl : b.length ≤ 16384) : Inv (wiped b) l (fun _ => []) := by
  have h0 := (walk_iff.1 h).1
  have hn := wiped_num h0
  have hz : num (wiped b) 0 = 0 := (hn 0).1 (by omega)
  refine ⟨?_, ?_, ?_, ?_, ?_, ?_, by rw [wiped_length h0]; exact hl⟩
  · refine walk_congr (wiped_length h0) h fun x hx => ?_
    have hs := (walk_mem h hx).2
    have := hs.lo; have := hs.s1
    exact ⟨(hn _).2 (by omega), (hn _).2 (by omega)⟩
  · intro c hc
    exact (hn _).1 (by unfold hd; omega)
  · intro c hc; rw [hz]; simp
  · intro c hc o ho; cases ho
  · intro c hc; exact List.nodup_nil
  · rw [hz]; decide
/-- the lists that are made anew: the last ones first -/
def listsOf (l : List Blk) (c : Nat) : List Int := ((l.filter fun x => !x.used && cls x.size == (c : Int)).map (·.off)).reverse
theorem mem_listsOf {l : List Blk} {c : Nat} {o : Int} : o ∈ listsOf l c ↔ ∃ x ∈ l, x.off = o ∧ x.used = false ∧ cls x.size = c := by
  unfold listsOf
  rw [List.mem_reverse, List.mem_map]
  constructor
  · rintro ⟨x, hx, rfl⟩
    have := List.mem_filter.1 hx
    simp at this
    exact ⟨x, this.1, rfl, this.2.1, this.2.2⟩
  · rintro ⟨x, hx, rfl, h1, h2⟩
    exact ⟨x, List.mem_filter.2 ⟨hx, by simp [h1, h2]⟩, rfl⟩
theorem putAll_append (l m : List Blk) (b : List UInt8) : putAll (l ++ m) b = putAll m (putAll l b) := by
  induction l generalizing b with
  | nil => rfl
  | cons x l ih => simp only [List.cons_append, putAll]; split <;> exact ih _
theorem Inv.ext {b : List UInt8} {l : List Blk} {L L' : Nat → List Int} (h : Inv b l L) (e : ∀ c, c < 22 → L c = L' c) : Inv b l L' :=
  ⟨h.wk, fun c hc => e c hc ▸ h.dl c hc, fun c hc => e c hc ▸ h.bit c hc, fun c hc => e c hc ▸ h.mem c hc, fun c hc => e c hc ▸ h.nd c hc, h.top, h.len⟩
theorem putAll_inv {b : List UInt8} {l done rest : List Blk} (h : walk b = some l) (hl : b.length ≤ 16384) (e : l = done ++ rest) :
    Inv (putAll done (wiped b)) l (listsOf done) ∧ (putAll done (wiped b)).length = b.length ∧ (∀ y ∈ l, y.used = true → ∀ i : Nat, y.off ≤ i → (i : Int) < y.off + y.size → (putAll done (wiped b))[i]? = b[i]?) ∧
    (∀ x r, rest = x :: r → x.used = false → ∃ b', lput (putAll done (wiped b)) x.off = some b') := by
  have key : ∀ {d r : List Blk}, l = d ++ r → Inv (putAll d (wiped b)) l (listsOf d) → ∀ x r', r = x :: r' → x.used = false → x ∈ l ∧ ∃ c, c < 22 ∧ cls x.size = (c : Nat) ∧ x.off ∉ listsOf d c := by
    intro d r e hi x r' e2 hu
    subst e2
    have hx : x ∈ l := by rw [e]; exact List.mem_append_right _ (List.mem_cons_self ..)
    have hr := cls_range (hi.st hx).size
    refine ⟨hx, (cls x.size).toNat, by omega, by omega, ?_⟩
    intro hm
    obtain ⟨y, hy, e3, _⟩ := mem_listsOf.1 hm
    have hp := tlp_pair (walk_iff.1 h).2.1
    rw [e] at hp
    have := (List.pairwise_append.1 hp).2.2 y hy x (List.mem_cons_self ..)
    have := (hi.st (by rw [e]; exact List.mem_append_left _ hy)).s1
    omega
  have main : ∀ (n : Nat) {d r : List Blk}, d.length = n → l = d ++ r → Inv (putAll d (wiped b)) l (listsOf d) ∧ (putAll d (wiped b)).length = b.length ∧ (∀ y ∈ l, y.used = true → ∀ i : Nat, y.off ≤ i → (i : Int) < y.off + y.size → (putAll d (wiped b))[i]? = b[i]?) := by
    intro n
    induction n with
    | zero =>
      intro d r hn e
      obtain rfl := List.eq_nil_of_length_eq_zero hn
      refine ⟨inv_wiped h hl, wiped_length (walk_iff.1 h).1, fun y hy hu i h1 h2 => wiped_get i ?_⟩
      have := (walk_mem h hy).2.lo
      omega
    | succ n ih =>
      intro d r hn e
      obtain ⟨d', x, rfl⟩ : ∃ d' x, d = d' ++ [x] := ⟨d.dropLast, d.getLast (fun e => by subst e; simp at hn), (List.dropLast_concat_getLast _).symm⟩
      have e' : l = d' ++ (x :: r) := by rw [e, List.append_assoc]; rfl
      obtain ⟨i1, i2, i3⟩ := ih (by simpa using hn) e'
      rw [putAll_append]
      cases hu : x.used with
      | true =>
        have e1 : putAll [x] (putAll d' (wiped b)) = putAll d' (wiped b) := by simp [putAll, hu]
        rw [e1]
        refine ⟨i1.ext fun c _ => ?_, i2, i3⟩
        unfold listsOf
        rw [List.filter_append]
        simp [hu]
      | false =>
        obtain ⟨hx, c, hc, hcx, hno⟩ := key e' i1 x r rfl hu
        obtain ⟨b', hb', j1, j2, j3⟩ := i1.put hx hu hcx hc hno
        have e1 : putAll [x] (putAll d' (wiped b)) = b' := by simp [putAll, hu, hb']
        rw [e1]
        refine ⟨j1.ext fun d hd' => ?_, by omega, fun y hy hyu i h1 h2 => (j3 y hy hyu i h1 h2).trans (i3 y hy hyu i h1 h2)⟩
        have hun : listsOf (d' ++ [x]) d = if cls x.size = (d : Int) then x.off :: listsOf d' d else listsOf d' d := by
          unfold listsOf
          rw [List.filter_append]
          split
          · rename_i hh; simp [hu, hh]
          · rename_i hh; simp [hu, hh]
        rw [hun]
        by_cases ed : d = c
        · subst ed; rw [upd_self, if_pos hcx]
        · rw [upd_ne _ _ ed, if_neg (by omega)]
  obtain ⟨m1, m2, m3⟩ := main _ rfl e
  refine ⟨m1, m2, m3, fun x r e2 hu => ?_⟩
  obtain ⟨hx, c, hc, hcx, hno⟩ := key e m1 x r e2 hu
  obtain ⟨b', hb', _⟩ := m1.put hx hu hcx hc hno
  exact ⟨b', hb'⟩
theorem rebuild_inv {b : List UInt8} {l : List Blk} (h : walk b = some l) (hl : b.length ≤ 16384) :
    ∃ b', rebuild b = some b' ∧ Inv b' l (listsOf l) ∧ b'.length = b.length ∧ (∀ y ∈ l, y.used = true → ∀ i : Nat, y.off ≤ i → (i : Int) < y.off + y.size → b'[i]? = b[i]?) := by
  obtain ⟨h1, h2, h3, _⟩ := putAll_inv (rest := []) h hl (List.append_nil l).symm
  exact ⟨_, by unfold rebuild; rw [h]; rfl, h1, h2, h3⟩
end Cantle
