import Derived.Test.YtnldmhljggcnpaaList4
namespace Go.Proofs.Ytnldmhljggcnpaa
set_option linter.unusedSimpArgs false
set_option linter.unusedVariables false
open Go.RowKit Cantle
set_option maxRecDepth 100000
set_option maxHeartbeats 4000000

/-! ### rows of numbers -/
def intV (x : Int) : Value := .int .i64 x
def iv (l : List Int) : List Value := l.map intV
theorem iv_length (l : List Int) : (iv l).length = l.length := by simp [iv]
theorem iv_append (a b : List Int) : iv (a ++ b) = iv a ++ iv b := by simp [iv]
theorem iv_one (l : List Int) : ∀ u ∈ iv l, u.oneCell' = true := by
  intro u hu
  simp only [iv, List.mem_map] at hu
  obtain ⟨x, _, rfl⟩ := hu
  rfl
theorem iv_get? (l : List Int) (j : Nat) (h : j < l.length) : (iv l)[j]? = some (.int .i64 l[j]) := by
  rw [iv, List.getElem?_map, List.getElem?_eq_getElem h]; rfl
def OwnI (w : World) (v : Value) (l : List Int) : Prop := w.ownsRow 0 3 1 v l.length (iv l)
theorem OwnI.rd {w : World} {v : Value} {l : List Int} (h : OwnI w v l) : Rd w (fun i => v.ownBlock = some i) v l.length (iv l) := Rd.ofOwn h
theorem OwnI.keep {S : Nat → Prop} {w w' : World} {v : Value} {l : List Int} (h : OwnI w v l) (k : Keep S w w') (hs : ∀ i, v.ownBlock = some i → ¬ S i) : OwnI w' v l := k.owns hs h
theorem OwnI.keepNo {w w' : World} {v : Value} {l : List Int} (h : OwnI w v l) (k : Keep No w w') : OwnI w' v l := h.keep k (fun _ _ q => q)
theorem OwnI.lt {w : World} {v : Value} {l : List Int} (h : OwnI w v l) : ∀ k, v.ownBlock = some k → k < w.heap.size := fun k hk => (World.ownsRow.lt h k hk).2
theorem OwnI.nil (w : World) : OwnI w (.slice none 0 0) [] := World.ownsRow_nil w 0 _ 1
theorem OwnI.form {w : World} {v : Value} {l : List Int} (h : OwnI w v l) : ∃ A c, v = .slice A l.length c ∧ l.length ≤ c ∧ c ≤ 9223372036854775807 := h.rd.form'
structure NewI (w w' : World) (v : Value) (l : List Int) : Prop where
  keep : Keep No w w'
  own : OwnI w' v l
  ge : ∀ k, v.ownBlock = some k → w.heap.size ≤ k
theorem NewI.rd {w w' : World} {v : Value} {l : List Int} (h : NewI w w' v l) : Rd w' (fun i => w.heap.size ≤ i) v l.length (iv l) := h.own.rd.mono fun i _ hi => h.ge i hi
theorem append_int {w : World} {v : Value} {l : List Int} (ho : OwnI w v l) (x : Int) (hm : l.length ≤ 1000000) (ty : TypeId) :
    ∃ g cap w', (Builtin.append_ #[43, 43] ty #[v, .slice (some ⟨w.heap.size, 0, none⟩) 1 1]).run Try.prog (w.alloc (.cells #[.int .i64 x] 3)) = .ok (.slice (some ⟨g, 0, none⟩) (l.length + 1) cap) w' ∧
      OwnI w' (.slice (some ⟨g, 0, none⟩) (l.length + 1) cap) (l ++ [x]) ∧ Keep (fun i => v.ownBlock = some i) w w' ∧ (v.ownBlock = some g ∨ w.heap.size < g) ∧ g < w'.heap.size := by
  obtain ⟨i0, hi, hz0, hz1, hz2⟩ := info_parts info_int
  have ka := keep_alloc w (.cells #[.int .i64 x] 3)
  have hx : Rd (w.alloc (.cells #[.int .i64 x] 3)) (fun _ => True) (.slice (some ⟨w.heap.size, 0, none⟩) 1 1) 1 (iv [x]) :=
    ⟨_, 1, rfl, Nat.le_refl _, by omega, fun _ => ⟨w.heap.size, 0, rfl, trivial, by simp, fun j u hu => by
      rw [cell_blk (heap_alloc_new w _), Nat.zero_add]
      simpa [iv, intV] using hu⟩⟩
  obtain ⟨v', w', hr, h⟩ := append_own (P := Try.prog) _ 0 43 ty 3 i0 (.int .i64 0) 1 8 Try.underlying43 hi hz0 hz1 hz2 rfl (by decide) v _ _ (ho.keepNo ka) _ _ _ _ hx rfl
    (iv_one _) (by unfold maxLen; omega) (by omega) (Nat.zero_le _)
  obtain ⟨g, cap, rfl, _, hg⟩ := h.own.form (by omega)
  refine ⟨g, cap, w', hr, ?_, (ka.no).trans h.keep, ?_, hg⟩
  · have := h.own
    unfold OwnI
    rwa [iv_append, List.length_append]
  · rcases h.lies g rfl with h | h
    · exact .inl h
    · right; simp at h; omega
theorem NewI.snoc {w wr w1 : World} {v : Value} {l : List Int} (h : NewI w wr v l) (k : Keep No wr w1) (x : Int) (hm : l.length ≤ 1000000) (ty : TypeId) :
    ∃ g cap w', (Builtin.append_ #[43, 43] ty #[v, .slice (some ⟨w1.heap.size, 0, none⟩) 1 1]).run Try.prog (w1.alloc (.cells #[.int .i64 x] 3)) = .ok (.slice (some ⟨g, 0, none⟩) (l.length + 1) cap) w' ∧
      NewI w w' (.slice (some ⟨g, 0, none⟩) (l.length + 1) cap) (l ++ [x]) := by
  obtain ⟨g, cap, w', h1, h2, h3, h4, h5⟩ := append_int (h.own.keepNo k) x hm ty
  refine ⟨g, cap, w', h1, (h.keep.thenNo k).then h3 (fun i hi e => by have := h.ge i e; omega), h2, fun i hi => ?_⟩
  have hgi : g = i := Option.some.inj hi
  subst hgi
  have := h.keep.size
  have := k.size
  rcases h4 with q | q
  · exact h.ge _ q
  · omega
/-! ### list.All -/
def slLen : Value → Nat
  | .slice _ n _ => n
  | _ => 0
/-- what holds ahead of each round -/
def AllRel (w wr : World) (b : List UInt8) (c : Nat) (h0 : Nat) (vo : Value) (at_ last : Nat) : Prop :=
  ∃ (done : List Int) (f : Nat), chain b c 1024 h0 0 = (chain b c f at_ last).map (done ++ ·) ∧ f + done.length = 1024 ∧ at_ < 18446744073709551616 ∧ last < 18446744073709551616 ∧ NewI w wr vo done
def allR (w w' : World) (e : Ending) : Option (List Int) → Prop
  | none => e = .returned (.tuple #[.slice none 0 0, errV 3]) ∧ Keep No w w'
  | some l => ∃ v, e = .returned (.tuple #[v, .nilIface]) ∧ NewI w w' v l
theorem list_All_no {w : World} (p : Nat) (c : Int) (hc : ¬ (0 ≤ c ∧ c < 22)) :
    Calls Try.prog 39 #[.pointer (some ⟨p, 0, none⟩), .int .i64 c] w fun e w' => e = .returned (.tuple #[.slice none 0 0, errV 1]) ∧ w = w' := by
  by_cases g : c < 0
  · clear hc
    go_enter Try.func39, Try.ntmps39
    go_wp2
    go_ret2
    exact ⟨rfl, rfl⟩
  · have g2 : ¬ c < 22 := by omega
    clear hc
    go_enter Try.func39, Try.ntmps39
    go_wp2
    go_ret2
    exact ⟨rfl, rfl⟩
theorem shr_bit (N c : Nat) (hN : N < 18446744073709551616) : bits .and .u64 ((N : Int) / 2 ^ c) 1 = ((N / 2 ^ c % 2 : Nat) : Int) := by
  have e : ((N : Int) / 2 ^ c) = ((N / 2 ^ c : Nat) : Int) := by rw [Int.natCast_ediv]; simp
  have hl : N / 2 ^ c < 18446744073709551616 := Nat.lt_of_le_of_lt (Nat.div_le_self _ _) hN
  rw [e]
  have := u64_and_nat (N / 2 ^ c) 1 hl (by decide)
  rw [nat_mask1] at this
  exact this
theorem testBit_mod (N c : Nat) : N.testBit c = decide (N / 2 ^ c % 2 = 1) := by
  rw [Nat.testBit_eq_decide_div_mod_eq]
theorem list_All {w : World} {p : Nat} {V : Value} {s : ArS} (h : Ar w p V s) (c : Nat) (hc : c < 22) :
    Calls Try.prog 39 #[.pointer (some ⟨p, 0, none⟩), .int .i64 c] w fun e w' => allR w w' e (lall s.b c) := by
  have hL := arena_Len h
  have hll := h.len_le
  have hcl := h.cap_le
  have hH := fun wx => list_head c (by omega) wx
  have hd2 : hd c ≤ 1000000 := by unfold hd; omega
  have HW := hid (fun wx (kk : Keep No w wx) o h0 h1 => list_word (h.keepNo kk) o h0 h1)
  have HM := hid (fun wx (kk : Keep No w wx) a ha => list_member (h.keepNo kk) a c ha)
  clear h
  generalize s.b = b at *
  by_cases g0 : b.length < 184
  · have hn : lall b c = none := by unfold lall; rw [if_pos g0]
    rw [hn]
    simp only [allR]
    have g0' : ((b.length : Nat) : Int) < 184 := by omega
    clear hn HW HM g0
    generalize b.length = len at *
    go_enter Try.func39, Try.ntmps39
    go_wp2_with fail
    refine hL.mono ?_; rintro e w1 ⟨rfl, rfl⟩
    go_wp2
    go_ret2
    exact ⟨rfl, Keep.refl _ _⟩
  · have g0' : ¬ ((b.length : Nat) : Int) < 184 := by omega
    have hWH := HW.out w (Keep.refl _ _) (hd c : Nat) (by omega) (by omega)
    have hW0 := HW.out w (Keep.refl _ _) 0 (by omega) (by omega)
    rw [Int.toNat_natCast] at hWH
    rw [Int.toNat_zero] at hW0
    have hat := num_lt b (hd c)
    have hla : lall b c = if (num b 0).testBit c ≠ decide (num b (hd c) ≠ 0) then none else chain b c 1024 (num b (hd c)) 0 := by unfold lall; rw [if_neg g0]
    rw [testBit_mod] at hla
    have hsb := shr_bit (num b 0) c (num_lt b 0)
    have HAT := hid hat
    have HNA := hid (fun o => num_lt b o)
    rw [hla]
    clear hla g0 hat
    generalize hd c = H at *
    generalize b.length = len at *
    generalize hA0 : num b H = at0 at *
    clear hA0
    generalize num b 0 = N at *
    generalize hMM : N / 2 ^ c % 2 = M at *
    clear hMM
    by_cases e1 : M = 1
    · have e1b : (((M : Nat) : Int) == 1) = true := by rw [beq_iff_eq]; omega
      by_cases e2 : at0 = 0
      · have e2b : (((at0 : Nat) : Int) != 0) = false := by rw [bne_eq_false_iff_eq]; omega
        rw [if_pos (by simp [e1, e2])]
        simp only [allR]
        clear HW HM e1 e2
        go_enter Try.func39, Try.ntmps39
        go_wp2_with fail
        refine hL.mono ?_; rintro e w1 ⟨rfl, rfl⟩
        go_wp2_with fail
        refine (hH _).mono ?_; rintro e w1 ⟨rfl, rfl⟩
        go_wp2_with fail
        refine hWH.mono ?_; rintro e w1 ⟨rfl, rfl⟩
        go_wp2_with fail
        refine hW0.mono ?_; rintro e w1 ⟨rfl, rfl⟩
        go_wp2
        go_ret2
        exact ⟨rfl, Keep.refl _ _⟩
      · have e2b : (((at0 : Nat) : Int) != 0) = true := by rw [bne_iff_ne]; omega
        rw [if_neg (by simp [e1, e2])]
        have e1 := e1
        have HR0 : Hid (AllRel w w b c at0 (.slice none 0 0) at0 0) := hid ⟨[], 1024, by simp, by simp, HAT.out, by decide, Keep.refl _ _, OwnI.nil w, fun k hk => by simp [Value.ownBlock] at hk⟩
        generalize hCH : chain b c 1024 at0 0 = CH
        have HCH := hid hCH
        clear hCH e1 e2
        go_enter Try.func39, Try.ntmps39
        go_wp2_with fail
        refine hL.mono ?_; rintro e w1 ⟨rfl, rfl⟩
        go_wp2_with fail
        refine (hH _).mono ?_; rintro e w1 ⟨rfl, rfl⟩
        go_wp2_with fail
        refine hWH.mono ?_; rintro e w1 ⟨rfl, rfl⟩
        go_wp2_with fail
        refine hW0.mono ?_; rintro e w1 ⟨rfl, rfl⟩
        go_wp2_with fail
        clear hL hWH hW0 hsb e1b e2b
        go_loopw [6, 7, 8] (fun a l vo wr => ∃ at_ last : Nat, a = .int .u64 at_ ∧ l = .int .u64 last ∧ AllRel w wr b c at0 vo at_ last) (fun _ _ vo _ => 1025 - slLen vo)
        case atStart => exact ⟨at0, 0, rfl, rfl, HR0.out⟩
        case round =>
          obtain ⟨at_, last, rfl, rfl, done, f, r1, r2, r3, r4, r5⟩ := hrel
          obtain ⟨Ao, co, rfl, hco1, hco2⟩ := r5.own.form
          have R1 := hid r1
          have R2 := hid r2
          have R3 := hid r3
          have R5 := hid r5
          have hdl : done.length ≤ 1024 := by omega
          clear r1 r2 r5
          by_cases f0 : at_ = 0
          · subst f0
            have hCH : CH = some done := by
              rw [← HCH.out, R1.out]
              have : chain b c f 0 last = some [] := by cases f <;> simp [chain]
              rw [this]; simp
            subst hCH
            clear HW HM HNA
            go_wp2
            go_ret2
            exact ⟨_, rfl, R5.out⟩
          · have f0b : (((at_ : Nat) : Int) != 0) = true := by rw [bne_iff_ne]; omega
            cases f with
            | zero =>
              have hCH : CH = none := by
                rw [← HCH.out, R1.out]; simp [chain, f0]
              subst hCH
              have hfull : ((done.length : Int) == 1024) = true := by rw [beq_iff_eq]; have := R2.out; omega
              clear HW HM HNA f0
              go_wp2
              go_ret2
              exact ⟨rfl, R5.out.keep⟩
            | succ f =>
              have hfull : ((done.length : Int) == 1024) = false := by rw [beq_eq_false_iff_ne]; have := R2.out; omega
              have hM := HM.out wr R5.out.keep at_ R3.out
              cases hm : member b at_ c with
              | false =>
                rw [hm] at hM
                have hCH : CH = none := by
                  rw [← HCH.out, R1.out]; simp [chain, f0, hm]
                subst hCH
                clear HW HM HNA f0 hm
                go_wp2_with fail
                refine hM.mono ?_; rintro e w2 ⟨rfl, k2⟩
                go_wp2
                go_ret2
                exact ⟨rfl, R5.out.keep.thenNo k2⟩
              | true =>
                rw [hm] at hM
                have hle := member_le hm
                have HW16 := hid (fun wx (kk : Keep No w wx) => HW.out wx kk ((at_ : Int) + 16) (by omega) (by omega))
                rw [show ((at_ : Int) + 16).toNat = at_ + 16 from by omega] at HW16
                by_cases f1 : num b (at_ + 16) = last
                · have f1b : (((num b (at_ + 16) : Nat) : Int) != (last : Int)) = false := by rw [bne_eq_false_iff_eq]; omega
                  have HW8 := hid (fun wx (kk : Keep No w wx) => HW.out wx kk ((at_ : Int) + 8) (by omega) (by omega))
                  rw [show ((at_ : Int) + 8).toNat = at_ + 8 from by omega] at HW8
                  have HN : Hid (chain b c (f + 1) at_ last = (chain b c f (num b (at_ + 8)) at_).map ((at_ : Int) :: ·)) := hid (by simp [chain, f0, hm, f1])
                  have HNX := hid (HNA.out (at_ + 8))
                  clear HW HM HNA f0 hm f1
                  generalize num b (at_ + 8) = nx at *
                  generalize num b (at_ + 16) = pv at *
                  go_wp2_with fail
                  refine hM.mono ?_; rintro e w2 ⟨rfl, k2⟩
                  go_wp2_with fail
                  refine (HW16.out _ (R5.out.keep.thenNo k2)).mono ?_; rintro e w3 ⟨rfl, rfl⟩
                  obtain ⟨g, cap, w4, ha1, ha2⟩ := R5.out.snoc k2 (at_ : Int) (by omega) 43
                  have HA2 := hid ha2
                  clear ha2 hM
                  go_wp2_with (at_builtin; refine Lib.wpList_append_run _ rfl (.tmp 56) (.tmp 59) 43 43 rfl _ _ rfl rfl _ _ ha1 ?_)
                  refine (HW8.out _ HA2.out.keep).mono ?_; rintro e w5 ⟨rfl, rfl⟩
                  clear ha1
                  go_wp2
                  refine ⟨⟨nx, at_, rfl, rfl, done ++ [(at_ : Int)], f, ?_, ?_, HNX.out, R3.out, ?_⟩, ?_⟩
                  · rw [R1.out, HN.out, Option.map_map]
                    congr 1
                    funext r
                    simp
                  · have := R2.out; simp; omega
                  · exact HA2.out
                  · simp [slLen]; omega
                · have f1b : (((num b (at_ + 16) : Nat) : Int) != (last : Int)) = true := by rw [bne_iff_ne]; omega
                  have hCH : CH = none := by
                    rw [← HCH.out, R1.out]; simp [chain, f0, hm, f1]
                  subst hCH
                  clear HW HM HNA f0 hm f1
                  generalize num b (at_ + 16) = pv at *
                  go_wp2_with fail
                  refine hM.mono ?_; rintro e w2 ⟨rfl, k2⟩
                  go_wp2_with fail
                  refine (HW16.out _ (R5.out.keep.thenNo k2)).mono ?_; rintro e w3 ⟨rfl, rfl⟩
                  go_wp2
                  go_ret2
                  exact ⟨rfl, R5.out.keep.thenNo k2⟩
    · have e1b : (((M : Nat) : Int) == 1) = false := by rw [beq_eq_false_iff_ne]; omega
      by_cases e2 : at0 = 0
      · have e2b : (((at0 : Nat) : Int) != 0) = false := by rw [bne_eq_false_iff_eq]; omega
        rw [if_neg (by simp [e1, e2])]
        have e1 := e1
        have HR0 : Hid (AllRel w w b c at0 (.slice none 0 0) at0 0) := hid ⟨[], 1024, by simp, by simp, HAT.out, by decide, Keep.refl _ _, OwnI.nil w, fun k hk => by simp [Value.ownBlock] at hk⟩
        generalize hCH : chain b c 1024 at0 0 = CH
        have HCH := hid hCH
        clear hCH e1 e2
        go_enter Try.func39, Try.ntmps39
        go_wp2_with fail
        refine hL.mono ?_; rintro e w1 ⟨rfl, rfl⟩
        go_wp2_with fail
        refine (hH _).mono ?_; rintro e w1 ⟨rfl, rfl⟩
        go_wp2_with fail
        refine hWH.mono ?_; rintro e w1 ⟨rfl, rfl⟩
        go_wp2_with fail
        refine hW0.mono ?_; rintro e w1 ⟨rfl, rfl⟩
        go_wp2_with fail
        clear hL hWH hW0 hsb e1b e2b
        go_loopw [6, 7, 8] (fun a l vo wr => ∃ at_ last : Nat, a = .int .u64 at_ ∧ l = .int .u64 last ∧ AllRel w wr b c at0 vo at_ last) (fun _ _ vo _ => 1025 - slLen vo)
        case atStart => exact ⟨at0, 0, rfl, rfl, HR0.out⟩
        case round =>
          obtain ⟨at_, last, rfl, rfl, done, f, r1, r2, r3, r4, r5⟩ := hrel
          obtain ⟨Ao, co, rfl, hco1, hco2⟩ := r5.own.form
          have R1 := hid r1
          have R2 := hid r2
          have R3 := hid r3
          have R5 := hid r5
          have hdl : done.length ≤ 1024 := by omega
          clear r1 r2 r5
          by_cases f0 : at_ = 0
          · subst f0
            have hCH : CH = some done := by
              rw [← HCH.out, R1.out]
              have : chain b c f 0 last = some [] := by cases f <;> simp [chain]
              rw [this]; simp
            subst hCH
            clear HW HM HNA
            go_wp2
            go_ret2
            exact ⟨_, rfl, R5.out⟩
          · have f0b : (((at_ : Nat) : Int) != 0) = true := by rw [bne_iff_ne]; omega
            cases f with
            | zero =>
              have hCH : CH = none := by
                rw [← HCH.out, R1.out]; simp [chain, f0]
              subst hCH
              have hfull : ((done.length : Int) == 1024) = true := by rw [beq_iff_eq]; have := R2.out; omega
              clear HW HM HNA f0
              go_wp2
              go_ret2
              exact ⟨rfl, R5.out.keep⟩
            | succ f =>
              have hfull : ((done.length : Int) == 1024) = false := by rw [beq_eq_false_iff_ne]; have := R2.out; omega
              have hM := HM.out wr R5.out.keep at_ R3.out
              cases hm : member b at_ c with
              | false =>
                rw [hm] at hM
                have hCH : CH = none := by
                  rw [← HCH.out, R1.out]; simp [chain, f0, hm]
                subst hCH
                clear HW HM HNA f0 hm
                go_wp2_with fail
                refine hM.mono ?_; rintro e w2 ⟨rfl, k2⟩
                go_wp2
                go_ret2
                exact ⟨rfl, R5.out.keep.thenNo k2⟩
              | true =>
                rw [hm] at hM
                have hle := member_le hm
                have HW16 := hid (fun wx (kk : Keep No w wx) => HW.out wx kk ((at_ : Int) + 16) (by omega) (by omega))
                rw [show ((at_ : Int) + 16).toNat = at_ + 16 from by omega] at HW16
                by_cases f1 : num b (at_ + 16) = last
                · have f1b : (((num b (at_ + 16) : Nat) : Int) != (last : Int)) = false := by rw [bne_eq_false_iff_eq]; omega
                  have HW8 := hid (fun wx (kk : Keep No w wx) => HW.out wx kk ((at_ : Int) + 8) (by omega) (by omega))
                  rw [show ((at_ : Int) + 8).toNat = at_ + 8 from by omega] at HW8
                  have HN : Hid (chain b c (f + 1) at_ last = (chain b c f (num b (at_ + 8)) at_).map ((at_ : Int) :: ·)) := hid (by simp [chain, f0, hm, f1])
                  have HNX := hid (HNA.out (at_ + 8))
                  clear HW HM HNA f0 hm f1
                  generalize num b (at_ + 8) = nx at *
                  generalize num b (at_ + 16) = pv at *
                  go_wp2_with fail
                  refine hM.mono ?_; rintro e w2 ⟨rfl, k2⟩
                  go_wp2_with fail
                  refine (HW16.out _ (R5.out.keep.thenNo k2)).mono ?_; rintro e w3 ⟨rfl, rfl⟩
                  obtain ⟨g, cap, w4, ha1, ha2⟩ := R5.out.snoc k2 (at_ : Int) (by omega) 43
                  have HA2 := hid ha2
                  clear ha2 hM
                  go_wp2_with (at_builtin; refine Lib.wpList_append_run _ rfl (.tmp 56) (.tmp 59) 43 43 rfl _ _ rfl rfl _ _ ha1 ?_)
                  refine (HW8.out _ HA2.out.keep).mono ?_; rintro e w5 ⟨rfl, rfl⟩
                  clear ha1
                  go_wp2
                  refine ⟨⟨nx, at_, rfl, rfl, done ++ [(at_ : Int)], f, ?_, ?_, HNX.out, R3.out, ?_⟩, ?_⟩
                  · rw [R1.out, HN.out, Option.map_map]
                    congr 1
                    funext r
                    simp
                  · have := R2.out; simp; omega
                  · exact HA2.out
                  · simp [slLen]; omega
                · have f1b : (((num b (at_ + 16) : Nat) : Int) != (last : Int)) = true := by rw [bne_iff_ne]; omega
                  have hCH : CH = none := by
                    rw [← HCH.out, R1.out]; simp [chain, f0, hm, f1]
                  subst hCH
                  clear HW HM HNA f0 hm f1
                  generalize num b (at_ + 16) = pv at *
                  go_wp2_with fail
                  refine hM.mono ?_; rintro e w2 ⟨rfl, k2⟩
                  go_wp2_with fail
                  refine (HW16.out _ (R5.out.keep.thenNo k2)).mono ?_; rintro e w3 ⟨rfl, rfl⟩
                  go_wp2
                  go_ret2
                  exact ⟨rfl, R5.out.keep.thenNo k2⟩
      · have e2b : (((at0 : Nat) : Int) != 0) = true := by rw [bne_iff_ne]; omega
        rw [if_pos (by simp [e1, e2])]
        simp only [allR]
        clear HW HM e1 e2
        go_enter Try.func39, Try.ntmps39
        go_wp2_with fail
        refine hL.mono ?_; rintro e w1 ⟨rfl, rfl⟩
        go_wp2_with fail
        refine (hH _).mono ?_; rintro e w1 ⟨rfl, rfl⟩
        go_wp2_with fail
        refine hWH.mono ?_; rintro e w1 ⟨rfl, rfl⟩
        go_wp2_with fail
        refine hW0.mono ?_; rintro e w1 ⟨rfl, rfl⟩
        go_wp2
        go_ret2
        exact ⟨rfl, Keep.refl _ _⟩
end Go.Proofs.Ytnldmhljggcnpaa
