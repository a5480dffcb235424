/- What the kit's print printed for functions of this seat (laws that it does not take whole). -/
import Derived.Test.YtnldmhljggcnpaaRef0
import Derived.Test.YtnldmhljggcnpaaRef1
import Derived.Test.YtnldmhljggcnpaaRef2
import Derived.Test.YtnldmhljggcnpaaRef4
import Derived.Test.YtnldmhljggcnpaaRef5
namespace Go.Proofs.Ytnldmhljggcnpaa.Ref
open Go.RowKit Go.Proofs.YtnldmhljggcnpaaW.PrintWords Go.Proofs.YtnldmhljggcnpaaW.PrintLast Go.Proofs.YtnldmhljggcnpaaW.PrintMore
attribute [local go_sem] max2_int min2_int max_two min_two max_three min_three max_four min_four   -- for this text's walks alone
set_option linter.unusedVariables false
set_option linter.unusedSimpArgs false

/-! ### cantleref07_Rebuild: function 33 -/
def cantleref07_Rebuild.l0 : Nat → List (S57) → List Int → Int → Option (List Int × Bool)
  | 0, _, _, _ => none
  | k + 1, x4, x6, x7 => if x7 < (x4.length : Int) then (if 0 ≤ x7 then (if ((rd_T57 x4 x7).f2 = true) then (cantleref07_Rebuild.l0 k x4 x6 (wrap64 (x7 + 1))) else ((cantleref07_Put.f k x6 ((rd_T57 x4 x7).f0)).bind fun bt300 => (cantleref07_Rebuild.l0 k x4 bt300.1 (wrap64 (x7 + 1))))) else (none)) else (some (x6, true))
def cantleref07_Rebuild.f (k : Nat) (l0 : List Int) : Option (List Int × Bool) := (cantleref07_Walk.f k l0).bind fun bt284 => (if bt284.2 = true then (if 184 ≤ 281474976710656 then ((some (List.replicate 184 0 : List Int)).bind fun y288 => (if 184 ≤ (l0.length : Int) then ((some (l0.drop 184 : List Int)).bind fun y291 => (if y288.length + y291.length < 140737488355328 then (cantleref07_Rebuild.l0 k bt284.1 (y288 ++ y291) 0) else (none))) else (none))) else (none)) else (some (l0, false)))
theorem cantleref07_Rebuild.mono_l : ∀ k, (∀ y0 y1 y2, LeO (cantleref07_Rebuild.l0 k y0 y1 y2) (cantleref07_Rebuild.l0 (k + 1) y0 y1 y2))
  | 0 => fun _ _ _ r h => by simp [cantleref07_Rebuild.l0] at h
  | k + 1 => by
    have ih0 := cantleref07_Rebuild.mono_l k
    · intro y0 y1 y2
      unfold cantleref07_Rebuild.l0
      repeat' first
      | (with_reducible exact ih0 _ _ _)
      | (with_reducible exact cantleref07_Put.mono _ _ _)
      | (with_reducible exact cantleref07_Walk.mono _ _)
      | (with_reducible exact LeO.refl _)
      | (with_reducible exact LeO.none _)
      | (with_reducible refine LeO.ite ?_ ?_)
      | (with_reducible refine LeO.bind ?_ (fun _ => ?_))
      | exact ih0 _ _ _
      | exact cantleref07_Put.mono _ _ _
      | exact cantleref07_Walk.mono _ _
      | exact LeO.none _
      | refine LeO.ite ?_ ?_
      | refine LeO.bind ?_ (fun _ => ?_)
theorem cantleref07_Rebuild.mono : ∀ a0 k, LeO (cantleref07_Rebuild.f k a0) (cantleref07_Rebuild.f (k + 1) a0) := by
  intro a0 k
  have ih0 := cantleref07_Rebuild.mono_l k
  unfold cantleref07_Rebuild.f
  repeat' first
      | (with_reducible exact ih0 _ _ _)
      | (with_reducible exact cantleref07_Put.mono _ _ _)
      | (with_reducible exact cantleref07_Walk.mono _ _)
      | (with_reducible exact LeO.refl _)
      | (with_reducible exact LeO.none _)
      | (with_reducible refine LeO.ite ?_ ?_)
      | (with_reducible refine LeO.bind ?_ (fun _ => ?_))
      | exact ih0 _ _ _
      | exact cantleref07_Put.mono _ _ _
      | exact cantleref07_Walk.mono _ _
      | exact LeO.none _
      | refine LeO.ite ?_ ?_
      | refine LeO.bind ?_ (fun _ => ?_)
set_option maxHeartbeats 8000000 in
set_option maxRecDepth 100000 in
theorem cantleref07_Rebuild.calls (k : Nat) (P0_ : Nat → Prop) (u9000_ : Value) (l0 : List Int) (r1 : List Int) (r2 : Bool) (w0 w : World) (hB : Below w0.heap.size w0 w) (ho0 : Kd.R (Kd.int .u8) 5 w w0.heap.size P0_ u9000_ l0) (h : cantleref07_Rebuild.f k l0 = some (r1, r2)) :
    Calls Try.prog 33 #[u9000_] w fun e w' => ∃ v0_ : Value, e = .returned (.tuple #[v0_, .bool r2]) ∧ Kd.R (Kd.int .u8) 5 w' w0.heap.size (fun k_ => (P0_ k_ ∨ w.heap.size ≤ k_)) v0_ r1 ∧ Below w0.heap.size w0 w' ∧ Kept w w' (fun k_ => P0_ k_) := by
  have HO0 := Aside0.mk (show Kd.R (Kd.int .u8) 5 w w0.heap.size (fun k_ => (P0_ k_ ∨ w.heap.size ≤ k_)) u9000_ l0 from Kd.R_mono ho0 (fun k_ hk => (.inl hk)))
  have HK := Aside0.mk (Kept.refl w (fun k_ => P0_ k_))
  have HW0 := Aside0.mk hB.size
  have HB := Aside0.mk hB
  clear hB
  have H : ((cantleref07_Walk.f k l0).bind fun bt284 => (if bt284.2 = true then (if 184 ≤ 281474976710656 then ((some (List.replicate 184 0 : List Int)).bind fun y288 => (if 184 ≤ (l0.length : Int) then ((some (l0.drop 184 : List Int)).bind fun y291 => (if y288.length + y291.length < 140737488355328 then (cantleref07_Rebuild.l0 k bt284.1 (y288 ++ y291) 0) else (none))) else (none))) else (none)) else (some (l0, false)))) = some (r1, r2) := h
  clear h
  replace H := Option.bind_eq_some_iff.mp H
  obtain ⟨⟨t284, t285⟩, A20, H⟩ := H
  replace H : (if t285 = true then (if 184 ≤ 281474976710656 then ((some (List.replicate 184 0 : List Int)).bind fun y288 => (if 184 ≤ (l0.length : Int) then ((some (l0.drop 184 : List Int)).bind fun y291 => (if y288.length + y291.length < 140737488355328 then (cantleref07_Rebuild.l0 k t284 (y288 ++ y291) 0) else (none))) else (none))) else (none)) else (some (l0, false))) = some (r1, r2) := H
  have A2 := Aside0.mk A20
  clear A20
  by_cases c3 : t285 = true
  · subst c3
    have H1 : (if 184 ≤ 281474976710656 then ((some (List.replicate 184 0 : List Int)).bind fun y288 => (if 184 ≤ (l0.length : Int) then ((some (l0.drop 184 : List Int)).bind fun y291 => (if y288.length + y291.length < 140737488355328 then (cantleref07_Rebuild.l0 k t284 (y288 ++ y291) 0) else (none))) else (none))) else (none)) = some (r1, r2) := by rw [if_pos rfl] at H; exact H
    clear H
    have H := H1
    clear H1
    by_cases c4 : 184 ≤ 281474976710656
    · rw [if_pos c4] at H
      have c4b0 := eq_true c4
      have c4b1 : decide (184 ≤ 281474976710656) = true := decide_eq_true c4
      clear c4
      obtain ⟨y288, hy288⟩ : ∃ y_ : List Int, y_ = (List.replicate 184 0) := ⟨_, rfl⟩
      replace H : (if 184 ≤ (l0.length : Int) then ((some (l0.drop 184 : List Int)).bind fun y291 => (if y288.length + y291.length < 140737488355328 then (cantleref07_Rebuild.l0 k t284 (y288 ++ y291) 0) else (none))) else (none)) = some (r1, r2) := by first | (rw [hy288]; with_reducible exact H) | (have H2_ := (Option.bind_some _ _).symm.trans H; rw [hy288]; with_reducible exact H2_) | (have H2_ := (Option.bind_some _ _).symm.trans H; with_reducible exact H2_) | with_reducible exact H | (rw [hy288]; exact H) | exact H
      have Ny288 := Aside0.mk hy288
      clear hy288
      by_cases c5 : 184 ≤ (l0.length : Int)
      · rw [if_pos c5] at H
        have c5b0 := eq_true c5
        have c5b1 : decide (184 ≤ (l0.length : Int)) = true := decide_eq_true c5
        clear c5
        obtain ⟨y291, hy291⟩ : ∃ y_ : List Int, y_ = (l0.drop 184) := ⟨_, rfl⟩
        replace H : (if y288.length + y291.length < 140737488355328 then (cantleref07_Rebuild.l0 k t284 (y288 ++ y291) 0) else (none)) = some (r1, r2) := by first | (rw [hy291]; with_reducible exact H) | (have H2_ := (Option.bind_some _ _).symm.trans H; rw [hy291]; with_reducible exact H2_) | (have H2_ := (Option.bind_some _ _).symm.trans H; with_reducible exact H2_) | with_reducible exact H | (rw [hy291]; exact H) | exact H
        have Ny291 := Aside0.mk hy291
        clear hy291
        by_cases c6 : y288.length + y291.length < 140737488355328
        · rw [if_pos c6] at H
          have LMc6 := Aside0.mk c6
          clear c6
          obtain ⟨y295, hy295⟩ : ∃ y_ : List Int, y_ = (y288 ++ y291) := ⟨_, rfl⟩
          replace H : (cantleref07_Rebuild.l0 k t284 y295 0) = some (r1, r2) := by first | (rw [hy295]; with_reducible exact H) | (have H2_ := (Option.bind_some _ _).symm.trans H; rw [hy295]; with_reducible exact H2_) | (have H2_ := (Option.bind_some _ _).symm.trans H; with_reducible exact H2_) | with_reducible exact H | (rw [hy295]; exact H) | exact H
          have Ny295 := Aside0.mk hy295
          clear hy295
          have H' := Aside0.mk H
          clear H
          obtain ⟨Ao7, co7, eo7⟩ := Kd.R_slice HO0.out
          subst eo7
          go_enter Try.func33, Try.ntmps33
          try go_wp2_with (first | ((with_reducible refine gate_callee (f := 108) rfl ?_); refine goesL_ (some 10) rfl rfl Try.func108 (by kernel_rfl) rfl #[.slice Ao7 l0.length co7] rfl (by (try simp only [List.map_toArray, List.map_cons, List.map_nil]); first | done | rfl | (simp only [List.length_drop, List.length_take]; rfl)) ?_; (with_reducible refine (cantleref07_Walk.calls k _ _ l0 t284 true _ ?side1 ?side2 A2.out).mono ?_); (case side1 => repeat (first | exact (Kd.R_reads' HO0.out).2.2 | (with_reducible refine Kd.C_alloc ?_ _) | (with_reducible refine Kd.C_drewN ?_ _) | (with_reducible refine Kd.C_drew ?_))); (case side2 => exact (Kd.R_reads' HO0.out).2.1); rintro e w8 ⟨v286, rfl, ho0, hb⟩; refine ⟨_, rfl, ?_⟩; have n0_ := Aside0.mk (Kd.R_below (by (with_reducible repeat (first | apply Kd.R_alloc | apply Kd.R_drewN | apply Kd.R_drew)); exact HO0.out) hb); have n1_ := Aside0.mk (Kd.R_lower (Kd.R_newM (M := fun k_ => (P0_ k_ ∨ w.heap.size ≤ k_)) ho0 (by first | exact HK.out.1 | exact (show Kept w _ (fun k_ => P0_ k_) from by repeat (first | (with_reducible first | exact HK.out | apply Kept.alloc | apply Kept.drewN | apply Kept.drew) | exact HK.out)).1) (fun k_ h_ => .inr h_)) (below_size (by repeat (first | (with_reducible first | exact HB.out | apply below_alloc | apply pw_below_drewN | apply below_drew1) | exact HB.out)))); have n2_ := Aside0.mk (Kept.below (S := (fun k_ => P0_ k_)) (by repeat (first | (with_reducible first | exact HK.out | apply Kept.alloc | apply Kept.drewN | apply Kept.drew) | exact HK.out)) hb); have n3_ := Aside0.mk (below_step (by repeat (first | (with_reducible first | exact HB.out | apply below_alloc | apply pw_below_drewN | apply below_drew1) | exact HB.out)) hb); clear HO0; clear HK; clear HB; have HO0 := n0_; have HO287 := n1_; have HK := n2_; have HB := n3_; clear n0_ n1_ n2_ n3_; (try clear hb); (try clear hb2); (try clear hk); (try clear hi); (try clear ho0)))
          have n0_ := Aside0.mk (Kd.R_drew HO0.out)
          have n1_ := Aside0.mk (Kd.R_drew HO287.out)
          have n2_ := Aside0.mk (Kept.drew HK.out)
          have n3_ := Aside0.mk (below_drew1 HB.out)
          clear HO0
          clear HO287
          clear HK
          clear HB
          have HO0 := n0_
          have HO287 := n1_
          have HK := n2_
          have HB := n3_
          clear n0_ n1_ n2_ n3_
          have q10 : (184 : Int) ≤ ((l0.length : Int) : Int) := of_decide_eq_true (by first | (with_reducible assumption) | assumption)
          obtain ⟨i010, hi010, _, hsz10, _⟩ := info_parts info5
          have hroom10 : l0.length ≤ co7 := (Kd.R_reads' HO0.out).2.1
          have hC10 : Kd.C (Kd.int .u8) _ Ao7 l0.length l0 := (Kd.R_reads' HO0.out).2.2
          have hcut10 := cut_from (P := Try.prog) 24 5 .i64 Try.underlying24 hi010 1 hsz10 Ao7 l0.length co7 184 (by omega) q10
          have hr10 := Kd.C_drop (m := (184 : Int).toNat) (c := co7) hC10 (by omega) hroom10
          obtain ⟨A10, hA10⟩ : ∃ A1, A1 = (if co7 = (184 : Int).toNat then Ao7 else (Ao7 : Option Addr).map (·.add ((184 : Int).toNat * 1))) := ⟨_, rfl⟩
          obtain ⟨c10, hc10⟩ : ∃ c1, c1 = co7 - (184 : Int).toNat := ⟨_, rfl⟩
          have hy10 : y291.length = l0.length - (184 : Int).toNat := (by rw [Ny291.out, List.length_drop] <;> omega)
          rw [show (l0).drop (184 : Int).toNat = y291 from Ny291.out.symm] at hr10
          replace hr10 : Kd.C (Kd.int .u8) _ A10 y291.length y291 := (by rw [hA10]; exact hr10)
          rw [← hy10, ← hA10, ← hc10] at hcut10
          have HR294 := Aside0.mk hr10
          have HC294 := Aside0.mk (show y291.length ≤ c10 from by rw [hy10, hc10]; exact Nat.sub_le_sub_right hroom10 _)
          clear hr10 hC10 hroom10 hi010 hsz10 hc10
          have KY10 := Aside0.mk hy10
          have KA10 := Aside0.mk hA10
          clear hy10 hA10
          have KL10 := Aside0.mk (show 184 ≤ l0.length from by omega)
          replace q10 := eq_true q10
          refine start_ (n := 5) (S := fun w' => True) (ds := []) #[false, false, false, false, false] (by kernel_rfl) rfl rfl trivial (fun hHeld => ?_)
          generalize w8.drew = w9 at HO0 HO287 HK HB HR294 hHeld ⊢
          refine pure_ (i := 1) (N := some 17) (v := ?_) (a' := ?_) #[false, true, false, false, false] rfl rfl (by kernel_rfl) (fun _ _ _ h => h) (Or.inl ⟨by rfl, ?_⟩) ?_ ?_
          rotate_left
          · intro w'
            go_simp
            with_reducible rfl
          rotate_left
          · simp only [Act.put, List.setIfInBounds_toArray, List.set_cons_zero, List.set_cons_succ, i64_w, i32_w]
            rfl
          refine pure_ (i := 2) (N := some 18) (v := ?_) (a' := ?_) #[false, true, true, false, false] rfl rfl (by kernel_rfl) (fun _ _ _ h => h) (Or.inl ⟨by rfl, ?_⟩) ?_ ?_
          rotate_left
          · intro w'
            go_simp
            with_reducible rfl
          rotate_left
          · simp only [Act.put, List.setIfInBounds_toArray, List.set_cons_zero, List.set_cons_succ, i64_w, i32_w]
            rfl
          refine one_ (i := 0) (N := some 16) #[true, true, true, false, false] rfl rfl (by kernel_rfl) (by decide) (fun K hK => ?_)
          refine Kd.R_make_step (Kd.int .u8) _ 5 (by rfl) (N := 16) rfl 24 _ _ rfl 184 rfl rfl Try.underlying24 (.int .u8 0) 1 info5 rfl (by decide) (by omega) 0 (ok := fun _ => True) (okp := fun _ => True) rfl (fun _ hk => hk) trivial (by omega) (by omega) (Below.refl _ _) (Nat.le_refl _) ?_
          intro v289 w11 ho12 hb hg_ hnew_
          clear hg_ hnew_
          (first | rw [← Ny288.out] at ho12 | (simp only [Int.reduceToNat] at ho12; rw [← Ny288.out] at ho12))
          have n0_ := Aside0.mk (Kd.R_elder' (by (with_reducible repeat (first | apply Kd.R_alloc | apply Kd.R_drewN | apply Kd.R_drew)); exact HO0.out) (Kd.R_base ho12) hb)
          have n1_ := Aside0.mk (Kd.R_below (by (with_reducible repeat (first | apply Kd.R_alloc | apply Kd.R_drewN | apply Kd.R_drew)); exact HO287.out) hb)
          have n2_ := Aside0.mk (Kd.R_lower (Kd.R_new' (Kd.R_newM (M := fun k_ => (P0_ k_ ∨ w.heap.size ≤ k_)) ho12 (by first | exact HK.out.1 | exact (show Kept w _ (fun k_ => P0_ k_) from by repeat (first | (with_reducible first | exact HK.out | apply Kept.alloc | apply Kept.drewN | apply Kept.drew) | exact HK.out)).1) (fun k_ h_ => .inr h_)) (Kd.R_lt (by (with_reducible repeat (first | apply Kd.R_alloc | apply Kd.R_drewN | apply Kd.R_drew)); exact HO0.out))) (below_size (by repeat (first | (with_reducible first | exact HB.out | apply below_alloc | apply pw_below_drewN | apply below_drew1) | exact HB.out))))
          have n3_ := Aside0.mk (Kd.C_below (by repeat (first | (with_reducible exact HR294.out) | (with_reducible refine Kd.C_alloc ?_ _) | (with_reducible refine Kd.C_drewN ?_ _) | (with_reducible refine Kd.C_drew ?_) | exact HR294.out)) hb)
          have n4_ := Aside0.mk (Kept.below (S := (fun k_ => P0_ k_)) (by repeat (first | (with_reducible first | exact HK.out | apply Kept.alloc | apply Kept.drewN | apply Kept.drew) | exact HK.out)) hb)
          have n5_ := Aside0.mk (below_step (by repeat (first | (with_reducible first | exact HB.out | apply below_alloc | apply pw_below_drewN | apply below_drew1) | exact HB.out)) hb)
          clear HO0
          clear HO287
          clear HR294
          clear HK
          clear HB
          have HO0 := n0_
          have HO287 := n1_
          have HO290 := n2_
          have HR294 := n3_
          have HK := n4_
          have HB := n5_
          clear n0_ n1_ n2_ n3_ n4_ n5_
          clear hb ho12
          refine hK.out _ _ trivial (fun hHeld => ?_)
          clear hK K
          refine norm_ (a' := ?_) ?_ ?_
          rotate_left
          · show Act.put _ (some 16) _ = _
            simp only [Act.put, List.setIfInBounds_toArray, List.set_cons_zero, List.set_cons_succ, i64_w, i32_w]
            rfl
          refine one_ (i := 3) (N := some 19) #[true, true, true, true, false] rfl rfl (by kernel_rfl) (by decide) (fun K hK => ?_)
          refine Kd.R_append_rows_step (Kd.int .u8) (w0 := w0) w0.heap.size (by rfl) (.tmp 16) (.tmp 18) 24 5 (.int .u8 0) 1 rfl Try.underlying24 info5 rfl (by decide) (by omega) v289 y288 y291 _ _ _ (fun k_ => (P0_ k_ ∨ w.heap.size ≤ k_) ∧ some k_ ≠ (.slice Ao7 l0.length co7 : Value).ownBlock) (fun _ => False) rfl rfl ?aO ?aR (fun _ _ h => h) (fun _ h => h.elim) ?aF ?aB ?aS ?aL ?_
          (case aR => repeat (first | exact (by repeat (first | (with_reducible exact HR294.out) | (with_reducible refine Kd.C_alloc ?_ _) | (with_reducible refine Kd.C_drewN ?_ _) | (with_reducible refine Kd.C_drew ?_) | exact HR294.out)) | (with_reducible refine Kd.C_alloc ?_ _) | (with_reducible refine Kd.C_drewN ?_ _) | (with_reducible refine Kd.C_drew ?_)))
          (case aB => exact (by repeat (first | (with_reducible first | exact HB.out | apply below_alloc | apply pw_below_drewN | apply below_drew1) | exact HB.out)))
          (case aF => exact (fun k_ hk => ⟨(.inr (Nat.le_trans (by first | exact HK.out.1 | exact (show Kept w _ (fun k_ => P0_ k_) from by repeat (first | (with_reducible first | exact HK.out | apply Kept.alloc | apply Kept.drewN | apply Kept.drew) | exact HK.out)).1) hk)), Kd.fresh' (Kd.R_lt (by (with_reducible repeat (first | apply Kd.R_alloc | apply Kd.R_drewN | apply Kd.R_drew)); exact HO0.out)) k_ hk⟩))
          (case aO => exact (by (with_reducible repeat (first | apply Kd.R_alloc | apply Kd.R_drewN | apply Kd.R_drew)); exact Kd.R_mono HO290.out (fun _ hk => ⟨hk.1.1, hk.2⟩)))
          (case aS => exact (below_size (by repeat (first | (with_reducible first | exact HB.out | apply below_alloc | apply pw_below_drewN | apply below_drew1) | exact HB.out))))
          (case aL => have := LMc6.out; omega)
          intro v296 w13 ho hb hg hat
          rw [← Ny295.out] at ho
          have n0_ := Aside0.mk (Kd.R_after (ok := (fun k_ => (P0_ k_ ∨ w.heap.size ≤ k_))) (by (with_reducible repeat (first | apply Kd.R_alloc | apply Kd.R_drewN | apply Kd.R_drew)); exact HO0.out) hg hat)
          have n1_ := Aside0.mk (Kd.R_over' (by (with_reducible repeat (first | apply Kd.R_alloc | apply Kd.R_drewN | apply Kd.R_drew)); exact HO287.out) (Kd.R_typed (by (with_reducible repeat (first | apply Kd.R_alloc | apply Kd.R_drewN | apply Kd.R_drew)); exact HO290.out)) (by decide) hg)
          have n2_ := Aside0.mk (hb)
          have n3_ := Aside0.mk (Kept.of_grown (S := (fun k_ => P0_ k_)) hg (by repeat (first | (with_reducible first | exact HK.out | apply Kept.alloc | apply Kept.drewN | apply Kept.drew) | exact HK.out)) (fun k_ e_ => (HO290.out.1 k_ e_).1.1))
          have n4_ := Aside0.mk ((show Kd.C (Kd.int .u8) w13 A10 y291.length y291 from by rw [Ny291.out, KA10.out]; exact Kd.C_drop (m := 184) (c := co7) ((Kd.R_reads' (Kd.R_after (ok := (fun k_ => (P0_ k_ ∨ w.heap.size ≤ k_))) (by (with_reducible repeat (first | apply Kd.R_alloc | apply Kd.R_drewN | apply Kd.R_drew)); exact HO0.out) hg hat)).2.2) KL10.out ((Kd.R_reads' (Kd.R_after (ok := (fun k_ => (P0_ k_ ∨ w.heap.size ≤ k_))) (by (with_reducible repeat (first | apply Kd.R_alloc | apply Kd.R_drewN | apply Kd.R_drew)); exact HO0.out) hg hat)).2.1)))
          have n5_ := Aside0.mk (ho)
          clear HO0
          clear HO287
          clear HB
          clear HK
          clear HR294
          clear HO290
          have HO0 := n0_
          have HO287 := n1_
          have HB := n2_
          have HK := n3_
          have HR294 := n4_
          have HO297 := n5_
          clear n0_ n1_ n2_ n3_ n4_ n5_
          clear ho hb hg hat
          refine hK.out _ _ trivial (fun hHeld => ?_)
          clear hK K
          refine norm_ (a' := ?_) ?_ ?_
          rotate_left
          · show Act.put _ (some 19) _ = _
            simp only [Act.put, List.setIfInBounds_toArray, List.set_cons_zero, List.set_cons_succ, i64_w, i32_w]
            rfl
          refine pure_ (i := 4) (N := some 6) (v := ?_) (a' := ?_) #[true, true, true, true, true] rfl rfl (by kernel_rfl) (fun _ _ _ h => h) (Or.inl ⟨by rfl, ?_⟩) ?_ ?_
          rotate_left
          · intro w'
            go_simp
            with_reducible rfl
          rotate_left
          · simp only [Act.put, List.setIfInBounds_toArray, List.set_cons_zero, List.set_cons_succ, i64_w, i32_w]
            rfl
          refine done_ (by kernel_rfl) ?_
          try go_wp2
          go_loopg [6, 7] k (fun kq v6 v7 w' => ∃ (x6_1 : List Int) (x7_1 : Int), v7 = .int .i64 x7_1 ∧ Aside0 (cantleref07_Rebuild.l0 kq t284 x6_1 x7_1 = some (r1, r2)) ∧ Aside0 (kq ≤ k) ∧ Aside0 (Kd.R k57 57 w' w0.heap.size (fun k_ => (P0_ k_ ∨ w.heap.size ≤ k_)) v286 t284) ∧ Aside0 (Kd.R (Kd.int .u8) 5 w' w0.heap.size (fun k_ => (P0_ k_ ∨ w.heap.size ≤ k_)) v6 x6_1) ∧ Aside0 (Kept w w' (fun k_ => P0_ k_)) ∧ Aside0 (Below w0.heap.size w0 w'))
          case atStart => exact ⟨(y295), (0), (by first | rfl | (simp; done) | (simp [*]; done)), H', ⟨Nat.le_refl _⟩, ⟨by (with_reducible repeat (first | apply Kd.R_alloc | apply Kd.R_drewN | apply Kd.R_drew)); exact Kd.R_mono HO287.out (fun _ hk => hk.1)⟩, ⟨by (with_reducible repeat (first | apply Kd.R_alloc | apply Kd.R_drewN | apply Kd.R_drew)); exact Kd.R_mono HO297.out (fun _ hk => hk.1)⟩, ⟨by repeat (first | (with_reducible first | exact HK.out | apply Kept.alloc | apply Kept.drewN | apply Kept.drew) | exact HK.out)⟩, ⟨by repeat (first | (with_reducible first | exact HB.out | apply below_alloc | apply pw_below_drewN | apply below_drew1) | exact HB.out)⟩⟩
          case round =>
            clear H'
            try clear c1
            try clear q1
            try clear p2
            try clear c3
            try clear c4
            try clear c4b0
            try clear c4b1
            try clear c5
            try clear c5b0
            try clear c5b1
            try clear c6
            try clear c10
            try clear q10
            try clear q10
            obtain ⟨x6_1, x7_1, rfl, HA, HK1, HO_4, HO_6, HK, HB⟩ := hrel
            cases gk with
            | zero => exact absurd HA.out (by simp [cantleref07_Rebuild.l0])
            | succ k1 =>
              have H := HA.out
              clear HA
              simp only [cantleref07_Rebuild.l0] at H
              by_cases c14 : x7_1 < (t284.length : Int)
              · rw [if_pos c14] at H
                have c14b0 : decide (x7_1 < (t284.length : Int)) = true := decide_eq_true c14
                clear c14
                by_cases c15 : 0 ≤ x7_1
                · rw [if_pos c15] at H
                  have c15b0 : decide (0 ≤ x7_1) = true := decide_eq_true c15
                  clear c15
                  obtain ⟨bq16, hbq16⟩ : ∃ b_ : Bool, b_ = ((rd_T57 t284 x7_1).f2) := ⟨_, rfl⟩
                  replace H : (if (bq16 = true) then (cantleref07_Rebuild.l0 k1 t284 x6_1 (wrap64 (x7_1 + 1))) else ((cantleref07_Put.f k1 x6_1 ((rd_T57 t284 x7_1).f0)).bind fun bt300 => (cantleref07_Rebuild.l0 k1 t284 bt300.1 (wrap64 (x7_1 + 1))))) = some (r1, r2) := by rw [← hbq16] at H; exact H
                  have Nbq16 := Aside0.mk hbq16
                  clear hbq16
                  by_cases c17 : (bq16 = true)
                  · subst c17
                    have H1 : (cantleref07_Rebuild.l0 k1 t284 x6_1 (wrap64 (x7_1 + 1))) = some (r1, r2) := by rw [if_pos rfl] at H; exact H
                    clear H
                    have H := H1
                    clear H1
                    have H' := Aside0.mk H
                    clear H
                    obtain ⟨Ao18, co18, eo18⟩ := Kd.R_slice HO_4.out
                    subst eo18
                    have p298 : 0 ≤ (x7_1 : Int) := of_decide_eq_true (by first | (with_reducible assumption) | assumption)
                    have q298 : x7_1 < (t284.length : Int) := of_decide_eq_true (by first | (with_reducible assumption) | assumption)
                    obtain ⟨ad298, e298, hx298_0, hx298_1, hx298_2⟩ := at_T57 (Kd.R_reads' HO_4.out).2.2 x7_1 p298 q298
                    (try rw [← Nbq16.out] at hx298_2)
                    cases e298
                    replace p298 := eq_true p298
                    replace q298 := eq_true q298
                    go_wp2
                    go_roundg k1
                    case measure => have := HK1.out; omega
                    case rel => exact ⟨(x6_1), (wrap64 (x7_1 + 1)), (by first | rfl | (simp; done) | (simp [*]; done)), H', ⟨by have := HK1.out; omega⟩, ⟨by (with_reducible repeat (first | apply Kd.R_alloc | apply Kd.R_drewN | apply Kd.R_drew)); exact HO_4.out⟩, ⟨by (with_reducible repeat (first | apply Kd.R_alloc | apply Kd.R_drewN | apply Kd.R_drew)); exact HO_6.out⟩, ⟨by repeat (first | (with_reducible first | exact HK.out | apply Kept.alloc | apply Kept.drewN | apply Kept.drew) | exact HK.out)⟩, ⟨by repeat (first | (with_reducible first | exact HB.out | apply below_alloc | apply pw_below_drewN | apply below_drew1) | exact HB.out)⟩⟩
                  · replace c17 := Bool.eq_false_iff.mpr c17
                    subst c17
                    have H1 : ((cantleref07_Put.f k1 x6_1 ((rd_T57 t284 x7_1).f0)).bind fun bt300 => (cantleref07_Rebuild.l0 k1 t284 bt300.1 (wrap64 (x7_1 + 1)))) = some (r1, r2) := by rw [if_neg (show ¬ (false = true) by decide)] at H; exact H
                    clear H
                    have H := H1
                    clear H1
                    replace H := Option.bind_eq_some_iff.mp H
                    obtain ⟨⟨t300, t303⟩, A190, H⟩ := H
                    replace H : (cantleref07_Rebuild.l0 k1 t284 t300 (wrap64 (x7_1 + 1))) = some (r1, r2) := H
                    have A19 := Aside0.mk A190
                    clear A190
                    have H' := Aside0.mk H
                    clear H
                    obtain ⟨Ao20, co20, eo20⟩ := Kd.R_slice HO_4.out
                    subst eo20
                    have p298 : 0 ≤ (x7_1 : Int) := of_decide_eq_true (by first | (with_reducible assumption) | assumption)
                    have q298 : x7_1 < (t284.length : Int) := of_decide_eq_true (by first | (with_reducible assumption) | assumption)
                    obtain ⟨ad298, e298, hx298_0, hx298_1, hx298_2⟩ := at_T57 (Kd.R_reads' HO_4.out).2.2 x7_1 p298 q298
                    (try rw [← Nbq16.out] at hx298_2)
                    cases e298
                    replace p298 := eq_true p298
                    replace q298 := eq_true q298
                    have p299 : 0 ≤ (x7_1 : Int) := of_decide_eq_true (by first | (with_reducible assumption) | assumption)
                    have q299 : x7_1 < (t284.length : Int) := of_decide_eq_true (by first | (with_reducible assumption) | assumption)
                    obtain ⟨ad299, e299, hx299_0, hx299_1, hx299_2⟩ := at_T57 (Kd.R_reads' HO_4.out).2.2 x7_1 p299 q299
                    (try rw [← Nbq16.out] at hx299_2)
                    obtain rfl : ad298 = ad299 := (by injection e299)
                    replace p299 := eq_true p299
                    replace q299 := eq_true q299
                    obtain ⟨Ao21, co21, eo21⟩ := Kd.R_slice HO_6.out
                    subst eo21
                    go_wp2_with (first | ((with_reducible refine gate_callee (f := 27) rfl ?_); refine goesL_ (some 39) rfl rfl Try.func27 (by kernel_rfl) rfl #[.slice Ao21 x6_1.length co21, .int .i64 ((rd_T57 t284 x7_1).f0)] rfl (by (try simp only [List.map_toArray, List.map_cons, List.map_nil]); first | done | rfl | (simp only [List.length_drop, List.length_take]; rfl)) ?_; (with_reducible refine (cantleref07_Put.calls k1 (fun k_ => some k_ = (.slice Ao21 x6_1.length co21 : Value).ownBlock) (.slice Ao21 x6_1.length co21) x6_1 ((rd_T57 t284 x7_1).f0) t300 t303 w0 _ ?side1 ?side2 A19.out).mono ?_); (case side1 => repeat (first | (with_reducible first | exact HB.out | apply below_alloc | apply pw_below_drewN | apply below_drew1) | exact HB.out)); (case side2 => exact Kd.R_tight rfl HO_6.out); rintro e w22 ⟨v301, rfl, ho0, hb, hkp⟩; refine ⟨_, rfl, ?_⟩; have n0_ := Aside0.mk (Kd.R_mono (ok' := fun k_ => (P0_ k_ ∨ w.heap.size ≤ k_)) (Kd.R_keptB ((Kd.R_apart' HO_4.out (Kd.R_typed HO_6.out) (by decide))) hkp (fun k_ hk_ hs_ => (hk_.2) hs_)) (fun k_ hk_ => hk_.1.1)); have n1_ := Aside0.mk (Kd.R_mono (ok' := fun k_ => (P0_ k_ ∨ w.heap.size ≤ k_)) ho0 (fun k_ hk_ => Or.elim hk_ (fun hs_ => (HO_6.out.1 k_ (hs_).symm)) (fun hn_ => (.inr (Nat.le_trans (by first | exact HK.out.1 | exact (show Kept w _ (fun k_ => P0_ k_) from by repeat (first | (with_reducible first | exact HK.out | apply Kept.alloc | apply Kept.drewN | apply Kept.drew) | exact HK.out)).1) hn_))))); have n2_ := Aside0.mk (Kept.then_ (S := (fun k_ => P0_ k_)) (by repeat (first | (with_reducible first | exact HK.out | apply Kept.alloc | apply Kept.drewN | apply Kept.drew) | exact HK.out)) hkp (fun k_ hs_ => (fun e_ => (HO_6.out.1 k_ e_.symm)) hs_)); have n3_ := Aside0.mk (hb); clear HO_4; clear HK; clear HB; clear HO_6; have HO_4 := n0_; have HO302 := n1_; have HK := n2_; have HB := n3_; clear n0_ n1_ n2_ n3_; (try clear hb); (try clear hkp); (try clear ho0)))
                    go_roundg k1
                    case measure => have := HK1.out; omega
                    case rel => exact ⟨(t300), (wrap64 (x7_1 + 1)), (by first | rfl | (simp; done) | (simp [*]; done)), H', ⟨by have := HK1.out; omega⟩, ⟨by (with_reducible repeat (first | apply Kd.R_alloc | apply Kd.R_drewN | apply Kd.R_drew)); exact HO_4.out⟩, ⟨by (with_reducible repeat (first | apply Kd.R_alloc | apply Kd.R_drewN | apply Kd.R_drew)); exact HO302.out⟩, ⟨by repeat (first | (with_reducible first | exact HK.out | apply Kept.alloc | apply Kept.drewN | apply Kept.drew) | exact HK.out)⟩, ⟨by repeat (first | (with_reducible first | exact HB.out | apply below_alloc | apply pw_below_drewN | apply below_drew1) | exact HB.out)⟩⟩
                · rw [if_neg c15] at H
                  exact absurd H (by simp)
              · rw [if_neg c14] at H
                have c14b0 : decide (x7_1 < (t284.length : Int)) = false := decide_eq_false c14
                clear c14
                simp only [Option.some.injEq, Prod.mk.injEq] at H
                obtain ⟨rfl, rfl⟩ := H
                obtain ⟨Ao23, co23, eo23⟩ := Kd.R_slice HO_4.out
                subst eo23
                go_wp2
                go_ret2
                exact ⟨_, by first | rfl | (simp [errW_none, errW_some] <;> rfl) | (simp [*, errW_none, errW_some] <;> rfl), by (with_reducible repeat (first | apply Kd.R_alloc | apply Kd.R_drewN | apply Kd.R_drew)); exact HO_6.out, by repeat (first | (with_reducible first | exact HB.out | apply below_alloc | apply pw_below_drewN | apply below_drew1) | exact HB.out), by repeat (first | (with_reducible first | exact HK.out | apply Kept.alloc | apply Kept.drewN | apply Kept.drew) | exact HK.out)⟩
        · rw [if_neg c6] at H
          exact absurd H (by simp)
      · rw [if_neg c5] at H
        exact absurd H (by simp)
    · rw [if_neg c4] at H
      exact absurd H (by simp)
  · replace c3 := Bool.eq_false_iff.mpr c3
    subst c3
    have H1 : (some (l0, false)) = some (r1, r2) := by rw [if_neg (show ¬ (false = true) by decide)] at H; exact H
    clear H
    have H := H1
    clear H1
    simp only [Option.some.injEq, Prod.mk.injEq] at H
    obtain ⟨rfl, rfl⟩ := H
    obtain ⟨Ao24, co24, eo24⟩ := Kd.R_slice HO0.out
    subst eo24
    go_enter Try.func33, Try.ntmps33
    go_wp2_with (first | ((with_reducible refine gate_callee (f := 108) rfl ?_); refine goesL_ (some 10) rfl rfl Try.func108 (by kernel_rfl) rfl #[.slice Ao24 l0.length co24] rfl (by (try simp only [List.map_toArray, List.map_cons, List.map_nil]); first | done | rfl | (simp only [List.length_drop, List.length_take]; rfl)) ?_; (with_reducible refine (cantleref07_Walk.calls k _ _ l0 t284 false _ ?side1 ?side2 A2.out).mono ?_); (case side1 => repeat (first | exact (Kd.R_reads' HO0.out).2.2 | (with_reducible refine Kd.C_alloc ?_ _) | (with_reducible refine Kd.C_drewN ?_ _) | (with_reducible refine Kd.C_drew ?_))); (case side2 => exact (Kd.R_reads' HO0.out).2.1); rintro e w25 ⟨v286, rfl, ho0, hb⟩; refine ⟨_, rfl, ?_⟩; have n0_ := Aside0.mk (Kd.R_below (by (with_reducible repeat (first | apply Kd.R_alloc | apply Kd.R_drewN | apply Kd.R_drew)); exact HO0.out) hb); have n1_ := Aside0.mk (Kd.R_lower (Kd.R_newM (M := fun k_ => (P0_ k_ ∨ w.heap.size ≤ k_)) ho0 (by first | exact HK.out.1 | exact (show Kept w _ (fun k_ => P0_ k_) from by repeat (first | (with_reducible first | exact HK.out | apply Kept.alloc | apply Kept.drewN | apply Kept.drew) | exact HK.out)).1) (fun k_ h_ => .inr h_)) (below_size (by repeat (first | (with_reducible first | exact HB.out | apply below_alloc | apply pw_below_drewN | apply below_drew1) | exact HB.out)))); have n2_ := Aside0.mk (Kept.below (S := (fun k_ => P0_ k_)) (by repeat (first | (with_reducible first | exact HK.out | apply Kept.alloc | apply Kept.drewN | apply Kept.drew) | exact HK.out)) hb); have n3_ := Aside0.mk (below_step (by repeat (first | (with_reducible first | exact HB.out | apply below_alloc | apply pw_below_drewN | apply below_drew1) | exact HB.out)) hb); clear HO0; clear HK; clear HB; have HO0 := n0_; have HO287 := n1_; have HK := n2_; have HB := n3_; clear n0_ n1_ n2_ n3_; (try clear hb); (try clear hb2); (try clear hk); (try clear hi); (try clear ho0)))
    go_ret2
    exact ⟨_, by first | rfl | (simp [errW_none, errW_some] <;> rfl) | (simp [*, errW_none, errW_some] <;> rfl), by (with_reducible repeat (first | apply Kd.R_alloc | apply Kd.R_drewN | apply Kd.R_drew)); exact HO0.out, by repeat (first | (with_reducible first | exact HB.out | apply below_alloc | apply pw_below_drewN | apply below_drew1) | exact HB.out), by repeat (first | (with_reducible first | exact HK.out | apply Kept.alloc | apply Kept.drewN | apply Kept.drew) | exact HK.out)⟩

-- NOT PRINTED: function 4 (cantlelaw11_CheckTells)

/-! ### cantleref07_Find: function 44 -/
mutual
def cantleref07_Find.l0 : Nat → List Int → Int → Int → Option (Int × Bool)
  | 0, _, _, _ => none
  | k + 1, x0, x1, x6 => if x6 < 22 then ((cantleref07_All.f k x0 x6).bind fun bt312 => (if bt312.2 = true then (cantleref07_Find.l1 k x0 x1 x6 bt312.1 0) else (some (0, false)))) else (some (0, true))
def cantleref07_Find.l1 : Nat → List Int → Int → Int → List Int → Int → Option (Int × Bool)
  | 0, _, _, _, _, _ => none
  | k + 1, x0, x1, x6, x7, x9 => if x9 < (x7.length : Int) then (if 0 ≤ x9 then ((cantleref07_Get.f k x0 (rd x7 x9)).bind fun bt317 => (if bt317.2.1 ≥ x1 then (some (rd x7 x9, true)) else (cantleref07_Find.l1 k x0 x1 x6 x7 (wrap64 (x9 + 1))))) else (none)) else (cantleref07_Find.l0 k x0 x1 (wrap64 (x6 + 1)))
end
def cantleref07_Find.f (k : Nat) (l0 : List Int) (a1 : Int) : Option (Int × Bool) := (cantleref01_Class.f k a1).bind fun t311 => (cantleref07_Find.l0 k l0 a1 t311)
theorem cantleref07_Find.mono_l : ∀ k, (∀ y0 y1 y2, LeO (cantleref07_Find.l0 k y0 y1 y2) (cantleref07_Find.l0 (k + 1) y0 y1 y2)) ∧ (∀ y0 y1 y2 y3 y4, LeO (cantleref07_Find.l1 k y0 y1 y2 y3 y4) (cantleref07_Find.l1 (k + 1) y0 y1 y2 y3 y4))
  | 0 => ⟨fun _ _ _ r h => by simp [cantleref07_Find.l0] at h, fun _ _ _ _ _ r h => by simp [cantleref07_Find.l1] at h⟩
  | k + 1 => by
    obtain ⟨ih0, ih1⟩ := cantleref07_Find.mono_l k
    refine ⟨?_, ?_⟩
    · intro y0 y1 y2
      unfold cantleref07_Find.l0
      repeat' first
      | (with_reducible exact ih0 _ _ _)
      | (with_reducible exact ih1 _ _ _ _ _)
      | (with_reducible exact cantleref01_Class.mono _ _)
      | (with_reducible exact cantleref07_All.mono _ _ _)
      | (with_reducible exact cantleref07_Get.mono _ _ _)
      | (with_reducible exact LeO.refl _)
      | (with_reducible exact LeO.none _)
      | (with_reducible refine LeO.ite ?_ ?_)
      | (with_reducible refine LeO.bind ?_ (fun _ => ?_))
      | exact ih0 _ _ _
      | exact ih1 _ _ _ _ _
      | exact cantleref01_Class.mono _ _
      | exact cantleref07_All.mono _ _ _
      | exact cantleref07_Get.mono _ _ _
      | exact LeO.none _
      | refine LeO.ite ?_ ?_
      | refine LeO.bind ?_ (fun _ => ?_)
    · intro y0 y1 y2 y3 y4
      unfold cantleref07_Find.l1
      repeat' first
      | (with_reducible exact ih0 _ _ _)
      | (with_reducible exact ih1 _ _ _ _ _)
      | (with_reducible exact cantleref01_Class.mono _ _)
      | (with_reducible exact cantleref07_All.mono _ _ _)
      | (with_reducible exact cantleref07_Get.mono _ _ _)
      | (with_reducible exact LeO.refl _)
      | (with_reducible exact LeO.none _)
      | (with_reducible refine LeO.ite ?_ ?_)
      | (with_reducible refine LeO.bind ?_ (fun _ => ?_))
      | exact ih0 _ _ _
      | exact ih1 _ _ _ _ _
      | exact cantleref01_Class.mono _ _
      | exact cantleref07_All.mono _ _ _
      | exact cantleref07_Get.mono _ _ _
      | exact LeO.none _
      | refine LeO.ite ?_ ?_
      | refine LeO.bind ?_ (fun _ => ?_)
theorem cantleref07_Find.mono : ∀ a0 a1 k, LeO (cantleref07_Find.f k a0 a1) (cantleref07_Find.f (k + 1) a0 a1) := by
  intro a0 a1 k
  obtain ⟨ih0, ih1⟩ := cantleref07_Find.mono_l k
  unfold cantleref07_Find.f
  repeat' first
      | (with_reducible exact ih0 _ _ _)
      | (with_reducible exact ih1 _ _ _ _ _)
      | (with_reducible exact cantleref01_Class.mono _ _)
      | (with_reducible exact cantleref07_All.mono _ _ _)
      | (with_reducible exact cantleref07_Get.mono _ _ _)
      | (with_reducible exact LeO.refl _)
      | (with_reducible exact LeO.none _)
      | (with_reducible refine LeO.ite ?_ ?_)
      | (with_reducible refine LeO.bind ?_ (fun _ => ?_))
      | exact ih0 _ _ _
      | exact ih1 _ _ _ _ _
      | exact cantleref01_Class.mono _ _
      | exact cantleref07_All.mono _ _ _
      | exact cantleref07_Get.mono _ _ _
      | exact LeO.none _
      | refine LeO.ite ?_ ?_
      | refine LeO.bind ?_ (fun _ => ?_)
set_option maxHeartbeats 8000000 in
set_option maxRecDepth 100000 in
theorem cantleref07_Find.calls (k : Nat) (A0 : Option Addr) (c0 : Nat) (l0 : List Int) (a1 : Int) (r1 : Int) (r2 : Bool) (w : World) (hr0 : Kd.C (Kd.int .u8) w A0 l0.length l0) (hc0 : l0.length ≤ c0) (h : cantleref07_Find.f k l0 a1 = some (r1, r2)) :
    Calls Try.prog 44 #[.slice A0 l0.length c0, .int .i64 a1] w fun e w' => e = .returned (.tuple #[.int .i64 r1, .bool r2]) ∧ Below w.heap.size w w' := by
  have hu57 := Try.underlying57
  have HR0 := Aside0.mk hr0
  have HC0 := Aside0.mk hc0
  clear hr0 hc0
  have HB := Aside0.mk (Below.refl w.heap.size w)
  have H : ((cantleref01_Class.f k a1).bind fun t311 => (cantleref07_Find.l0 k l0 a1 t311)) = some (r1, r2) := h
  clear h
  replace H := Option.bind_eq_some_iff.mp H
  obtain ⟨t311, A30, H⟩ := H
  replace H : (cantleref07_Find.l0 k l0 a1 t311) = some (r1, r2) := H
  have A3 := Aside0.mk A30
  clear A30
  have H' := Aside0.mk H
  clear H
  go_enter Try.func44, Try.ntmps44
  go_wp2_with (first | ((with_reducible refine gate_callee (f := 36) rfl ?_); refine goesL_ (some 13) rfl rfl Try.func36 (by kernel_rfl) rfl #[.int .i64 a1] rfl (by (try simp only [List.map_toArray, List.map_cons, List.map_nil]); first | done | rfl | (simp only [List.length_drop, List.length_take]; rfl)) ?_; (with_reducible refine (cantleref01_Class.calls k a1 t311 _ A3.out).mono ?_); rintro e w' ⟨rfl, ⟨nd, rfl⟩⟩; refine ⟨_, rfl, ?_⟩))
  go_loopg [6] k (fun kq v6 w' => ∃ (x6_1 : Int), v6 = .int .i64 x6_1 ∧ Aside0 (cantleref07_Find.l0 kq l0 a1 x6_1 = some (r1, r2)) ∧ Aside0 (kq ≤ k) ∧ Aside0 (Below w.heap.size w w'))
  case atStart => exact ⟨(t311), (by first | rfl | (simp; done) | (simp [*]; done)), H', ⟨Nat.le_refl _⟩, ⟨by repeat (first | (with_reducible first | exact HB.out | apply below_alloc | apply pw_below_drewN | apply below_drew1) | exact HB.out)⟩⟩
  case round =>
    clear H'
    try clear p2
    try clear c3
    obtain ⟨x6_1, rfl, HA, HK1, HB⟩ := hrel
    cases gk with
    | zero => exact absurd HA.out (by simp [cantleref07_Find.l0])
    | succ k1 =>
      have H := HA.out
      clear HA
      simp only [cantleref07_Find.l0] at H
      by_cases c4 : x6_1 < 22
      · rw [if_pos c4] at H
        have c4b0 : decide (x6_1 < 22) = true := decide_eq_true c4
        clear c4
        replace H := Option.bind_eq_some_iff.mp H
        obtain ⟨⟨t312, t313⟩, A50, H⟩ := H
        replace H : (if t313 = true then (cantleref07_Find.l1 k1 l0 a1 x6_1 t312 0) else (some (0, false))) = some (r1, r2) := H
        have A5 := Aside0.mk A50
        clear A50
        by_cases c6 : t313 = true
        · subst c6
          have H1 : (cantleref07_Find.l1 k1 l0 a1 x6_1 t312 0) = some (r1, r2) := by rw [if_pos rfl] at H; exact H
          clear H
          have H := H1
          clear H1
          have H' := Aside0.mk H
          clear H
          go_wp2_with (first | ((with_reducible refine gate_callee (f := 109) rfl ?_); refine goesL_ (some 21) rfl rfl Try.func109 (by kernel_rfl) rfl #[.slice A0 l0.length c0, .int .i64 x6_1] rfl (by (try simp only [List.map_toArray, List.map_cons, List.map_nil]); first | done | rfl | (simp only [List.length_drop, List.length_take]; rfl)) ?_; (with_reducible refine (cantleref07_All.calls k1 _ _ l0 x6_1 t312 true _ ?side1 ?side2 A5.out).mono ?_); (case side1 => repeat (first | exact (Kd.C_below HR0.out HB.out) | (with_reducible refine Kd.C_alloc ?_ _) | (with_reducible refine Kd.C_drewN ?_ _) | (with_reducible refine Kd.C_drew ?_))); (case side2 => exact HC0.out); rintro e w7 ⟨v314, rfl, ho0, hb⟩; refine ⟨_, rfl, ?_⟩; have n0_ := Aside0.mk (Kd.R_lower ho0 (below_size (by repeat (first | (with_reducible first | exact HB.out | apply below_alloc | apply pw_below_drewN | apply below_drew1) | exact HB.out)))); have n1_ := Aside0.mk (below_step (by repeat (first | (with_reducible first | exact HB.out | apply below_alloc | apply pw_below_drewN | apply below_drew1) | exact HB.out)) hb); clear HB; have HO315 := n0_; have HB := n1_; clear n0_ n1_; (try clear hb); (try clear hb2); (try clear hk); (try clear hi); (try clear ho0)))
          go_loopg [9] k1 (fun kq v9 w' => ∃ (x9_2 : Int), v9 = .int .i64 x9_2 ∧ Aside0 (cantleref07_Find.l1 kq l0 a1 x6_1 t312 x9_2 = some (r1, r2)) ∧ Aside0 (kq ≤ k1) ∧ Aside0 (Kd.R (Kd.int .i64) 3 w' w.heap.size (fun _ => True) v314 t312) ∧ Aside0 (Below w.heap.size w w'))
          case atStart => exact ⟨(0), (by first | rfl | (simp; done) | (simp [*]; done)), H', ⟨Nat.le_refl _⟩, ⟨by (with_reducible repeat (first | apply Kd.R_alloc | apply Kd.R_drewN | apply Kd.R_drew)); exact HO315.out⟩, ⟨by repeat (first | (with_reducible first | exact HB.out | apply below_alloc | apply pw_below_drewN | apply below_drew1) | exact HB.out)⟩⟩
          case round =>
            clear H'
            try clear c1
            try clear p2
            try clear c3
            try clear c4
            try clear c4b0
            try clear c6
            try clear p2
            obtain ⟨x9_2, rfl, HA, HK2, HO_7, HB⟩ := hrel
            cases gk with
            | zero => exact absurd HA.out (by simp [cantleref07_Find.l1])
            | succ k2 =>
              have H := HA.out
              clear HA
              simp only [cantleref07_Find.l1] at H
              by_cases c8 : x9_2 < (t312.length : Int)
              · rw [if_pos c8] at H
                have c8b0 : decide (x9_2 < (t312.length : Int)) = true := decide_eq_true c8
                clear c8
                by_cases c9 : 0 ≤ x9_2
                · rw [if_pos c9] at H
                  have c9b0 : decide (0 ≤ x9_2) = true := decide_eq_true c9
                  clear c9
                  replace H := Option.bind_eq_some_iff.mp H
                  obtain ⟨⟨t317, t318, t319, t320⟩, A100, H⟩ := H
                  replace H : (if t318 ≥ a1 then (some (rd t312 x9_2, true)) else (cantleref07_Find.l1 k2 l0 a1 x6_1 t312 (wrap64 (x9_2 + 1)))) = some (r1, r2) := H
                  have A10 := Aside0.mk A100
                  clear A100
                  by_cases c11 : t318 ≥ a1
                  · rw [if_pos c11] at H
                    have c11b0 : decide (a1 ≤ t318) = true := decide_eq_true c11
                    clear c11
                    simp only [Option.some.injEq, Prod.mk.injEq] at H
                    obtain ⟨rfl, rfl⟩ := H
                    obtain ⟨Ao12, co12, eo12⟩ := Kd.R_slice HO_7.out
                    subst eo12
                    have p316 : 0 ≤ (x9_2 : Int) := of_decide_eq_true (by first | (with_reducible assumption) | assumption)
                    have q316 : x9_2 < (t312.length : Int) := of_decide_eq_true (by first | (with_reducible assumption) | assumption)
                    obtain ⟨ad316, e316, hx316_0⟩ := Kd.at_int (Kd.R_reads' HO_7.out).2.2 x9_2 p316 q316
                    cases e316
                    replace p316 := eq_true p316
                    replace q316 := eq_true q316
                    go_wp2_with (first | ((with_reducible refine gate_callee (f := 123) rfl ?_); refine goesL_ (some 38) rfl rfl Try.func123 (by kernel_rfl) rfl #[.slice A0 l0.length c0, .int .i64 (rd t312 x9_2)] rfl (by (try simp only [List.map_toArray, List.map_cons, List.map_nil]); first | done | rfl | (simp only [List.length_drop, List.length_take]; rfl)) ?_; (with_reducible refine (cantleref07_Get.calls k2 _ _ l0 (rd t312 x9_2) t317 t318 t319 t320 _ ?side1 ?side2 A10.out).mono ?_); (case side1 => repeat (first | exact (Kd.C_below HR0.out HB.out) | (with_reducible refine Kd.C_alloc ?_ _) | (with_reducible refine Kd.C_drewN ?_ _) | (with_reducible refine Kd.C_drew ?_))); (case side2 => exact HC0.out); rintro e w13 ⟨rfl, hb⟩; refine ⟨_, rfl, ?_⟩; have n0_ := Aside0.mk (Kd.R_below (by (with_reducible repeat (first | apply Kd.R_alloc | apply Kd.R_drewN | apply Kd.R_drew)); exact HO_7.out) hb); have n1_ := Aside0.mk (below_step (by repeat (first | (with_reducible first | exact HB.out | apply below_alloc | apply pw_below_drewN | apply below_drew1) | exact HB.out)) hb); clear HO_7; clear HB; have HO_7 := n0_; have HB := n1_; clear n0_ n1_; (try clear hb); (try clear hb2); (try clear hk); (try clear hi)) | ((with_reducible refine gate_dst (N := 10) rfl ?_); refine box_event ?hg (N := 10) ?hd (cs := #[.int .i64 0, .int .i64 0, .bool false]) (t := 57) ?hr ?_; (case hd => rfl); (case hg => rfl); (case hr => first | (go_simp; done) | (go_simp; rfl)); intro gb321 hg w14 hbox hb; have n0_ := Aside0.mk (Kd.R_below (by (with_reducible repeat (first | apply Kd.R_alloc | apply Kd.R_drewN | apply Kd.R_drew)); exact HO_7.out) hb); have n1_ := Aside0.mk (below_step (by repeat (first | (with_reducible first | exact HB.out | apply below_alloc | apply pw_below_drewN | apply below_drew1) | exact HB.out)) hb); have n2_ := Aside0.mk (hbox); have n3_ := Aside0.mk ((by rw [hg]; exact (below_size (by repeat (first | (with_reducible first | exact HB.out | apply below_alloc | apply pw_below_drewN | apply below_drew1) | exact HB.out))) : w.heap.size ≤ gb321)); have n4_ := Aside0.mk ((by rw [hg]; exact (below_size (by repeat (first | (with_reducible first | exact HB.out | apply below_alloc | apply pw_below_drewN | apply below_drew1) | exact HB.out))) : w.heap.size ≤ gb321)); clear HO_7; clear HB; have HO_7 := n0_; have HB := n1_; have BK321 := n2_; have GW321 := n3_; have GE321 := n4_; clear n0_ n1_ n2_ n3_ n4_; clear hb hbox hg; have hcz15_0 : w14.cell? ⟨gb321, 0, none⟩ = some (.int .i64 0) := (blk_cell BK321.out 0).trans rfl; have hcz15_1 : w14.cell? ⟨gb321, 1, none⟩ = some (.int .i64 0) := (blk_cell BK321.out 1).trans rfl; have hcz15_2 : w14.cell? ⟨gb321, 2, none⟩ = some (.bool false) := (blk_cell BK321.out 2).trans rfl; have hfz15_0 := blk_frozen BK321.out 0; have hfz15_1 := blk_frozen BK321.out 1; have hfz15_2 := blk_frozen BK321.out 2; have p322 : 0 ≤ (x9_2 : Int) := of_decide_eq_true (by first | (with_reducible assumption) | assumption); have q322 : x9_2 < (t312.length : Int) := of_decide_eq_true (by first | (with_reducible assumption) | assumption); obtain ⟨ad322, e322, hx322_0⟩ := Kd.at_int (Kd.R_reads' HO_7.out).2.2 x9_2 p322 q322; obtain rfl : ad316 = ad322 := (by injection e322); have hn322_0 : ad316.block ≠ gb321 := Kd.own_blk (Kd.R_ne HO_7.out BK321.out (by decide)); have hn322_1 : ad316.block ≠ gb321 := Kd.own_blk (Kd.R_ne HO_7.out BK321.out (by decide)); have hn322_2 : ad316.block ≠ gb321 := Kd.own_blk (Kd.R_ne HO_7.out BK321.out (by decide)); replace hx322_0 := (cell_far (p := ⟨gb321, 0, none⟩) (by first | (rw [add_block]; exact hn322_0) | (show (Addr.add _ _).block ≠ _; rw [add_block]; exact hn322_0) | exact hn322_0) (.int .i64 t317)).trans hx322_0; replace hx322_0 := (cell_far (p := ⟨gb321, 1, none⟩) (by first | (rw [add_block]; exact hn322_1) | (show (Addr.add _ _).block ≠ _; rw [add_block]; exact hn322_1) | exact hn322_1) (.int .i64 t318)).trans hx322_0; replace hx322_0 := (cell_far (p := ⟨gb321, 2, none⟩) (by first | (rw [add_block]; exact hn322_2) | (show (Addr.add _ _).block ≠ _; rw [add_block]; exact hn322_2) | exact hn322_2) (.bool t319)).trans hx322_0; clear hn322_0; clear hn322_1; clear hn322_2; replace p322 := eq_true p322; replace q322 := eq_true q322))
                    go_ret2
                    exact ⟨by first | rfl | (simp [errW_none, errW_some] <;> rfl) | (simp [*, errW_none, errW_some] <;> rfl), by repeat (first | (with_reducible first | exact HB.out | apply below_alloc | apply pw_below_drewN | apply below_drew1 | refine below_set ?_ GE321.out) | exact HB.out)⟩
                  · rw [if_neg c11] at H
                    have c11b0 : decide (a1 ≤ t318) = false := decide_eq_false c11
                    clear c11
                    have H' := Aside0.mk H
                    clear H
                    obtain ⟨Ao16, co16, eo16⟩ := Kd.R_slice HO_7.out
                    subst eo16
                    have p316 : 0 ≤ (x9_2 : Int) := of_decide_eq_true (by first | (with_reducible assumption) | assumption)
                    have q316 : x9_2 < (t312.length : Int) := of_decide_eq_true (by first | (with_reducible assumption) | assumption)
                    obtain ⟨ad316, e316, hx316_0⟩ := Kd.at_int (Kd.R_reads' HO_7.out).2.2 x9_2 p316 q316
                    cases e316
                    replace p316 := eq_true p316
                    replace q316 := eq_true q316
                    go_wp2_with (first | ((with_reducible refine gate_callee (f := 123) rfl ?_); refine goesL_ (some 38) rfl rfl Try.func123 (by kernel_rfl) rfl #[.slice A0 l0.length c0, .int .i64 (rd t312 x9_2)] rfl (by (try simp only [List.map_toArray, List.map_cons, List.map_nil]); first | done | rfl | (simp only [List.length_drop, List.length_take]; rfl)) ?_; (with_reducible refine (cantleref07_Get.calls k2 _ _ l0 (rd t312 x9_2) t317 t318 t319 t320 _ ?side1 ?side2 A10.out).mono ?_); (case side1 => repeat (first | exact (Kd.C_below HR0.out HB.out) | (with_reducible refine Kd.C_alloc ?_ _) | (with_reducible refine Kd.C_drewN ?_ _) | (with_reducible refine Kd.C_drew ?_))); (case side2 => exact HC0.out); rintro e w17 ⟨rfl, hb⟩; refine ⟨_, rfl, ?_⟩; have n0_ := Aside0.mk (Kd.R_below (by (with_reducible repeat (first | apply Kd.R_alloc | apply Kd.R_drewN | apply Kd.R_drew)); exact HO_7.out) hb); have n1_ := Aside0.mk (below_step (by repeat (first | (with_reducible first | exact HB.out | apply below_alloc | apply pw_below_drewN | apply below_drew1) | exact HB.out)) hb); clear HO_7; clear HB; have HO_7 := n0_; have HB := n1_; clear n0_ n1_; (try clear hb); (try clear hb2); (try clear hk); (try clear hi)) | ((with_reducible refine gate_dst (N := 10) rfl ?_); refine box_event ?hg (N := 10) ?hd (cs := #[.int .i64 0, .int .i64 0, .bool false]) (t := 57) ?hr ?_; (case hd => rfl); (case hg => rfl); (case hr => first | (go_simp; done) | (go_simp; rfl)); intro gb321 hg w18 hbox hb; have n0_ := Aside0.mk (Kd.R_below (by (with_reducible repeat (first | apply Kd.R_alloc | apply Kd.R_drewN | apply Kd.R_drew)); exact HO_7.out) hb); have n1_ := Aside0.mk (below_step (by repeat (first | (with_reducible first | exact HB.out | apply below_alloc | apply pw_below_drewN | apply below_drew1) | exact HB.out)) hb); have n2_ := Aside0.mk (hbox); have n3_ := Aside0.mk ((by rw [hg]; exact (below_size (by repeat (first | (with_reducible first | exact HB.out | apply below_alloc | apply pw_below_drewN | apply below_drew1) | exact HB.out))) : w.heap.size ≤ gb321)); have n4_ := Aside0.mk ((by rw [hg]; exact (below_size (by repeat (first | (with_reducible first | exact HB.out | apply below_alloc | apply pw_below_drewN | apply below_drew1) | exact HB.out))) : w.heap.size ≤ gb321)); clear HO_7; clear HB; have HO_7 := n0_; have HB := n1_; have BK321 := n2_; have GW321 := n3_; have GE321 := n4_; clear n0_ n1_ n2_ n3_ n4_; clear hb hbox hg; have hcz19_0 : w18.cell? ⟨gb321, 0, none⟩ = some (.int .i64 0) := (blk_cell BK321.out 0).trans rfl; have hcz19_1 : w18.cell? ⟨gb321, 1, none⟩ = some (.int .i64 0) := (blk_cell BK321.out 1).trans rfl; have hcz19_2 : w18.cell? ⟨gb321, 2, none⟩ = some (.bool false) := (blk_cell BK321.out 2).trans rfl; have hfz19_0 := blk_frozen BK321.out 0; have hfz19_1 := blk_frozen BK321.out 1; have hfz19_2 := blk_frozen BK321.out 2))
                    go_roundg k2
                    case measure => have := HK1.out; have := HK2.out; omega
                    case rel => exact ⟨(wrap64 (x9_2 + 1)), (by first | rfl | (simp; done) | (simp [*]; done)), H', ⟨by have := HK1.out; have := HK2.out; omega⟩, ⟨by (with_reducible repeat (first | apply Kd.R_alloc | apply Kd.R_drewN | apply Kd.R_drew)); exact Kd.R_mono (Kd.R_far (p := ⟨gb321, 2, none⟩) (Kd.R_far (p := ⟨gb321, 1, none⟩) (Kd.R_far (p := ⟨gb321, 0, none⟩) (Kd.R_types HO_7.out BK321.out (by decide)) (fun _ hk => hk.2) (.int .i64 t317)) (fun _ hk => hk.2) (.int .i64 t318)) (fun _ hk => hk.2) (.bool t319)) (fun _ hk => trivial)⟩, ⟨by repeat (first | (with_reducible first | exact HB.out | apply below_alloc | apply pw_below_drewN | apply below_drew1 | refine below_set ?_ GE321.out) | exact HB.out)⟩⟩
                · rw [if_neg c9] at H
                  exact absurd H (by simp)
              · rw [if_neg c8] at H
                have c8b0 : decide (x9_2 < (t312.length : Int)) = false := decide_eq_false c8
                clear c8
                have H' := Aside0.mk H
                clear H
                obtain ⟨Ao20, co20, eo20⟩ := Kd.R_slice HO_7.out
                subst eo20
                go_wp2
                go_roundg k2
                case measure => have := HK1.out; have := HK2.out; omega
                case rel => exact ⟨(wrap64 (x6_1 + 1)), (by first | rfl | (simp; done) | (simp [*]; done)), H', ⟨by have := HK1.out; have := HK2.out; omega⟩, ⟨by repeat (first | (with_reducible first | exact HB.out | apply below_alloc | apply pw_below_drewN | apply below_drew1) | exact HB.out)⟩⟩
        · replace c6 := Bool.eq_false_iff.mpr c6
          subst c6
          have H1 : (some (0, false)) = some (r1, r2) := by rw [if_neg (show ¬ (false = true) by decide)] at H; exact H
          clear H
          have H := H1
          clear H1
          simp only [Option.some.injEq, Prod.mk.injEq] at H
          obtain ⟨rfl, rfl⟩ := H
          go_wp2_with (first | ((with_reducible refine gate_callee (f := 109) rfl ?_); refine goesL_ (some 21) rfl rfl Try.func109 (by kernel_rfl) rfl #[.slice A0 l0.length c0, .int .i64 x6_1] rfl (by (try simp only [List.map_toArray, List.map_cons, List.map_nil]); first | done | rfl | (simp only [List.length_drop, List.length_take]; rfl)) ?_; (with_reducible refine (cantleref07_All.calls k1 _ _ l0 x6_1 t312 false _ ?side1 ?side2 A5.out).mono ?_); (case side1 => repeat (first | exact (Kd.C_below HR0.out HB.out) | (with_reducible refine Kd.C_alloc ?_ _) | (with_reducible refine Kd.C_drewN ?_ _) | (with_reducible refine Kd.C_drew ?_))); (case side2 => exact HC0.out); rintro e w21 ⟨v314, rfl, ho0, hb⟩; refine ⟨_, rfl, ?_⟩; have n0_ := Aside0.mk (Kd.R_lower ho0 (below_size (by repeat (first | (with_reducible first | exact HB.out | apply below_alloc | apply pw_below_drewN | apply below_drew1) | exact HB.out)))); have n1_ := Aside0.mk (below_step (by repeat (first | (with_reducible first | exact HB.out | apply below_alloc | apply pw_below_drewN | apply below_drew1) | exact HB.out)) hb); clear HB; have HO315 := n0_; have HB := n1_; clear n0_ n1_; (try clear hb); (try clear hb2); (try clear hk); (try clear hi); (try clear ho0)))
          go_ret2
          exact ⟨by first | rfl | (simp [errW_none, errW_some] <;> rfl) | (simp [*, errW_none, errW_some] <;> rfl), by repeat (first | (with_reducible first | exact HB.out | apply below_alloc | apply pw_below_drewN | apply below_drew1) | exact HB.out)⟩
      · rw [if_neg c4] at H
        have c4b0 : decide (x6_1 < 22) = false := decide_eq_false c4
        clear c4
        simp only [Option.some.injEq, Prod.mk.injEq] at H
        obtain ⟨rfl, rfl⟩ := H
        go_wp2
        go_ret2
        exact ⟨by first | rfl | (simp [errW_none, errW_some] <;> rfl) | (simp [*, errW_none, errW_some] <;> rfl), by repeat (first | (with_reducible first | exact HB.out | apply below_alloc | apply pw_below_drewN | apply below_drew1) | exact HB.out)⟩

-- NOT PRINTED: function 7 (cantlelaw10_FitTells)

end Go.Proofs.Ytnldmhljggcnpaa.Ref
