/- The law NatText returns true for every input and never panics. This is part 5 of the proof: texts joined in order (PA34 PA35 PA36 PA37 PA38 PA39 PA40 PA41 NatM NatV NatT NatV2 NatV3). Conditions: each theorem's own. -/
import Derived.Test.YtmjkhbjfacfmcaaDoorQT4
import Derived.Laws.StructEq
import Derived.Lib.ItoaMem
import Derived.Lib.Repeat
import Derived.Lib.SlTrimSet
import Derived.Lib.AtoiAll
import Derived.Lib.TrimByte
import Derived.Lib.Strings
section
namespace Go.Proofs.YtmjkhbjfacfmcaaDoor.PA
open Go.RowKit Go.Proofs.YtmjkhbjfacfmcaaDoorW.PrintWords Go.Proofs.YtmjkhbjfacfmcaaDoorW.PrintLast Go.Proofs.YtmjkhbjfacfmcaaDoorW.PrintMore
attribute [local go_sem] max2_int min2_int max_two min_two max_three min_three max_four min_four
set_option linter.unusedVariables false
set_option linter.unusedSimpArgs false
mutual
def waypointref01_Add.l0 : Nat → List Int → List Int → List Int → Int → Option (List Int)
  | 0, _, _, _, _ => none
  | k + 1, x0, x1, x5, x6 => if x6 < (x0.length : Int) then (if 0 ≤ x6 then (if x6 < (x5.length : Int) then (waypointref01_Add.l0 k x0 x1 (x5.set (x6 : Int).toNat (wrap64 ((rd x5 x6) + (rd x0 x6)))) (wrap64 (x6 + 1))) else (none)) else (none)) else (waypointref01_Add.l1 k x1 x5 0)
def waypointref01_Add.l1 : Nat → List Int → List Int → Int → Option (List Int)
  | 0, _, _, _ => none
  | k + 1, x1, x5, x7 => if x7 < (x1.length : Int) then (if 0 ≤ x7 then (if x7 < (x5.length : Int) then (waypointref01_Add.l1 k x1 (x5.set (x7 : Int).toNat (wrap64 ((rd x5 x7) + (rd x1 x7)))) (wrap64 (x7 + 1))) else (none)) else (none)) else ((waypointref01_carried.f k x5).bind fun t379 => (some t379))
end
def waypointref01_Add.f (k : Nat) (l0 : List Int) (l1 : List Int) : Option (List Int) := if 0 ≤ (mx (l0.length : Int) (l1.length : Int)) then (if (mx (l0.length : Int) (l1.length : Int) : Int).toNat ≤ 35184372088832 then (waypointref01_Add.l0 k l0 l1 (List.replicate (mx (l0.length : Int) (l1.length : Int) : Int).toNat 0) 0) else (none)) else (none)
theorem waypointref01_Add.mono_l : ∀ k, (∀ y0 y1 y2 y3, LeO (waypointref01_Add.l0 k y0 y1 y2 y3) (waypointref01_Add.l0 (k + 1) y0 y1 y2 y3)) ∧ (∀ y0 y1 y2, LeO (waypointref01_Add.l1 k y0 y1 y2) (waypointref01_Add.l1 (k + 1) y0 y1 y2))
  | 0 => ⟨fun _ _ _ _ r h => by simp [waypointref01_Add.l0] at h, fun _ _ _ r h => by simp [waypointref01_Add.l1] at h⟩
  | k + 1 => by
    obtain ⟨ih0, ih1⟩ := waypointref01_Add.mono_l k
    refine ⟨?_, ?_⟩
    · intro y0 y1 y2 y3
      unfold waypointref01_Add.l0
      repeat' first
      | (with_reducible exact ih0 _ _ _ _)
      | (with_reducible exact ih1 _ _ _)
      | (with_reducible exact waypointref01_carried.mono _ _)
      | (with_reducible exact LeO.refl _)
      | (with_reducible exact LeO.none _)
      | (with_reducible refine LeO.ite ?_ ?_)
      | (with_reducible refine LeO.bind ?_ (fun _ => ?_))
      | exact ih0 _ _ _ _
      | exact ih1 _ _ _
      | exact waypointref01_carried.mono _ _
      | exact LeO.none _
      | refine LeO.ite ?_ ?_
      | refine LeO.bind ?_ (fun _ => ?_)
    · intro y0 y1 y2
      unfold waypointref01_Add.l1
      repeat' first
      | (with_reducible exact ih0 _ _ _ _)
      | (with_reducible exact ih1 _ _ _)
      | (with_reducible exact waypointref01_carried.mono _ _)
      | (with_reducible exact LeO.refl _)
      | (with_reducible exact LeO.none _)
      | (with_reducible refine LeO.ite ?_ ?_)
      | (with_reducible refine LeO.bind ?_ (fun _ => ?_))
      | exact ih0 _ _ _ _
      | exact ih1 _ _ _
      | exact waypointref01_carried.mono _ _
      | exact LeO.none _
      | refine LeO.ite ?_ ?_
      | refine LeO.bind ?_ (fun _ => ?_)
theorem waypointref01_Add.mono : ∀ a0 a1 k, LeO (waypointref01_Add.f k a0 a1) (waypointref01_Add.f (k + 1) a0 a1) := by
  intro a0 a1 k
  obtain ⟨ih0, ih1⟩ := waypointref01_Add.mono_l k
  unfold waypointref01_Add.f
  repeat' first
      | (with_reducible exact ih0 _ _ _ _)
      | (with_reducible exact ih1 _ _ _)
      | (with_reducible exact waypointref01_carried.mono _ _)
      | (with_reducible exact LeO.refl _)
      | (with_reducible exact LeO.none _)
      | (with_reducible refine LeO.ite ?_ ?_)
      | (with_reducible refine LeO.bind ?_ (fun _ => ?_))
      | exact ih0 _ _ _ _
      | exact ih1 _ _ _
      | exact waypointref01_carried.mono _ _
      | exact LeO.none _
      | refine LeO.ite ?_ ?_
      | refine LeO.bind ?_ (fun _ => ?_)
def waypointref01_Add.T5 : Bool × List (List Nat × List Nat) := (true, [([], []), ([], []), ([0, 1], [0, 1]), ([2], [2]), ([], []), ([], []), ([4, 5], [4, 5]), ([6], [6]), ([3, 7], [3, 7]), ([0, 1, 0, 1, 2, 3, 4, 5, 6, 7, 8], [0, 1]), ([9, 8, 0, 1, 2, 3, 4, 5, 6, 7, 8], [8, 9])])
def waypointref01_Add.B5 : List Nat := [0, 0, 3, 7, 0, 0, 48, 112, 255, 511, 1023]
theorem waypointref01_Add.tab5 : rtab .any (opsOf Tryd.f46 5) = waypointref01_Add.T5 := by kernel_rfl
theorem waypointref01_Add.bits5 : waitsOk waypointref01_Add.T5.2 waypointref01_Add.B5 = true := by kernel_rfl
def waypointref01_Add.T9 : Bool × List (List Nat × List Nat) := (true, [([], []), ([], []), ([0, 1], [0, 1]), ([2], [2]), ([], []), ([], []), ([4, 5], [4, 5]), ([6], [6]), ([3, 7], [3, 7]), ([0, 1, 0, 1, 2, 3, 4, 5, 6, 7, 8], [0, 1]), ([9, 8, 0, 1, 2, 3, 4, 5, 6, 7, 8], [8, 9])])
def waypointref01_Add.B9 : List Nat := [0, 0, 3, 7, 0, 0, 48, 112, 255, 511, 1023]
theorem waypointref01_Add.tab9 : rtab .any (opsOf Tryd.f46 9) = waypointref01_Add.T9 := by kernel_rfl
theorem waypointref01_Add.bits9 : waitsOk waypointref01_Add.T9.2 waypointref01_Add.B9 = true := by kernel_rfl
set_option maxHeartbeats 8000000 in
set_option maxRecDepth 100000 in
theorem waypointref01_Add.calls (k : Nat) (A0 : Option Addr) (c0 : Nat) (l0 : List Int) (A1 : Option Addr) (c1 : Nat) (l1 : List Int) (r : List Int) (w : World) (hr0 : Kd.C (Kd.int .i64) w A0 l0.length l0) (hc0 : l0.length ≤ c0) (hr1 : Kd.C (Kd.int .i64) w A1 l1.length l1) (hc1 : l1.length ≤ c1) (h : waypointref01_Add.f k l0 l1 = some r) :
    Calls Tryd.prog 46 #[.slice A0 l0.length c0, .slice A1 l1.length c1] w fun e w' => ∃ v0_ : Value, e = .returned (v0_) ∧ Kd.R (Kd.int .i64) 3 w' w.heap.size (fun _ => True) v0_ r ∧ Below w.heap.size w w' := by
  have HR0 := Aside0.mk hr0
  have HC0 := Aside0.mk hc0
  clear hr0 hc0
  have HR1 := Aside0.mk hr1
  have HC1 := Aside0.mk hc1
  clear hr1 hc1
  have HB := Aside0.mk (Below.refl w.heap.size w)
  have H : (if 0 ≤ (mx (l0.length : Int) (l1.length : Int)) then (if (mx (l0.length : Int) (l1.length : Int) : Int).toNat ≤ 35184372088832 then (waypointref01_Add.l0 k l0 l1 (List.replicate (mx (l0.length : Int) (l1.length : Int) : Int).toNat 0) 0) else (none)) else (none)) = some r := h
  clear h
  obtain ⟨ji3, hji3⟩ : ∃ j_ : Int, (mx (l0.length : Int) (l1.length : Int)) = j_ := ⟨_, rfl⟩
  replace H : (if 0 ≤ (ji3) then (if (ji3 : Int).toNat ≤ 35184372088832 then (waypointref01_Add.l0 k l0 l1 (List.replicate (ji3 : Int).toNat 0) 0) else (none)) else (none)) = some r := by first | (rw [hji3] at H; exact H) | (simp only [hji3] at H ⊢; exact H)
  (try (have hji3l : 0 ≤ ji3 := by (rw [← hji3]; unfold mx; (repeat' split) <;> omega)))
  (try (have hji3m : 0 ≤ ji3 := by omega))
  have hji3_ : (if (l0.length : Int) < (l1.length : Int) then (l1.length : Int) else (l0.length : Int)) = ji3 := hji3
  have hji3n : (if l0.length < l1.length then (l1.length : Int) else (l0.length : Int)) = ji3 := by (rw [← hji3_]; (repeat' split) <;> omega)
  by_cases c4 : 0 ≤ (ji3)
  · rw [if_pos c4] at H
    have c4b0 := eq_true c4
    have c4b1 : decide (0 ≤ (ji3)) = true := decide_eq_true c4
    clear c4
    by_cases c5 : (ji3 : Int).toNat ≤ 35184372088832
    · rw [if_pos c5] at H
      have c5b0 := eq_true c5
      have c5b1 : decide ((ji3 : Int).toNat ≤ 35184372088832) = true := decide_eq_true c5
      clear c5
      obtain ⟨y370, hy370⟩ : ∃ y_ : List Int, y_ = (List.replicate (ji3 : Int).toNat 0) := ⟨_, rfl⟩
      replace H : (waypointref01_Add.l0 k l0 l1 y370 0) = some r := by first | (rw [hy370]; with_reducible exact H) | (have H2_ := (Option.bind_some _ _).symm.trans H; rw [hy370]; with_reducible exact H2_) | (have H2_ := (Option.bind_some _ _).symm.trans H; with_reducible exact H2_) | with_reducible exact H | (rw [hy370]; exact H) | exact H
      have Ny370 := Aside0.mk hy370
      clear hy370
      have H' := Aside0.mk H
      clear H
      go_enter Tryd.func46, Tryd.ntmps46
      go_wp2_with (first | ((with_reducible refine gate_dst (N := 13) rfl ?_); refine Kd.R_make (Kd.int .i64) _ 3 rfl (N := 13) rfl 27 _ _ rfl ji3 rfl rfl Tryd.underlying27 (.int .i64 0) 8 info3 rfl (by decide) (by omega) 0 (ok := fun _ => True) (okp := fun _ => True) rfl (fun _ hk => hk) trivial (of_decide_eq_true (by first | (with_reducible assumption) | assumption)) (Nat.le_trans (Nat.mul_le_mul_right _ (of_decide_eq_true (by first | (with_reducible assumption) | assumption) : ji3.toNat ≤ 35184372088832)) (by omega)) (Below.refl _ _) (Nat.le_refl _) ?_; intro v371 w6 ho7 hb hg_ hnew_; clear hg_ hnew_; (first | rw [← Ny370.out] at ho7 | (simp only [Int.reduceToNat] at ho7; rw [← Ny370.out] at ho7)); have n0_ := Aside0.mk (Kd.R_lower ho7 (below_size (by repeat (first | (with_reducible first | exact HB.out | apply below_alloc | apply pw_below_drewN | apply below_drew1) | exact HB.out)))); have n1_ := Aside0.mk (below_step (by repeat (first | (with_reducible first | exact HB.out | apply below_alloc | apply pw_below_drewN | apply below_drew1) | exact HB.out)) hb); clear HB; have HO372 := n0_; have HB := n1_; clear n0_ n1_; clear hb ho7))
      (try simp only [Act.put, List.setIfInBounds_toArray, List.set_cons_zero, List.set_cons_succ])
      go_loopg [6] k (fun kq v6 w' => ∃ (x5_1 : List Int) (x6_1 : Int), v6 = .int .i64 x6_1 ∧ Aside0 (waypointref01_Add.l0 kq l0 l1 x5_1 x6_1 = some r) ∧ Aside0 (kq ≤ k) ∧ Aside0 (Kd.R (Kd.int .i64) 3 w' w.heap.size (fun _ => True) v371 x5_1) ∧ Aside0 (Below w.heap.size w w'))
      case atStart => exact ⟨(y370), (0), (by first | rfl | (simp; done) | (simp [*]; done)), H', ⟨Nat.le_refl _⟩, ⟨by (with_reducible repeat (first | apply Kd.R_alloc | apply Kd.R_drewN | apply Kd.R_drew)); exact HO372.out⟩, ⟨by repeat (first | (with_reducible first | exact HB.out | apply below_alloc | apply pw_below_drewN | apply below_drew1) | exact HB.out)⟩⟩
      case round =>
        clear H'
        try clear c1
        try clear p2
        try clear c4
        try clear c4b0
        try clear c4b1
        try clear c5
        try clear c5b0
        try clear c5b1
        obtain ⟨x5_1, x6_1, rfl, HA, HK1, HO_5, HB⟩ := hrel
        cases gk with
        | zero => exact absurd HA.out (by simp [waypointref01_Add.l0])
        | succ k1 =>
          have H := HA.out
          clear HA
          simp only [waypointref01_Add.l0] at H
          by_cases c8 : x6_1 < (l0.length : Int)
          · rw [if_pos c8] at H
            have c8b0 : decide (x6_1 < (l0.length : Int)) = true := decide_eq_true c8
            clear c8
            by_cases c9 : 0 ≤ x6_1
            · rw [if_pos c9] at H
              have c9b0 : decide (0 ≤ x6_1) = true := decide_eq_true c9
              clear c9
              by_cases c10 : x6_1 < (x5_1.length : Int)
              · rw [if_pos c10] at H
                have c10b0 : decide (x6_1 < (x5_1.length : Int)) = true := decide_eq_true c10
                clear c10
                obtain ⟨y375, hy375⟩ : ∃ y_ : List Int, y_ = (x5_1.set (x6_1 : Int).toNat (wrap64 ((rd x5_1 x6_1) + (rd l0 x6_1)))) := ⟨_, rfl⟩
                replace H : (waypointref01_Add.l0 k1 l0 l1 y375 (wrap64 (x6_1 + 1))) = some r := by first | (rw [hy375]; with_reducible exact H) | (have H2_ := (Option.bind_some _ _).symm.trans H; rw [hy375]; with_reducible exact H2_) | (have H2_ := (Option.bind_some _ _).symm.trans H; with_reducible exact H2_) | with_reducible exact H | (rw [hy375]; exact H) | exact H
                have Ny375 := Aside0.mk hy375
                clear hy375
                have H' := Aside0.mk H
                clear H
                try go_wp2
                have n0_ := Aside0.mk (Kd.R_drew HO_5.out)
                have n1_ := Aside0.mk (below_drew1 HB.out)
                clear HO_5
                clear HB
                have HO_5 := n0_
                have HB := n1_
                clear n0_ n1_
                obtain ⟨Ao13, co13, eo13⟩ := Kd.R_slice HO_5.out
                (first | subst eo13 | (injection eo13 with f1_ f2_ f3_; have f4_ := f1_.symm; have f5_ := f3_.symm; clear f1_ f2_ f3_; subst f4_; subst f5_))
                have p373 : 0 ≤ (x6_1 : Int) := of_decide_eq_true (by first | (with_reducible assumption) | assumption)
                have q373 : x6_1 < (x5_1.length : Int) := of_decide_eq_true (by first | (with_reducible assumption) | assumption)
                obtain ⟨ad373, e373, hx373_0⟩ := Kd.at_int (Kd.R_reads' HO_5.out).2.2 x6_1 p373 q373
                cases e373
                replace p373 := eq_true p373
                replace q373 := eq_true q373
                have p374 : 0 ≤ (x6_1 : Int) := of_decide_eq_true (by first | (with_reducible assumption) | assumption)
                have q374 : x6_1 < (l0.length : Int) := of_decide_eq_true (by first | (with_reducible assumption) | assumption)
                obtain ⟨ad374, e374, hx374_0⟩ := Kd.at_int HR0.out x6_1 p374 q374
                have hw374_0 := hx374_0
                cases e374
                replace hx374_0 := (HB.out.cell (World.block_lt_of_cell? w _ hx374_0)).trans hx374_0
                replace p374 := eq_true p374
                replace q374 := eq_true q374
                have p11 : 0 ≤ (x6_1 : Int) := of_decide_eq_true (by first | (with_reducible assumption) | assumption)
                have q11 : (x6_1 : Int) < ((x5_1.length : Int) : Int) := of_decide_eq_true (by first | (with_reducible assumption) | assumption)
                obtain ⟨go11, co11, eo11, gb11, gl11, cl11, HG11⟩ := Kd.R_form HO_5.out (by omega)
                (first | cases eo11 | (injection eo11 with ea_ en_ ec_; (first | subst ea_ | (injection ea_ with ea_; subst ea_)); subst ec_; clear en_))
                have GB11 := Aside0.mk gb11
                have GG11 := Aside0.mk HG11
                clear gb11 gl11 HG11
                (first | simp only [add_plain] at hx373_0 | skip)
                obtain ⟨hx11_0, hf11_0⟩ := Kd.R_celln 0 HO_5.out (x6_1 : Int) p11 q11
                replace p11 := eq_true p11
                replace q11 := eq_true q11
                have HP14 := Kd.R_putn HO_5.out (x6_1 : Int) (wrap64 ((rd x5_1 x6_1) + (rd l0 x6_1)))
                rw [← Ny375.out] at HP14
                have HQ14 := Aside0.mk HP14
                clear HP14
                refine start_ (n := 11) (S := fun w' => w'.cell? ⟨go11, (x6_1).toNat, none⟩ = some (.int .i64 (rd x5_1 x6_1)) ∧ w'.cell? (ad374.add (x6_1).toNat) = some (.int .i64 (rd l0 x6_1))) (ds := [10]) #[false, false, false, false, false, false, false, false, false, false, false] (by kernel_rfl) rfl rfl ⟨hx373_0, ((HB.out.cell (World.block_lt_of_cell? w _ hw374_0)).trans hw374_0)⟩ (fun hHeld => ?_); refine with_tabW waypointref01_Add.tab5 waypointref01_Add.bits5 (fun HT_ HW_ => ?_)
                generalize wr.drew = w12 at HO_5 HB GG11 HQ14 hf11_0 hx11_0 hx373_0 hx374_0 hHeld ⊢
                refine pure_ (i := 0) (N := some 20) (v := ?_) (a' := ?_) #[true, false, false, false, false, false, false, false, false, false, false] rfl rfl (any_of HT_.out (by kernel_rfl)) (fun _ _ _ h => h) (Or.inl ⟨by rfl, ?_⟩) ?_ ?_
                rotate_left
                · intro w'
                  go_simp
                  with_reducible rfl
                rotate_left
                · simp only [Act.put, List.setIfInBounds_toArray, List.set_cons_zero, List.set_cons_succ, i64_w, i32_w]
                  rfl
                refine pure_ (i := 1) (N := some 21) (v := ?_) (a' := ?_) #[true, true, false, false, false, false, false, false, false, false, false] rfl rfl (any_of HT_.out (by kernel_rfl)) (fun _ _ _ h => h) (Or.inl ⟨by rfl, ?_⟩) ?_ ?_
                rotate_left
                · intro w'
                  go_simp
                  with_reducible rfl
                rotate_left
                · simp only [Act.put, List.setIfInBounds_toArray, List.set_cons_zero, List.set_cons_succ, i64_w, i32_w]
                  rfl
                refine pure_ (i := 2) (N := some 22) (v := ?_) (a' := ?_) #[true, true, true, false, false, false, false, false, false, false, false] rfl rfl (any_of HT_.out (by kernel_rfl)) (fun _ _ _ h => h) (Or.inl ⟨by rfl, ?_⟩) ?_ ?_
                rotate_left
                · intro w'
                  go_simp
                  with_reducible rfl
                rotate_left
                · simp only [Act.put, List.setIfInBounds_toArray, List.set_cons_zero, List.set_cons_succ, i64_w, i32_w]
                  rfl
                refine pure_ (i := 4) (N := some 24) (v := ?_) (a' := ?_) #[true, true, true, false, true, false, false, false, false, false, false] rfl rfl (any_of HT_.out (by kernel_rfl)) (fun _ _ _ h => h) (Or.inl ⟨by rfl, ?_⟩) ?_ ?_
                rotate_left
                · intro w'
                  go_simp
                  with_reducible rfl
                rotate_left
                · simp only [Act.put, List.setIfInBounds_toArray, List.set_cons_zero, List.set_cons_succ, i64_w, i32_w]
                  rfl
                refine pure_ (i := 5) (N := some 25) (v := ?_) (a' := ?_) #[true, true, true, false, true, true, false, false, false, false, false] rfl rfl (any_of HT_.out (by kernel_rfl)) (fun _ _ _ h => h) (Or.inl ⟨by rfl, ?_⟩) ?_ ?_
                rotate_left
                · intro w'
                  go_simp
                  with_reducible rfl
                rotate_left
                · simp only [Act.put, List.setIfInBounds_toArray, List.set_cons_zero, List.set_cons_succ, i64_w, i32_w]
                  rfl
                refine pure_ (i := 6) (N := some 26) (v := ?_) (a' := ?_) #[true, true, true, false, true, true, true, false, false, false, false] rfl rfl (any_of HT_.out (by kernel_rfl)) (fun _ _ _ h => h) (Or.inl ⟨by rfl, ?_⟩) ?_ ?_
                rotate_left
                · intro w'
                  go_simp
                  with_reducible rfl
                rotate_left
                · simp only [Act.put, List.setIfInBounds_toArray, List.set_cons_zero, List.set_cons_succ, i64_w, i32_w]
                  rfl
                refine take_ (i := 3) (N := some 23) (v := ?_) (a' := ?_) #[true, true, true, true, true, true, true, false, false, false, false] rfl rfl (take_ofW HT_.out HW_.out (by kernel_rfl)) (fun _ _ _ h => h) (Or.inl ⟨by rfl, ?_⟩) hHeld ?_ ?_
                rotate_left
                · rintro w' ⟨s0, s1⟩
                  go_simp
                  with_reducible rfl
                rotate_left
                · simp only [Act.put, List.setIfInBounds_toArray, List.set_cons_zero, List.set_cons_succ, i64_w, i32_w]
                  rfl
                refine take_ (i := 7) (N := some 27) (v := ?_) (a' := ?_) #[true, true, true, true, true, true, true, true, false, false, false] rfl rfl (take_ofW HT_.out HW_.out (by kernel_rfl)) (fun _ _ _ h => h) (Or.inl ⟨by rfl, ?_⟩) hHeld ?_ ?_
                rotate_left
                · rintro w' ⟨s0, s1⟩
                  go_simp
                  with_reducible rfl
                rotate_left
                · simp only [Act.put, List.setIfInBounds_toArray, List.set_cons_zero, List.set_cons_succ, i64_w, i32_w]
                  rfl
                refine pure_ (i := 8) (N := some 28) (v := ?_) (a' := ?_) #[true, true, true, true, true, true, true, true, true, false, false] rfl rfl (any_of HT_.out (by kernel_rfl)) (fun _ _ _ h => h) (Or.inl ⟨by rfl, ?_⟩) ?_ ?_
                rotate_left
                · intro w'
                  go_simp
                  with_reducible rfl
                rotate_left
                · simp only [Act.put, List.setIfInBounds_toArray, List.set_cons_zero, List.set_cons_succ, i64_w, i32_w]
                  rfl
                refine pure_ (i := 9) (N := some 29) (v := ?_) (a' := ?_) #[true, true, true, true, true, true, true, true, true, true, false] rfl rfl (any_of HT_.out (by kernel_rfl)) (fun _ _ _ h => h) (Or.inl ⟨by rfl, ?_⟩) ?_ ?_
                rotate_left
                · intro w'
                  go_simp
                  with_reducible rfl
                rotate_left
                · simp only [Act.put, List.setIfInBounds_toArray, List.set_cons_zero, List.set_cons_succ, i64_w, i32_w]
                  rfl
                refine last_ (i := 10) (N := none) #[true, true, true, true, true, true, true, true, true, true, true] rfl rfl (one_of HT_.out (by kernel_rfl)) (by decide) (fun K hK => ?_)
                refine skip_ (w1 := ?_) (by rfl) rfl ?_ ?_
                rotate_left
                · go_simp
                  rfl
                refine hK.out _ _ ?_
                clear hK K
                refine done_ (done_of HT_.out (by kernel_rfl)) ?_
                try go_wp2
                go_roundg k1
                case measure => have := HK1.out; omega
                case rel => exact ⟨(y375), (wrap64 (x6_1 + 1)), (by first | rfl | (simp; done) | (simp [*]; done)), H', ⟨by have := HK1.out; omega⟩, ⟨by (with_reducible repeat (first | apply Kd.R_alloc | apply Kd.R_drewN | apply Kd.R_drew)); exact HQ14.out⟩, ⟨by repeat (first | (with_reducible first | exact HB.out | apply below_alloc | apply pw_below_drewN | apply below_drew1 | refine below_set ?_ GB11.out) | exact HB.out)⟩⟩
              · rw [if_neg c10] at H
                exact absurd H (by simp)
            · rw [if_neg c9] at H
              exact absurd H (by simp)
          · rw [if_neg c8] at H
            have c8b0 : decide (x6_1 < (l0.length : Int)) = false := decide_eq_false c8
            clear c8
            have H' := Aside0.mk H
            clear H
            go_wp2
            (try simp only [Act.put, List.setIfInBounds_toArray, List.set_cons_zero, List.set_cons_succ])
            go_loopg [7] k1 (fun kq v7 w' => ∃ (x5_2 : List Int) (x7_2 : Int), v7 = .int .i64 x7_2 ∧ Aside0 (waypointref01_Add.l1 kq l1 x5_2 x7_2 = some r) ∧ Aside0 (kq ≤ k1) ∧ Aside0 (Kd.R (Kd.int .i64) 3 w' w.heap.size (fun _ => True) v371 x5_2) ∧ Aside0 (Below w.heap.size w w'))
            case atStart => exact ⟨(x5_1), (0), (by first | rfl | (simp; done) | (simp [*]; done)), H', ⟨Nat.le_refl _⟩, ⟨by (with_reducible repeat (first | apply Kd.R_alloc | apply Kd.R_drewN | apply Kd.R_drew)); exact HO_5.out⟩, ⟨by repeat (first | (with_reducible first | exact HB.out | apply below_alloc | apply pw_below_drewN | apply below_drew1) | exact HB.out)⟩⟩
            case round =>
              clear H'
              try clear c1
              try clear p1
              try clear q1
              try clear hx1
              try clear p2
              try clear p3
              try clear q3
              try clear hx3
              try clear c4
              try clear c4b0
              try clear c4b1
              try clear c5
              try clear c5b0
              try clear c5b1
              try clear p6
              try clear c8
              try clear c8b0
              try clear c9
              try clear c9b0
              try clear c10
              try clear c10b0
              try clear p11
              try clear q11
              try clear hx11
              try clear hf11
              try clear hx11_0
              try clear hx373_0
              try clear hx374_0
              try clear p11
              try clear p2
              try clear p373
              try clear p374
              try clear q11
              try clear q373
              try clear q374
              obtain ⟨x5_2, x7_2, rfl, HA, HK2, HO_5, HB⟩ := hrel
              cases gk with
              | zero => exact absurd HA.out (by simp [waypointref01_Add.l1])
              | succ k2 =>
                have H := HA.out
                clear HA
                simp only [waypointref01_Add.l1] at H
                by_cases c15 : x7_2 < (l1.length : Int)
                · rw [if_pos c15] at H
                  have c15b0 : decide (x7_2 < (l1.length : Int)) = true := decide_eq_true c15
                  clear c15
                  by_cases c16 : 0 ≤ x7_2
                  · rw [if_pos c16] at H
                    have c16b0 : decide (0 ≤ x7_2) = true := decide_eq_true c16
                    clear c16
                    by_cases c17 : x7_2 < (x5_2.length : Int)
                    · rw [if_pos c17] at H
                      have c17b0 : decide (x7_2 < (x5_2.length : Int)) = true := decide_eq_true c17
                      clear c17
                      obtain ⟨y378, hy378⟩ : ∃ y_ : List Int, y_ = (x5_2.set (x7_2 : Int).toNat (wrap64 ((rd x5_2 x7_2) + (rd l1 x7_2)))) := ⟨_, rfl⟩
                      replace H : (waypointref01_Add.l1 k2 l1 y378 (wrap64 (x7_2 + 1))) = some r := by first | (rw [hy378]; with_reducible exact H) | (have H2_ := (Option.bind_some _ _).symm.trans H; rw [hy378]; with_reducible exact H2_) | (have H2_ := (Option.bind_some _ _).symm.trans H; with_reducible exact H2_) | with_reducible exact H | (rw [hy378]; exact H) | exact H
                      have Ny378 := Aside0.mk hy378
                      clear hy378
                      have H' := Aside0.mk H
                      clear H
                      try go_wp2
                      have n0_ := Aside0.mk (Kd.R_drew HO_5.out)
                      have n1_ := Aside0.mk (below_drew1 HB.out)
                      clear HO_5
                      clear HB
                      have HO_5 := n0_
                      have HB := n1_
                      clear n0_ n1_
                      obtain ⟨Ao20, co20, eo20⟩ := Kd.R_slice HO_5.out
                      (first | subst eo20 | (injection eo20 with f1_ f2_ f3_; have f4_ := f1_.symm; have f5_ := f3_.symm; clear f1_ f2_ f3_; subst f4_; subst f5_))
                      have p376 : 0 ≤ (x7_2 : Int) := of_decide_eq_true (by first | (with_reducible assumption) | assumption)
                      have q376 : x7_2 < (x5_2.length : Int) := of_decide_eq_true (by first | (with_reducible assumption) | assumption)
                      obtain ⟨ad376, e376, hx376_0⟩ := Kd.at_int (Kd.R_reads' HO_5.out).2.2 x7_2 p376 q376
                      cases e376
                      replace p376 := eq_true p376
                      replace q376 := eq_true q376
                      have p377 : 0 ≤ (x7_2 : Int) := of_decide_eq_true (by first | (with_reducible assumption) | assumption)
                      have q377 : x7_2 < (l1.length : Int) := of_decide_eq_true (by first | (with_reducible assumption) | assumption)
                      obtain ⟨ad377, e377, hx377_0⟩ := Kd.at_int HR1.out x7_2 p377 q377
                      have hw377_0 := hx377_0
                      cases e377
                      replace hx377_0 := (HB.out.cell (World.block_lt_of_cell? w _ hx377_0)).trans hx377_0
                      replace p377 := eq_true p377
                      replace q377 := eq_true q377
                      have p18 : 0 ≤ (x7_2 : Int) := of_decide_eq_true (by first | (with_reducible assumption) | assumption)
                      have q18 : (x7_2 : Int) < ((x5_2.length : Int) : Int) := of_decide_eq_true (by first | (with_reducible assumption) | assumption)
                      obtain ⟨go18, co18, eo18, gb18, gl18, cl18, HG18⟩ := Kd.R_form HO_5.out (by omega)
                      (first | cases eo18 | (injection eo18 with ea_ en_ ec_; (first | subst ea_ | (injection ea_ with ea_; subst ea_)); subst ec_; clear en_))
                      have GB18 := Aside0.mk gb18
                      have GG18 := Aside0.mk HG18
                      clear gb18 gl18 HG18
                      (first | simp only [add_plain] at hx376_0 | skip)
                      obtain ⟨hx18_0, hf18_0⟩ := Kd.R_celln 0 HO_5.out (x7_2 : Int) p18 q18
                      replace p18 := eq_true p18
                      replace q18 := eq_true q18
                      have HP21 := Kd.R_putn HO_5.out (x7_2 : Int) (wrap64 ((rd x5_2 x7_2) + (rd l1 x7_2)))
                      rw [← Ny378.out] at HP21
                      have HQ21 := Aside0.mk HP21
                      clear HP21
                      refine start_ (n := 11) (S := fun w' => w'.cell? ⟨go18, (x7_2).toNat, none⟩ = some (.int .i64 (rd x5_2 x7_2)) ∧ w'.cell? (ad377.add (x7_2).toNat) = some (.int .i64 (rd l1 x7_2))) (ds := [10]) #[false, false, false, false, false, false, false, false, false, false, false] (by kernel_rfl) rfl rfl ⟨hx376_0, ((HB.out.cell (World.block_lt_of_cell? w _ hw377_0)).trans hw377_0)⟩ (fun hHeld => ?_); refine with_tabW waypointref01_Add.tab9 waypointref01_Add.bits9 (fun HT_ HW_ => ?_)
                      generalize wr.drew = w19 at HO_5 HB GG18 HQ21 hf18_0 hx18_0 hx376_0 hx377_0 hHeld ⊢
                      refine pure_ (i := 0) (N := some 36) (v := ?_) (a' := ?_) #[true, false, false, false, false, false, false, false, false, false, false] rfl rfl (any_of HT_.out (by kernel_rfl)) (fun _ _ _ h => h) (Or.inl ⟨by rfl, ?_⟩) ?_ ?_
                      rotate_left
                      · intro w'
                        go_simp
                        with_reducible rfl
                      rotate_left
                      · simp only [Act.put, List.setIfInBounds_toArray, List.set_cons_zero, List.set_cons_succ, i64_w, i32_w]
                        rfl
                      refine pure_ (i := 1) (N := some 37) (v := ?_) (a' := ?_) #[true, true, false, false, false, false, false, false, false, false, false] rfl rfl (any_of HT_.out (by kernel_rfl)) (fun _ _ _ h => h) (Or.inl ⟨by rfl, ?_⟩) ?_ ?_
                      rotate_left
                      · intro w'
                        go_simp
                        with_reducible rfl
                      rotate_left
                      · simp only [Act.put, List.setIfInBounds_toArray, List.set_cons_zero, List.set_cons_succ, i64_w, i32_w]
                        rfl
                      refine pure_ (i := 2) (N := some 38) (v := ?_) (a' := ?_) #[true, true, true, false, false, false, false, false, false, false, false] rfl rfl (any_of HT_.out (by kernel_rfl)) (fun _ _ _ h => h) (Or.inl ⟨by rfl, ?_⟩) ?_ ?_
                      rotate_left
                      · intro w'
                        go_simp
                        with_reducible rfl
                      rotate_left
                      · simp only [Act.put, List.setIfInBounds_toArray, List.set_cons_zero, List.set_cons_succ, i64_w, i32_w]
                        rfl
                      refine pure_ (i := 4) (N := some 40) (v := ?_) (a' := ?_) #[true, true, true, false, true, false, false, false, false, false, false] rfl rfl (any_of HT_.out (by kernel_rfl)) (fun _ _ _ h => h) (Or.inl ⟨by rfl, ?_⟩) ?_ ?_
                      rotate_left
                      · intro w'
                        go_simp
                        with_reducible rfl
                      rotate_left
                      · simp only [Act.put, List.setIfInBounds_toArray, List.set_cons_zero, List.set_cons_succ, i64_w, i32_w]
                        rfl
                      refine pure_ (i := 5) (N := some 41) (v := ?_) (a' := ?_) #[true, true, true, false, true, true, false, false, false, false, false] rfl rfl (any_of HT_.out (by kernel_rfl)) (fun _ _ _ h => h) (Or.inl ⟨by rfl, ?_⟩) ?_ ?_
                      rotate_left
                      · intro w'
                        go_simp
                        with_reducible rfl
                      rotate_left
                      · simp only [Act.put, List.setIfInBounds_toArray, List.set_cons_zero, List.set_cons_succ, i64_w, i32_w]
                        rfl
                      refine pure_ (i := 6) (N := some 42) (v := ?_) (a' := ?_) #[true, true, true, false, true, true, true, false, false, false, false] rfl rfl (any_of HT_.out (by kernel_rfl)) (fun _ _ _ h => h) (Or.inl ⟨by rfl, ?_⟩) ?_ ?_
                      rotate_left
                      · intro w'
                        go_simp
                        with_reducible rfl
                      rotate_left
                      · simp only [Act.put, List.setIfInBounds_toArray, List.set_cons_zero, List.set_cons_succ, i64_w, i32_w]
                        rfl
                      refine take_ (i := 3) (N := some 39) (v := ?_) (a' := ?_) #[true, true, true, true, true, true, true, false, false, false, false] rfl rfl (take_ofW HT_.out HW_.out (by kernel_rfl)) (fun _ _ _ h => h) (Or.inl ⟨by rfl, ?_⟩) hHeld ?_ ?_
                      rotate_left
                      · rintro w' ⟨s0, s1⟩
                        go_simp
                        with_reducible rfl
                      rotate_left
                      · simp only [Act.put, List.setIfInBounds_toArray, List.set_cons_zero, List.set_cons_succ, i64_w, i32_w]
                        rfl
                      refine take_ (i := 7) (N := some 43) (v := ?_) (a' := ?_) #[true, true, true, true, true, true, true, true, false, false, false] rfl rfl (take_ofW HT_.out HW_.out (by kernel_rfl)) (fun _ _ _ h => h) (Or.inl ⟨by rfl, ?_⟩) hHeld ?_ ?_
                      rotate_left
                      · rintro w' ⟨s0, s1⟩
                        go_simp
                        with_reducible rfl
                      rotate_left
                      · simp only [Act.put, List.setIfInBounds_toArray, List.set_cons_zero, List.set_cons_succ, i64_w, i32_w]
                        rfl
                      refine pure_ (i := 8) (N := some 44) (v := ?_) (a' := ?_) #[true, true, true, true, true, true, true, true, true, false, false] rfl rfl (any_of HT_.out (by kernel_rfl)) (fun _ _ _ h => h) (Or.inl ⟨by rfl, ?_⟩) ?_ ?_
                      rotate_left
                      · intro w'
                        go_simp
                        with_reducible rfl
                      rotate_left
                      · simp only [Act.put, List.setIfInBounds_toArray, List.set_cons_zero, List.set_cons_succ, i64_w, i32_w]
                        rfl
                      refine pure_ (i := 9) (N := some 45) (v := ?_) (a' := ?_) #[true, true, true, true, true, true, true, true, true, true, false] rfl rfl (any_of HT_.out (by kernel_rfl)) (fun _ _ _ h => h) (Or.inl ⟨by rfl, ?_⟩) ?_ ?_
                      rotate_left
                      · intro w'
                        go_simp
                        with_reducible rfl
                      rotate_left
                      · simp only [Act.put, List.setIfInBounds_toArray, List.set_cons_zero, List.set_cons_succ, i64_w, i32_w]
                        rfl
                      refine last_ (i := 10) (N := none) #[true, true, true, true, true, true, true, true, true, true, true] rfl rfl (one_of HT_.out (by kernel_rfl)) (by decide) (fun K hK => ?_)
                      refine skip_ (w1 := ?_) (by rfl) rfl ?_ ?_
                      rotate_left
                      · go_simp
                        rfl
                      refine hK.out _ _ ?_
                      clear hK K
                      refine done_ (done_of HT_.out (by kernel_rfl)) ?_
                      try go_wp2
                      go_roundg k2
                      case measure => have := HK1.out; have := HK2.out; omega
                      case rel => exact ⟨(y378), (wrap64 (x7_2 + 1)), (by first | rfl | (simp; done) | (simp [*]; done)), H', ⟨by have := HK1.out; have := HK2.out; omega⟩, ⟨by (with_reducible repeat (first | apply Kd.R_alloc | apply Kd.R_drewN | apply Kd.R_drew)); exact HQ21.out⟩, ⟨by repeat (first | (with_reducible first | exact HB.out | apply below_alloc | apply pw_below_drewN | apply below_drew1 | refine below_set ?_ GB18.out) | exact HB.out)⟩⟩
                    · rw [if_neg c17] at H
                      exact absurd H (by simp)
                  · rw [if_neg c16] at H
                    exact absurd H (by simp)
                · rw [if_neg c15] at H
                  have c15b0 : decide (x7_2 < (l1.length : Int)) = false := decide_eq_false c15
                  clear c15
                  replace H := Option.bind_eq_some_iff.mp H
                  obtain ⟨t379, A220, H⟩ := H
                  replace H : (some t379) = some r := H
                  have A22 := Aside0.mk A220
                  clear A220
                  obtain rfl := Option.some.inj H
                  obtain ⟨Ao23, co23, eo23⟩ := Kd.R_slice HO_5.out
                  subst eo23
                  go_wp2_with (first | ((with_reducible refine gate_callee (f := 37) rfl ?_); refine goesL_ (some 47) rfl rfl Tryd.func37 (by kernel_rfl) rfl #[.slice Ao23 x5_2.length co23] rfl (by (try simp only [List.map_toArray, List.map_cons, List.map_nil]); first | done | rfl | (simp only [List.length_drop, List.length_take]; rfl)) ?_; (with_reducible refine (waypointref01_carried.calls k2 _ _ x5_2 t379 _ ?side1 ?side2 A22.out).mono ?_); (case side1 => repeat (first | exact (Kd.R_reads' HO_5.out).2.2 | (with_reducible refine Kd.C_alloc ?_ _) | (with_reducible refine Kd.C_drewN ?_ _) | (with_reducible refine Kd.C_drew ?_))); (case side2 => exact (Kd.R_reads' HO_5.out).2.1); rintro e w24 ⟨v380, rfl, ho0, hb⟩; refine ⟨_, rfl, ?_⟩; have n0_ := Aside0.mk (Kd.R_elder' (by (with_reducible repeat (first | apply Kd.R_alloc | apply Kd.R_drewN | apply Kd.R_drew)); exact HO_5.out) (Kd.R_base ho0) hb); have n1_ := Aside0.mk (Kd.R_lower (Kd.R_new' ho0 (Kd.R_lt (by (with_reducible repeat (first | apply Kd.R_alloc | apply Kd.R_drewN | apply Kd.R_drew)); exact HO_5.out))) (below_size (by repeat (first | (with_reducible first | exact HB.out | apply below_alloc | apply pw_below_drewN | apply below_drew1) | exact HB.out)))); have n2_ := Aside0.mk (below_step (by repeat (first | (with_reducible first | exact HB.out | apply below_alloc | apply pw_below_drewN | apply below_drew1) | exact HB.out)) hb); clear HO_5; clear HB; have HO_5 := n0_; have HO381 := n1_; have HB := n2_; clear n0_ n1_ n2_; (try clear hb); (try clear hb2); (try clear hk); (try clear hi); (try clear ho0)))
                  go_ret
                  exact ⟨_, by first | rfl | (simp [errW_none, errW_some] <;> rfl) | (simp only [← hji3]; first | rfl | (simp [errW_none, errW_some] <;> rfl)) | (simp [*, errW_none, errW_some] <;> rfl), by (with_reducible repeat (first | apply Kd.R_alloc | apply Kd.R_drewN | apply Kd.R_drew)); exact Kd.R_mono HO381.out (fun _ hk => trivial), by repeat (first | (with_reducible first | exact HB.out | apply below_alloc | apply pw_below_drewN | apply below_drew1) | exact HB.out)⟩
    · rw [if_neg c5] at H
      exact absurd H (by simp)
  · rw [if_neg c4] at H
    exact absurd H (by simp)
end Go.Proofs.YtmjkhbjfacfmcaaDoor.PA
end
section
namespace Go.Proofs.YtmjkhbjfacfmcaaDoor.PA
open Go.RowKit Go.Proofs.YtmjkhbjfacfmcaaDoorW.PrintWords Go.Proofs.YtmjkhbjfacfmcaaDoorW.PrintLast Go.Proofs.YtmjkhbjfacfmcaaDoorW.PrintMore
attribute [local go_sem] max2_int min2_int max_two min_two max_three min_three max_four min_four
set_option linter.unusedVariables false
set_option linter.unusedSimpArgs false
def waypointref01_times.l0 : Nat → List Int → Int → List Int → Int → Option (List Int)
  | 0, _, _, _, _ => none
  | k + 1, x0, x1, x5, x6 => if x6 < (x0.length : Int) then (if 0 ≤ x6 then (if x5.length < 17592186044416 then (waypointref01_times.l0 k x0 x1 (x5 ++ [wrap64 ((rd x0 x6) * x1)]) (wrap64 (x6 + 1))) else (none)) else (none)) else ((waypointref01_carried.f k x5).bind fun t386 => (some t386))
def waypointref01_times.f (k : Nat) (l0 : List Int) (a1 : Int) : Option (List Int) := waypointref01_times.l0 k l0 a1 ([] : List Int) 0
theorem waypointref01_times.mono_l : ∀ k, (∀ y0 y1 y2 y3, LeO (waypointref01_times.l0 k y0 y1 y2 y3) (waypointref01_times.l0 (k + 1) y0 y1 y2 y3))
  | 0 => fun _ _ _ _ r h => by simp [waypointref01_times.l0] at h
  | k + 1 => by
    have ih0 := waypointref01_times.mono_l k
    · intro y0 y1 y2 y3
      unfold waypointref01_times.l0
      repeat' first
      | (with_reducible exact ih0 _ _ _ _)
      | (with_reducible exact waypointref01_carried.mono _ _)
      | (with_reducible exact LeO.refl _)
      | (with_reducible exact LeO.none _)
      | (with_reducible refine LeO.ite ?_ ?_)
      | (with_reducible refine LeO.bind ?_ (fun _ => ?_))
      | exact ih0 _ _ _ _
      | exact waypointref01_carried.mono _ _
      | exact LeO.none _
      | refine LeO.ite ?_ ?_
      | refine LeO.bind ?_ (fun _ => ?_)
theorem waypointref01_times.mono : ∀ a0 a1 k, LeO (waypointref01_times.f k a0 a1) (waypointref01_times.f (k + 1) a0 a1) := by
  intro a0 a1 k
  have ih0 := waypointref01_times.mono_l k
  unfold waypointref01_times.f
  repeat' first
      | (with_reducible exact ih0 _ _ _ _)
      | (with_reducible exact waypointref01_carried.mono _ _)
      | (with_reducible exact LeO.refl _)
      | (with_reducible exact LeO.none _)
      | (with_reducible refine LeO.ite ?_ ?_)
      | (with_reducible refine LeO.bind ?_ (fun _ => ?_))
      | exact ih0 _ _ _ _
      | exact waypointref01_carried.mono _ _
      | exact LeO.none _
      | refine LeO.ite ?_ ?_
      | refine LeO.bind ?_ (fun _ => ?_)
set_option maxHeartbeats 8000000 in
set_option maxRecDepth 100000 in
theorem waypointref01_times.calls (k : Nat) (A0 : Option Addr) (c0 : Nat) (l0 : List Int) (a1 : Int) (r : List Int) (w : World) (hr0 : Kd.C (Kd.int .i64) w A0 l0.length l0) (hc0 : l0.length ≤ c0) (h : waypointref01_times.f k l0 a1 = some r) :
    Calls Tryd.prog 47 #[.slice A0 l0.length c0, .int .i64 a1] w fun e w' => ∃ v0_ : Value, e = .returned (v0_) ∧ Kd.R (Kd.int .i64) 3 w' w.heap.size (fun _ => True) v0_ r ∧ Below w.heap.size w w' := by
  have HR0 := Aside0.mk hr0
  have HC0 := Aside0.mk hc0
  clear hr0 hc0
  have HB := Aside0.mk (Below.refl w.heap.size w)
  have H : (waypointref01_times.l0 k l0 a1 ([] : List Int) 0) = some r := h
  clear h
  have H' := Aside0.mk H
  clear H
  go_enter Tryd.func47, Tryd.ntmps47
  go_wp2
  (try simp only [Act.put, List.setIfInBounds_toArray, List.set_cons_zero, List.set_cons_succ])
  go_loopg [5, 6] k (fun kq v5 v6 w' => ∃ (x5_1 : List Int) (x6_1 : Int), v6 = .int .i64 x6_1 ∧ Aside0 (waypointref01_times.l0 kq l0 a1 x5_1 x6_1 = some r) ∧ Aside0 (kq ≤ k) ∧ Aside0 (Kd.R (Kd.int .i64) 3 w' w.heap.size (fun _ => True) v5 x5_1) ∧ Aside0 (Below w.heap.size w w'))
  case atStart => exact ⟨(([] : List Int)), (0), (by first | rfl | (simp; done) | (simp [*]; done)), H', ⟨Nat.le_refl _⟩, ⟨by first | exact Kd.R_nil _ _ _ _ _ | exact Kd.N_nil _ _ _ _ _ | exact Kd.V_nil _ _ _ _ _ | exact Kd.Q_nil _ _ _ _ _ | exact Kd.S_nil _ _ _ _ _⟩, ⟨by repeat (first | (with_reducible first | exact HB.out | apply below_alloc | apply pw_below_drewN | apply below_drew1) | exact HB.out)⟩⟩
  case round =>
    clear H'
    try clear p2
    obtain ⟨x5_1, x6_1, rfl, HA, HK1, HO_5, HB⟩ := hrel
    cases gk with
    | zero => exact absurd HA.out (by simp [waypointref01_times.l0])
    | succ k1 =>
      have H := HA.out
      clear HA
      simp only [waypointref01_times.l0] at H
      by_cases c3 : x6_1 < (l0.length : Int)
      · rw [if_pos c3] at H
        have c3b0 : decide (x6_1 < (l0.length : Int)) = true := decide_eq_true c3
        clear c3
        by_cases c4 : 0 ≤ x6_1
        · rw [if_pos c4] at H
          have c4b0 : decide (0 ≤ x6_1) = true := decide_eq_true c4
          clear c4
          by_cases c5 : x5_1.length < 17592186044416
          · rw [if_pos c5] at H
            have LMc5 := Aside0.mk c5
            clear c5
            obtain ⟨y383, hy383⟩ : ∃ y_ : List Int, y_ = (x5_1 ++ [wrap64 ((rd l0 x6_1) * a1)]) := ⟨_, rfl⟩
            replace H : (waypointref01_times.l0 k1 l0 a1 y383 (wrap64 (x6_1 + 1))) = some r := by first | (rw [hy383]; with_reducible exact H) | (have H2_ := (Option.bind_some _ _).symm.trans H; rw [hy383]; with_reducible exact H2_) | (have H2_ := (Option.bind_some _ _).symm.trans H; with_reducible exact H2_) | with_reducible exact H | (rw [hy383]; exact H) | exact H
            have Ny383 := Aside0.mk hy383
            clear hy383
            have H' := Aside0.mk H
            clear H
            have p382 : 0 ≤ (x6_1 : Int) := of_decide_eq_true (by first | (with_reducible assumption) | assumption)
            have q382 : x6_1 < (l0.length : Int) := of_decide_eq_true (by first | (with_reducible assumption) | assumption)
            obtain ⟨ad382, e382, hx382_0⟩ := Kd.at_int HR0.out x6_1 p382 q382
            cases e382
            replace hx382_0 := (HB.out.cell (World.block_lt_of_cell? w _ hx382_0)).trans hx382_0
            replace p382 := eq_true p382
            replace q382 := eq_true q382
            go_wp2_with (first | ((with_reducible refine gate_builtin (b := .append) (xs := #[.tmp 13, .tmp 20]) rfl ?_); at_builtin; refine Kd.R_append (Kd.int .i64) (w0 := w) w.heap.size rfl (.tmp 13) (.tmp 20) 27 3 (.int .i64 0) 8 rfl Tryd.underlying27 info3 rfl (by decide) (by omega) u5 x5_1 (wrap64 ((rd l0 x6_1) * a1)) [.int .i64 (wrap64 ((rd l0 x6_1) * a1))] (fun _ => True) (fun _ => False) rfl rfl ?aP (fun _ hk => hk.elim) ?aF ?aO ?aB ?aS ?aL ?_; (case aP => exact rfl); (case aB => exact (by repeat (first | (with_reducible first | exact HB.out | apply below_alloc | apply pw_below_drewN | apply below_drew1) | exact HB.out))); (case aF => exact (fun _ _ => trivial)); (case aO => exact (by (with_reducible repeat (first | apply Kd.R_alloc | apply Kd.R_drewN | apply Kd.R_drew)); exact HO_5.out)); (case aS => exact (below_size (by repeat (first | (with_reducible first | exact HB.out | apply below_alloc | apply pw_below_drewN | apply below_drew1) | exact HB.out)))); (case aL => have := LMc5.out; omega); intro v384 w6 ho hb hg hat; rw [← Ny383.out] at ho; have n0_ := Aside0.mk (hb); have n1_ := Aside0.mk (ho); clear HB; clear HO_5; have HB := n0_; have HO385 := n1_; clear n0_ n1_; clear ho hb hg hat))
            go_roundg k1
            case measure => have := HK1.out; omega
            case rel => exact ⟨(y383), (wrap64 (x6_1 + 1)), (by first | rfl | (simp; done) | (simp [*]; done)), H', ⟨by have := HK1.out; omega⟩, ⟨by (with_reducible repeat (first | apply Kd.R_alloc | apply Kd.R_drewN | apply Kd.R_drew)); exact HO385.out⟩, ⟨by repeat (first | (with_reducible first | exact HB.out | apply below_alloc | apply pw_below_drewN | apply below_drew1) | exact HB.out)⟩⟩
          · rw [if_neg c5] at H
            exact absurd H (by simp)
        · rw [if_neg c4] at H
          exact absurd H (by simp)
      · rw [if_neg c3] at H
        have c3b0 : decide (x6_1 < (l0.length : Int)) = false := decide_eq_false c3
        clear c3
        replace H := Option.bind_eq_some_iff.mp H
        obtain ⟨t386, A70, H⟩ := H
        replace H : (some t386) = some r := H
        have A7 := Aside0.mk A70
        clear A70
        obtain rfl := Option.some.inj H
        obtain ⟨Ao8, co8, eo8⟩ := Kd.R_slice HO_5.out
        subst eo8
        go_wp2_with (first | ((with_reducible refine gate_callee (f := 37) rfl ?_); refine goesL_ (some 23) rfl rfl Tryd.func37 (by kernel_rfl) rfl #[.slice Ao8 x5_1.length co8] rfl (by (try simp only [List.map_toArray, List.map_cons, List.map_nil]); first | done | rfl | (simp only [List.length_drop, List.length_take]; rfl)) ?_; (with_reducible refine (waypointref01_carried.calls k1 _ _ x5_1 t386 _ ?side1 ?side2 A7.out).mono ?_); (case side1 => repeat (first | exact (Kd.R_reads' HO_5.out).2.2 | (with_reducible refine Kd.C_alloc ?_ _) | (with_reducible refine Kd.C_drewN ?_ _) | (with_reducible refine Kd.C_drew ?_))); (case side2 => exact (Kd.R_reads' HO_5.out).2.1); rintro e w9 ⟨v387, rfl, ho0, hb⟩; refine ⟨_, rfl, ?_⟩; have n0_ := Aside0.mk (Kd.R_elder' (by (with_reducible repeat (first | apply Kd.R_alloc | apply Kd.R_drewN | apply Kd.R_drew)); exact HO_5.out) (Kd.R_base ho0) hb); have n1_ := Aside0.mk (Kd.R_lower (Kd.R_new' ho0 (Kd.R_lt (by (with_reducible repeat (first | apply Kd.R_alloc | apply Kd.R_drewN | apply Kd.R_drew)); exact HO_5.out))) (below_size (by repeat (first | (with_reducible first | exact HB.out | apply below_alloc | apply pw_below_drewN | apply below_drew1) | exact HB.out)))); have n2_ := Aside0.mk (below_step (by repeat (first | (with_reducible first | exact HB.out | apply below_alloc | apply pw_below_drewN | apply below_drew1) | exact HB.out)) hb); clear HO_5; clear HB; have HO_5 := n0_; have HO388 := n1_; have HB := n2_; clear n0_ n1_ n2_; (try clear hb); (try clear hb2); (try clear hk); (try clear hi); (try clear ho0)))
        go_ret
        exact ⟨_, by first | rfl | (simp [errW_none, errW_some] <;> rfl) | (simp [*, errW_none, errW_some] <;> rfl), by (with_reducible repeat (first | apply Kd.R_alloc | apply Kd.R_drewN | apply Kd.R_drew)); exact Kd.R_mono HO388.out (fun _ hk => trivial), by repeat (first | (with_reducible first | exact HB.out | apply below_alloc | apply pw_below_drewN | apply below_drew1) | exact HB.out)⟩
end Go.Proofs.YtmjkhbjfacfmcaaDoor.PA
end
section
namespace Go.Proofs.YtmjkhbjfacfmcaaDoor.PA
open Go.RowKit Go.Proofs.YtmjkhbjfacfmcaaDoorW.PrintWords Go.Proofs.YtmjkhbjfacfmcaaDoorW.PrintLast Go.Proofs.YtmjkhbjfacfmcaaDoorW.PrintMore
attribute [local go_sem] max2_int min2_int max_two min_two max_three min_three max_four min_four
set_option linter.unusedVariables false
set_option linter.unusedSimpArgs false
def waypointref01_Of.l0 : Nat → Int → List Int → Option (List Int)
  | 0, _, _ => none
  | k + 1, x0, x3 => if x0 > 0 then (if x3.length < 17592186044416 then (waypointref01_Of.l0 k (IntKind.u64.wrap (Int.tdiv x0 1000000)) (x3 ++ [wrap64 (Int.tmod x0 1000000)])) else (none)) else ((waypointref01_without.f k x3).bind fun t392 => (some t392))
def waypointref01_Of.f (k : Nat) (a0 : Int) : Option (List Int) := waypointref01_Of.l0 k a0 ([] : List Int)
theorem waypointref01_Of.mono_l : ∀ k, (∀ y0 y1, LeO (waypointref01_Of.l0 k y0 y1) (waypointref01_Of.l0 (k + 1) y0 y1))
  | 0 => fun _ _ r h => by simp [waypointref01_Of.l0] at h
  | k + 1 => by
    have ih0 := waypointref01_Of.mono_l k
    · intro y0 y1
      unfold waypointref01_Of.l0
      repeat' first
      | (with_reducible exact ih0 _ _)
      | (with_reducible exact waypointref01_without.mono _ _)
      | (with_reducible exact LeO.refl _)
      | (with_reducible exact LeO.none _)
      | (with_reducible refine LeO.ite ?_ ?_)
      | (with_reducible refine LeO.bind ?_ (fun _ => ?_))
      | exact ih0 _ _
      | exact waypointref01_without.mono _ _
      | exact LeO.none _
      | refine LeO.ite ?_ ?_
      | refine LeO.bind ?_ (fun _ => ?_)
theorem waypointref01_Of.mono : ∀ a0 k, LeO (waypointref01_Of.f k a0) (waypointref01_Of.f (k + 1) a0) := by
  intro a0 k
  have ih0 := waypointref01_Of.mono_l k
  unfold waypointref01_Of.f
  repeat' first
      | (with_reducible exact ih0 _ _)
      | (with_reducible exact waypointref01_without.mono _ _)
      | (with_reducible exact LeO.refl _)
      | (with_reducible exact LeO.none _)
      | (with_reducible refine LeO.ite ?_ ?_)
      | (with_reducible refine LeO.bind ?_ (fun _ => ?_))
      | exact ih0 _ _
      | exact waypointref01_without.mono _ _
      | exact LeO.none _
      | refine LeO.ite ?_ ?_
      | refine LeO.bind ?_ (fun _ => ?_)
set_option maxHeartbeats 8000000 in
set_option maxRecDepth 100000 in
theorem waypointref01_Of.calls (k : Nat) (a0 : Int) (r : List Int) (w : World) (h : waypointref01_Of.f k a0 = some r) :
    Calls Tryd.prog 48 #[.int .u64 a0] w fun e w' => ∃ v0_ : Value, e = .returned (v0_) ∧ Kd.R (Kd.int .i64) 3 w' w.heap.size (fun _ => True) v0_ r ∧ Below w.heap.size w w' := by
  have HB := Aside0.mk (Below.refl w.heap.size w)
  have H : (waypointref01_Of.l0 k a0 ([] : List Int)) = some r := h
  clear h
  have H' := Aside0.mk H
  clear H
  go_enter Tryd.func48, Tryd.ntmps48
  go_wp2
  (try simp only [Act.put, List.setIfInBounds_toArray, List.set_cons_zero, List.set_cons_succ])
  go_loopg [0, 3] k (fun kq v0 v3 w' => ∃ (x0_1 : Int) (x3_1 : List Int), v0 = .int .u64 x0_1 ∧ Aside0 (waypointref01_Of.l0 kq x0_1 x3_1 = some r) ∧ Aside0 (kq ≤ k) ∧ Aside0 (Kd.R (Kd.int .i64) 3 w' w.heap.size (fun _ => True) v3 x3_1) ∧ Aside0 (Below w.heap.size w w'))
  case atStart => exact ⟨(a0), (([] : List Int)), (by first | rfl | (simp; done) | (simp [*]; done)), H', ⟨Nat.le_refl _⟩, ⟨by first | exact Kd.R_nil _ _ _ _ _ | exact Kd.N_nil _ _ _ _ _ | exact Kd.V_nil _ _ _ _ _ | exact Kd.Q_nil _ _ _ _ _ | exact Kd.S_nil _ _ _ _ _⟩, ⟨by repeat (first | (with_reducible first | exact HB.out | apply below_alloc | apply pw_below_drewN | apply below_drew1) | exact HB.out)⟩⟩
  case round =>
    clear H'
    obtain ⟨x0_1, x3_1, rfl, HA, HK1, HO_3, HB⟩ := hrel
    cases gk with
    | zero => exact absurd HA.out (by simp [waypointref01_Of.l0])
    | succ k1 =>
      have H := HA.out
      clear HA
      simp only [waypointref01_Of.l0] at H
      by_cases c2 : x0_1 > 0
      · rw [if_pos c2] at H
        have c2b0 : decide (0 < x0_1) = true := decide_eq_true c2
        clear c2
        by_cases c3 : x3_1.length < 17592186044416
        · rw [if_pos c3] at H
          have LMc3 := Aside0.mk c3
          clear c3
          obtain ⟨y389, hy389⟩ : ∃ y_ : List Int, y_ = (x3_1 ++ [wrap64 (Int.tmod x0_1 1000000)]) := ⟨_, rfl⟩
          replace H : (waypointref01_Of.l0 k1 (IntKind.u64.wrap (Int.tdiv x0_1 1000000)) y389) = some r := by first | (rw [hy389]; with_reducible exact H) | (have H2_ := (Option.bind_some _ _).symm.trans H; rw [hy389]; with_reducible exact H2_) | (have H2_ := (Option.bind_some _ _).symm.trans H; with_reducible exact H2_) | with_reducible exact H | (rw [hy389]; exact H) | exact H
          have Ny389 := Aside0.mk hy389
          clear hy389
          have H' := Aside0.mk H
          clear H
          go_wp2_with (first | ((with_reducible refine gate_builtin (b := .append) (xs := #[.tmp 6, .tmp 10]) rfl ?_); at_builtin; refine Kd.R_append (Kd.int .i64) (w0 := w) w.heap.size rfl (.tmp 6) (.tmp 10) 27 3 (.int .i64 0) 8 rfl Tryd.underlying27 info3 rfl (by decide) (by omega) u3 x3_1 (wrap64 (Int.tmod x0_1 1000000)) [.int .i64 (wrap64 (Int.tmod x0_1 1000000))] (fun _ => True) (fun _ => False) rfl rfl ?aP (fun _ hk => hk.elim) ?aF ?aO ?aB ?aS ?aL ?_; (case aP => exact rfl); (case aB => exact (by repeat (first | (with_reducible first | exact HB.out | apply below_alloc | apply pw_below_drewN | apply below_drew1) | exact HB.out))); (case aF => exact (fun _ _ => trivial)); (case aO => exact (by (with_reducible repeat (first | apply Kd.R_alloc | apply Kd.R_drewN | apply Kd.R_drew)); exact HO_3.out)); (case aS => exact (below_size (by repeat (first | (with_reducible first | exact HB.out | apply below_alloc | apply pw_below_drewN | apply below_drew1) | exact HB.out)))); (case aL => have := LMc3.out; omega); intro v390 w4 ho hb hg hat; rw [← Ny389.out] at ho; have n0_ := Aside0.mk (hb); have n1_ := Aside0.mk (ho); clear HB; clear HO_3; have HB := n0_; have HO391 := n1_; clear n0_ n1_; clear ho hb hg hat))
          go_roundg k1
          case measure => have := HK1.out; omega
          case rel => exact ⟨(IntKind.u64.wrap (Int.tdiv x0_1 1000000)), (y389), (by first | rfl | (simp; done) | (simp [*]; done)), H', ⟨by have := HK1.out; omega⟩, ⟨by (with_reducible repeat (first | apply Kd.R_alloc | apply Kd.R_drewN | apply Kd.R_drew)); exact HO391.out⟩, ⟨by repeat (first | (with_reducible first | exact HB.out | apply below_alloc | apply pw_below_drewN | apply below_drew1) | exact HB.out)⟩⟩
        · rw [if_neg c3] at H
          exact absurd H (by simp)
      · rw [if_neg c2] at H
        have c2b0 : decide (0 < x0_1) = false := decide_eq_false c2
        clear c2
        replace H := Option.bind_eq_some_iff.mp H
        obtain ⟨t392, A50, H⟩ := H
        replace H : (some t392) = some r := H
        have A5 := Aside0.mk A50
        clear A50
        obtain rfl := Option.some.inj H
        obtain ⟨Ao6, co6, eo6⟩ := Kd.R_slice HO_3.out
        subst eo6
        go_wp2_with (first | ((with_reducible refine gate_callee (f := 36) rfl ?_); refine goesL_ (some 15) rfl rfl Tryd.func36 (by kernel_rfl) rfl #[.slice Ao6 x3_1.length co6] rfl (by (try simp only [List.map_toArray, List.map_cons, List.map_nil]); first | done | rfl | (simp only [List.length_drop, List.length_take]; rfl)) ?_; (with_reducible refine (waypointref01_without.calls k1 (fun k_ => some k_ = (.slice Ao6 x3_1.length co6 : Value).ownBlock) _ _ x3_1 t392 _ ?side1 A5.out).mono ?_); (case side1 => exact Kd.R_V (Kd.R_tight rfl (HO_3.out))); rintro e w7 ⟨v393, rfl, ho0, hb⟩; refine ⟨_, rfl, ?_⟩; have n0_ := Aside0.mk (Kd.R_elder' (by (with_reducible repeat (first | apply Kd.R_alloc | apply Kd.R_drewN | apply Kd.R_drew)); exact HO_3.out) (Kd.R_base ho0) hb); have n1_ := Aside0.mk (Kd.R_lower (Kd.R_new' (Kd.R_mono (ok' := fun k_ => True) ho0 (fun _ hk_ => trivial)) (Kd.R_lt (by (with_reducible repeat (first | apply Kd.R_alloc | apply Kd.R_drewN | apply Kd.R_drew)); exact HO_3.out))) (below_size (by repeat (first | (with_reducible first | exact HB.out | apply below_alloc | apply pw_below_drewN | apply below_drew1) | exact HB.out)))); have n2_ := Aside0.mk (below_step (by repeat (first | (with_reducible first | exact HB.out | apply below_alloc | apply pw_below_drewN | apply below_drew1) | exact HB.out)) hb); clear HO_3; clear HB; have HO_3 := n0_; have HO394 := n1_; have HB := n2_; clear n0_ n1_ n2_; (try clear hb); (try clear hb2); (try clear hk); (try clear hi); (try clear ho0)))
        go_ret
        exact ⟨_, by first | rfl | (simp [errW_none, errW_some] <;> rfl) | (simp [*, errW_none, errW_some] <;> rfl), by (with_reducible repeat (first | apply Kd.R_alloc | apply Kd.R_drewN | apply Kd.R_drew)); exact Kd.R_mono HO394.out (fun _ hk => trivial), by repeat (first | (with_reducible first | exact HB.out | apply below_alloc | apply pw_below_drewN | apply below_drew1) | exact HB.out)⟩
end Go.Proofs.YtmjkhbjfacfmcaaDoor.PA
end
section
namespace Go.Proofs.YtmjkhbjfacfmcaaDoor.PA
open Go.RowKit Go.Proofs.YtmjkhbjfacfmcaaDoorW.PrintWords Go.Proofs.YtmjkhbjfacfmcaaDoorW.PrintLast Go.Proofs.YtmjkhbjfacfmcaaDoorW.PrintMore
attribute [local go_sem] max2_int min2_int max_two min_two max_three min_three max_four min_four
set_option linter.unusedVariables false
set_option linter.unusedSimpArgs false
def waypointref01_Make.l0 : Nat → List Int → List Int → Int → Option (List Int)
  | 0, _, _, _ => none
  | k + 1, x0, x3, x4 => if x4 < (x0.length : Int) then ((waypointref01_times.f k x3 4294967296).bind fun t398 => (if 0 ≤ (wrap64 ((wrap64 ((x0.length : Int) - 1)) - x4)) then (if (wrap64 ((wrap64 ((x0.length : Int) - 1)) - x4)) < (x0.length : Int) then ((waypointref01_Of.f k (IntKind.u64.wrap (rd x0 (wrap64 ((wrap64 ((x0.length : Int) - 1)) - x4))))).bind fun t402 => ((waypointref01_Add.f k t398 t402).bind fun t405 => (waypointref01_Make.l0 k x0 t405 (wrap64 (x4 + 1))))) else (none)) else (none))) else (some x3)
def waypointref01_Make.f (k : Nat) (l0 : List Int) : Option (List Int) := waypointref01_Make.l0 k l0 (([] : List Int)) 0
theorem waypointref01_Make.mono_l : ∀ k, (∀ y0 y1 y2, LeO (waypointref01_Make.l0 k y0 y1 y2) (waypointref01_Make.l0 (k + 1) y0 y1 y2))
  | 0 => fun _ _ _ r h => by simp [waypointref01_Make.l0] at h
  | k + 1 => by
    have ih0 := waypointref01_Make.mono_l k
    · intro y0 y1 y2
      unfold waypointref01_Make.l0
      repeat' first
      | (with_reducible exact ih0 _ _ _)
      | (with_reducible exact waypointref01_Add.mono _ _ _)
      | (with_reducible exact waypointref01_Of.mono _ _)
      | (with_reducible exact waypointref01_times.mono _ _ _)
      | (with_reducible exact LeO.refl _)
      | (with_reducible exact LeO.none _)
      | (with_reducible refine LeO.ite ?_ ?_)
      | (with_reducible refine LeO.bind ?_ (fun _ => ?_))
      | exact ih0 _ _ _
      | exact waypointref01_Add.mono _ _ _
      | exact waypointref01_Of.mono _ _
      | exact waypointref01_times.mono _ _ _
      | exact LeO.none _
      | refine LeO.ite ?_ ?_
      | refine LeO.bind ?_ (fun _ => ?_)
theorem waypointref01_Make.mono : ∀ a0 k, LeO (waypointref01_Make.f k a0) (waypointref01_Make.f (k + 1) a0) := by
  intro a0 k
  have ih0 := waypointref01_Make.mono_l k
  unfold waypointref01_Make.f
  repeat' first
      | (with_reducible exact ih0 _ _ _)
      | (with_reducible exact waypointref01_Add.mono _ _ _)
      | (with_reducible exact waypointref01_Of.mono _ _)
      | (with_reducible exact waypointref01_times.mono _ _ _)
      | (with_reducible exact LeO.refl _)
      | (with_reducible exact LeO.none _)
      | (with_reducible refine LeO.ite ?_ ?_)
      | (with_reducible refine LeO.bind ?_ (fun _ => ?_))
      | exact ih0 _ _ _
      | exact waypointref01_Add.mono _ _ _
      | exact waypointref01_Of.mono _ _
      | exact waypointref01_times.mono _ _ _
      | exact LeO.none _
      | refine LeO.ite ?_ ?_
      | refine LeO.bind ?_ (fun _ => ?_)
def waypointref01_Make.T5 : Bool × List (List Nat × List Nat) := (true, [([], []), ([0], [0]), ([], []), ([], []), ([3], [3]), ([4], [4]), ([], []), ([5, 6], [5, 6]), ([2, 7], [2, 7]), ([8], [8]), ([9], [9]), ([10, 1], [10]), ([1, 11, 11], [1, 11]), ([12, 12, 0, 1, 2, 3, 4, 5, 6, 7, 8, 9, 10, 11, 12], [0, 12])])
def waypointref01_Make.B5 : List Nat := [0, 1, 0, 0, 8, 24, 0, 120, 252, 508, 1020, 2047, 4095, 8191]
theorem waypointref01_Make.tab5 : rtab .any (opsOf Tryd.f26 5) = waypointref01_Make.T5 := by kernel_rfl
theorem waypointref01_Make.bits5 : waitsOk waypointref01_Make.T5.2 waypointref01_Make.B5 = true := by kernel_rfl
set_option maxHeartbeats 8000000 in
set_option maxRecDepth 100000 in
theorem waypointref01_Make.calls (k : Nat) (A0 : Option Addr) (c0 : Nat) (l0 : List Int) (r : List Int) (w : World) (hr0 : Kd.C (Kd.int .u32) w A0 l0.length l0) (hc0 : l0.length ≤ c0) (h : waypointref01_Make.f k l0 = some r) :
    Calls Tryd.prog 26 #[.slice A0 l0.length c0] w fun e w' => ∃ v0_ : Value, e = .returned (v0_) ∧ Kd.R (Kd.int .i64) 3 w' w.heap.size (fun _ => True) v0_ r ∧ Below w.heap.size w w' := by
  have HR0 := Aside0.mk hr0
  have HC0 := Aside0.mk hc0
  clear hr0 hc0
  have HB := Aside0.mk (Below.refl w.heap.size w)
  have H : (waypointref01_Make.l0 k l0 (([] : List Int)) 0) = some r := h
  clear h
  obtain ⟨y395, hy395⟩ : ∃ y_ : List Int, y_ = (([] : List Int)) := ⟨_, rfl⟩
  replace H : (waypointref01_Make.l0 k l0 y395 0) = some r := by first | (rw [hy395]; with_reducible exact H) | (have H2_ := (Option.bind_some _ _).symm.trans H; rw [hy395]; with_reducible exact H2_) | (have H2_ := (Option.bind_some _ _).symm.trans H; with_reducible exact H2_) | with_reducible exact H | (rw [hy395]; exact H) | exact H
  have Ny395 := Aside0.mk hy395
  clear hy395
  have H' := Aside0.mk H
  clear H
  go_enter Tryd.func26, Tryd.ntmps26
  go_wp2_with (first | ((with_reducible refine gate_dst (N := 5) rfl ?_); refine Kd.R_lit (Kd.int .i64) _ 3 ?hg (N := 5) ?hd (xs := ([] : List Int)) (inner := []) (ok := fun _ => True) (okp := fun _ => True) ?hr ?hp (fun _ hk => hk) trivial (Below.refl _ _) (Nat.le_refl _) (by simp) ?_; (case hd => rfl); (case hg => rfl); (case hr => first | (go_simp; done) | (go_simp; rfl)); (case hp => exact (Reps.none _ _)); intro v396 w2 ho3 hb hg_ hnew_; clear hg_ hnew_; (first | rw [← Ny395.out] at ho3 | (simp only [Int.reduceToNat] at ho3; rw [← Ny395.out] at ho3)); have n0_ := Aside0.mk (Kd.R_lower ho3 (below_size (by repeat (first | (with_reducible first | exact HB.out | apply below_alloc | apply pw_below_drewN | apply below_drew1) | exact HB.out)))); have n1_ := Aside0.mk (below_step (by repeat (first | (with_reducible first | exact HB.out | apply below_alloc | apply pw_below_drewN | apply below_drew1) | exact HB.out)) hb); clear HB; have HO397 := n0_; have HB := n1_; clear n0_ n1_; clear hb ho3))
  (try simp only [Act.put, List.setIfInBounds_toArray, List.set_cons_zero, List.set_cons_succ])
  go_loopg [3, 4] k (fun kq v3 v4 w' => ∃ (x3_1 : List Int) (x4_1 : Int), v4 = .int .i64 x4_1 ∧ Aside0 (waypointref01_Make.l0 kq l0 x3_1 x4_1 = some r) ∧ Aside0 (kq ≤ k) ∧ Aside0 (Kd.R (Kd.int .i64) 3 w' w.heap.size (fun _ => True) v3 x3_1) ∧ Aside0 (Below w.heap.size w w'))
  case atStart => exact ⟨(y395), (0), (by first | rfl | (simp; done) | (simp [*]; done)), H', ⟨Nat.le_refl _⟩, ⟨by (with_reducible repeat (first | apply Kd.R_alloc | apply Kd.R_drewN | apply Kd.R_drew)); exact HO397.out⟩, ⟨by repeat (first | (with_reducible first | exact HB.out | apply below_alloc | apply pw_below_drewN | apply below_drew1) | exact HB.out)⟩⟩
  case round =>
    clear H'
    try clear c2
    try clear p2
    obtain ⟨x3_1, x4_1, rfl, HA, HK1, HO_3, HB⟩ := hrel
    cases gk with
    | zero => exact absurd HA.out (by simp [waypointref01_Make.l0])
    | succ k1 =>
      have H := HA.out
      clear HA
      simp only [waypointref01_Make.l0] at H
      by_cases c4 : x4_1 < (l0.length : Int)
      · rw [if_pos c4] at H
        have c4b0 : decide (x4_1 < (l0.length : Int)) = true := decide_eq_true c4
        clear c4
        replace H := Option.bind_eq_some_iff.mp H
        obtain ⟨t398, A50, H⟩ := H
        replace H : (if 0 ≤ (wrap64 ((wrap64 ((l0.length : Int) - 1)) - x4_1)) then (if (wrap64 ((wrap64 ((l0.length : Int) - 1)) - x4_1)) < (l0.length : Int) then ((waypointref01_Of.f k1 (IntKind.u64.wrap (rd l0 (wrap64 ((wrap64 ((l0.length : Int) - 1)) - x4_1))))).bind fun t402 => ((waypointref01_Add.f k1 t398 t402).bind fun t405 => (waypointref01_Make.l0 k1 l0 t405 (wrap64 (x4_1 + 1))))) else (none)) else (none)) = some r := H
        have A5 := Aside0.mk A50
        clear A50
        obtain ⟨ji6, hji6⟩ : ∃ j_ : Int, (wrap64 ((wrap64 ((l0.length : Int) - 1)) - x4_1)) = j_ := ⟨_, rfl⟩
        replace H : (if 0 ≤ (ji6) then (if (ji6) < (l0.length : Int) then ((waypointref01_Of.f k1 (IntKind.u64.wrap (rd l0 (ji6)))).bind fun t402 => ((waypointref01_Add.f k1 t398 t402).bind fun t405 => (waypointref01_Make.l0 k1 l0 t405 (wrap64 (x4_1 + 1))))) else (none)) else (none)) = some r := by first | (rw [hji6] at H; exact H) | (simp only [hji6] at H ⊢; exact H)
        (try rw [hji6] at A5)
        have hji6w : (IntKind.i64.wrap ((wrap64 ((l0.length : Int) - 1)) - x4_1)) = ji6 := (i64_w _).trans hji6
        by_cases c7 : 0 ≤ (ji6)
        · rw [if_pos c7] at H
          have c7b0 : decide (0 ≤ (ji6)) = true := decide_eq_true c7
          clear c7
          by_cases c8 : (ji6) < (l0.length : Int)
          · rw [if_pos c8] at H
            have c8b0 : decide ((ji6) < (l0.length : Int)) = true := decide_eq_true c8
            clear c8
            replace H := Option.bind_eq_some_iff.mp H
            obtain ⟨t402, A90, H⟩ := H
            replace H : ((waypointref01_Add.f k1 t398 t402).bind fun t405 => (waypointref01_Make.l0 k1 l0 t405 (wrap64 (x4_1 + 1)))) = some r := H
            have A9 := Aside0.mk A90
            clear A90
            replace H := Option.bind_eq_some_iff.mp H
            obtain ⟨t405, A100, H⟩ := H
            replace H : (waypointref01_Make.l0 k1 l0 t405 (wrap64 (x4_1 + 1))) = some r := H
            have A10 := Aside0.mk A100
            clear A100
            have H' := Aside0.mk H
            clear H
            try go_wp2
            have n0_ := Aside0.mk (Kd.R_drew HO_3.out)
            have n1_ := Aside0.mk (below_drew1 HB.out)
            clear HO_3
            clear HB
            have HO_3 := n0_
            have HB := n1_
            clear n0_ n1_
            have p401 : 0 ≤ ((ji6) : Int) := of_decide_eq_true (by first | (with_reducible assumption) | assumption)
            have q401 : (ji6) < (l0.length : Int) := of_decide_eq_true (by first | (with_reducible assumption) | assumption)
            obtain ⟨ad401, e401, hx401_0⟩ := Kd.at_int HR0.out (ji6) p401 q401
            have hw401_0 := hx401_0
            cases e401
            replace hx401_0 := (HB.out.cell (World.block_lt_of_cell? w _ hx401_0)).trans hx401_0
            replace p401 := eq_true p401
            replace q401 := eq_true q401
            obtain ⟨Ao12, co12, eo12⟩ := Kd.R_slice HO_3.out
            (first | subst eo12 | (injection eo12 with f1_ f2_ f3_; have f4_ := f1_.symm; have f5_ := f3_.symm; clear f1_ f2_ f3_; subst f4_; subst f5_))
            refine start_ (n := 14) (S := fun w' => w'.cell? (ad401.add ((ji6)).toNat) = some (.int .u32 (rd l0 (ji6)))) (ds := []) #[false, false, false, false, false, false, false, false, false, false, false, false, false, false] (by kernel_rfl) rfl rfl (((HB.out.cell (World.block_lt_of_cell? w _ hw401_0)).trans hw401_0)) (fun hHeld => ?_); refine with_tabW waypointref01_Make.tab5 waypointref01_Make.bits5 (fun HT_ HW_ => ?_)
            generalize wr.drew = w11 at HO_3 HB hx401_0 hHeld ⊢
            refine pure_ (i := 0) (N := some 12) (v := ?_) (a' := ?_) #[true, false, false, false, false, false, false, false, false, false, false, false, false, false] rfl rfl (any_of HT_.out (by kernel_rfl)) (fun _ _ _ h => h) (Or.inl ⟨by rfl, ?_⟩) ?_ ?_
            rotate_left
            · intro w'
              go_simp
              with_reducible rfl
            rotate_left
            · simp only [Act.put, List.setIfInBounds_toArray, List.set_cons_zero, List.set_cons_succ, i64_w, i32_w]
              rfl
            refine pure_ (i := 2) (N := some 14) (v := ?_) (a' := ?_) #[true, false, true, false, false, false, false, false, false, false, false, false, false, false] rfl rfl (any_of HT_.out (by kernel_rfl)) (fun _ _ _ h => h) (Or.inl ⟨by rfl, ?_⟩) ?_ ?_
            rotate_left
            · intro w'
              go_simp
              with_reducible rfl
            rotate_left
            · simp only [Act.put, List.setIfInBounds_toArray, List.set_cons_zero, List.set_cons_succ, i64_w, i32_w]
              rfl
            refine pure_ (i := 3) (N := some 15) (v := ?_) (a' := ?_) #[true, false, true, true, false, false, false, false, false, false, false, false, false, false] rfl rfl (any_of HT_.out (by kernel_rfl)) (fun _ _ _ h => h) (Or.inl ⟨by rfl, ?_⟩) ?_ ?_
            rotate_left
            · intro w'
              go_simp
              with_reducible rfl
            rotate_left
            · simp only [Act.put, List.setIfInBounds_toArray, List.set_cons_zero, List.set_cons_succ, i64_w, i32_w]
              rfl
            refine pure_ (i := 4) (N := some 16) (v := ?_) (a' := ?_) #[true, false, true, true, true, false, false, false, false, false, false, false, false, false] rfl rfl (any_of HT_.out (by kernel_rfl)) (fun _ _ _ h => h) (Or.inl ⟨by rfl, ?_⟩) ?_ ?_
            rotate_left
            · intro w'
              go_simp
              with_reducible rfl
            rotate_left
            · simp only [Act.put, List.setIfInBounds_toArray, List.set_cons_zero, List.set_cons_succ, i64_w, i32_w]
              rfl
            refine pure_ (i := 5) (N := some 17) (v := ?_) (a' := ?_) #[true, false, true, true, true, true, false, false, false, false, false, false, false, false] rfl rfl (any_of HT_.out (by kernel_rfl)) (fun _ _ _ h => h) (Or.inl ⟨by rfl, ?_⟩) ?_ ?_
            rotate_left
            · intro w'
              go_simp
              with_reducible rfl
            rotate_left
            · simp only [Act.put, List.setIfInBounds_toArray, List.set_cons_zero, List.set_cons_succ, i64_w, i32_w]
              rfl
            refine pure_ (i := 6) (N := some 18) (v := ?_) (a' := ?_) #[true, false, true, true, true, true, true, false, false, false, false, false, false, false] rfl rfl (any_of HT_.out (by kernel_rfl)) (fun _ _ _ h => h) (Or.inl ⟨by rfl, ?_⟩) ?_ ?_
            rotate_left
            · intro w'
              go_simp
              with_reducible rfl
            rotate_left
            · simp only [Act.put, List.setIfInBounds_toArray, List.set_cons_zero, List.set_cons_succ, i64_w, i32_w]
              rfl
            refine pure_ (i := 7) (N := some 19) (v := ?_) (a' := ?_) #[true, false, true, true, true, true, true, true, false, false, false, false, false, false] rfl rfl (any_of HT_.out (by kernel_rfl)) (fun _ _ _ h => h) (Or.inl ⟨by rfl, ?_⟩) ?_ ?_
            rotate_left
            · intro w'
              go_simp
              with_reducible rfl
            rotate_left
            · simp only [Act.put, List.setIfInBounds_toArray, List.set_cons_zero, List.set_cons_succ, i64_w, i32_w]
              rfl
            refine pure_ (i := 8) (N := some 20) (v := ?_) (a' := ?_) #[true, false, true, true, true, true, true, true, true, false, false, false, false, false] rfl rfl (any_of HT_.out (by kernel_rfl)) (fun _ _ _ h => h) (Or.inl ⟨by rfl, ?_⟩) ?_ ?_
            rotate_left
            · intro w'
              go_simp
              with_reducible rfl
            rotate_left
            · simp only [Act.put, List.setIfInBounds_toArray, List.set_cons_zero, List.set_cons_succ, i64_w, i32_w]
              rfl
            refine take_ (i := 9) (N := some 21) (v := ?_) (a' := ?_) #[true, false, true, true, true, true, true, true, true, true, false, false, false, false] rfl rfl (take_ofW HT_.out HW_.out (by kernel_rfl)) (fun _ _ _ h => h) (Or.inl ⟨by rfl, ?_⟩) hHeld ?_ ?_
            rotate_left
            · intro w' s0
              go_simp
              with_reducible rfl
            rotate_left
            · simp only [Act.put, List.setIfInBounds_toArray, List.set_cons_zero, List.set_cons_succ, i64_w, i32_w]
              rfl
            refine pure_ (i := 10) (N := some 22) (v := ?_) (a' := ?_) #[true, false, true, true, true, true, true, true, true, true, true, false, false, false] rfl rfl (any_of HT_.out (by kernel_rfl)) (fun _ _ _ h => h) (Or.inl ⟨by rfl, ?_⟩) ?_ ?_
            rotate_left
            · intro w'
              go_simp
              with_reducible rfl
            rotate_left
            · simp only [Act.put, List.setIfInBounds_toArray, List.set_cons_zero, List.set_cons_succ, i64_w, i32_w]
              rfl
            refine one_ (i := 1) (N := some 13) #[true, true, true, true, true, true, true, true, true, true, true, false, false, false] rfl rfl (one_of HT_.out (by kernel_rfl)) (by decide) (fun K hK => ?_)
            refine goes_ Tryd.func47 (by kernel_rfl) rfl #[.slice Ao12 x3_1.length co12, .int .i64 4294967296] (by rfl) rfl rfl (by (try simp only [List.map_toArray, List.map_cons, List.map_nil]); first | done | rfl | (simp only [List.length_drop, List.length_take]; rfl)) ?_
            with_reducible refine (waypointref01_times.calls k1 _ _ x3_1 4294967296 t398 _ ?side1 ?side2 A5.out).mono ?_
            (case side1 => repeat (first | exact (Kd.R_reads' HO_3.out).2.2 | (with_reducible refine Kd.C_alloc ?_ _) | (with_reducible refine Kd.C_drewN ?_ _) | (with_reducible refine Kd.C_drew ?_)))
            (case side2 => exact (Kd.R_reads' HO_3.out).2.1)
            rintro e w13 ⟨v399, rfl, ho0, hb⟩
            refine ⟨_, rfl, ?_⟩
            have n0_ := Aside0.mk (Kd.R_elder' (by (with_reducible repeat (first | apply Kd.R_alloc | apply Kd.R_drewN | apply Kd.R_drew)); exact HO_3.out) (Kd.R_base ho0) hb)
            have n1_ := Aside0.mk (Kd.R_lower (Kd.R_new' ho0 (Kd.R_lt (by (with_reducible repeat (first | apply Kd.R_alloc | apply Kd.R_drewN | apply Kd.R_drew)); exact HO_3.out))) (below_size (by repeat (first | (with_reducible first | exact HB.out | apply below_alloc | apply pw_below_drewN | apply below_drew1) | exact HB.out))))
            have n2_ := Aside0.mk (below_step (by repeat (first | (with_reducible first | exact HB.out | apply below_alloc | apply pw_below_drewN | apply below_drew1) | exact HB.out)) hb)
            clear HO_3
            clear HB
            have HO_3 := n0_
            have HO400 := n1_
            have HB := n2_
            clear n0_ n1_ n2_
            (try clear hb)
            (try clear hb2)
            (try clear hk)
            (try clear hi)
            (try clear ho0)
            refine hK.out _ _ (((HB.out.cell (World.block_lt_of_cell? w _ hw401_0)).trans hw401_0)) (fun hHeld => ?_)
            clear hK K
            refine norm_ (a' := ?_) ?_ ?_
            rotate_left
            · show Act.put _ (some 13) _ = _
              simp only [Act.put, List.setIfInBounds_toArray, List.set_cons_zero, List.set_cons_succ, i64_w, i32_w]
              rfl
            refine one_ (i := 11) (N := some 23) #[true, true, true, true, true, true, true, true, true, true, true, true, false, false] rfl rfl (one_of HT_.out (by kernel_rfl)) (by decide) (fun K hK => ?_)
            refine goes_ Tryd.func48 (by kernel_rfl) rfl #[.int .u64 (IntKind.u64.wrap (rd l0 (ji6)))] (by rfl) rfl rfl (by (try simp only [List.map_toArray, List.map_cons, List.map_nil]); first | done | (simp only [hji6]; rfl) | rfl | (simp only [List.length_drop, List.length_take]; rfl)) ?_
            with_reducible refine (waypointref01_Of.calls k1 (IntKind.u64.wrap (rd l0 (ji6))) t402 _ A9.out).mono ?_
            rintro e w14 ⟨v403, rfl, ho0, hb⟩
            refine ⟨_, rfl, ?_⟩
            have n0_ := Aside0.mk (Kd.R_elder' (by (with_reducible repeat (first | apply Kd.R_alloc | apply Kd.R_drewN | apply Kd.R_drew)); exact HO_3.out) (Kd.R_base ho0) hb)
            have n1_ := Aside0.mk (Kd.R_elder' (by (with_reducible repeat (first | apply Kd.R_alloc | apply Kd.R_drewN | apply Kd.R_drew)); exact HO400.out) (Kd.R_base ho0) hb)
            have n2_ := Aside0.mk (Kd.R_lower (Kd.R_new' (Kd.R_new' ho0 (Kd.R_lt (by (with_reducible repeat (first | apply Kd.R_alloc | apply Kd.R_drewN | apply Kd.R_drew)); exact HO_3.out))) (Kd.R_lt (by (with_reducible repeat (first | apply Kd.R_alloc | apply Kd.R_drewN | apply Kd.R_drew)); exact HO400.out))) (below_size (by repeat (first | (with_reducible first | exact HB.out | apply below_alloc | apply pw_below_drewN | apply below_drew1) | exact HB.out))))
            have n3_ := Aside0.mk (below_step (by repeat (first | (with_reducible first | exact HB.out | apply below_alloc | apply pw_below_drewN | apply below_drew1) | exact HB.out)) hb)
            clear HO_3
            clear HO400
            clear HB
            have HO_3 := n0_
            have HO400 := n1_
            have HO404 := n2_
            have HB := n3_
            clear n0_ n1_ n2_ n3_
            (try clear hb)
            (try clear hb2)
            (try clear hk)
            (try clear hi)
            (try clear ho0)
            obtain ⟨Ao15, co15, eo15⟩ := Kd.R_slice HO400.out
            (first | subst eo15 | (injection eo15 with f1_ f2_ f3_; have f4_ := f1_.symm; have f5_ := f3_.symm; clear f1_ f2_ f3_; subst f4_; subst f5_))
            obtain ⟨Ao16, co16, eo16⟩ := Kd.R_slice HO404.out
            (first | subst eo16 | (injection eo16 with f1_ f2_ f3_; have f4_ := f1_.symm; have f5_ := f3_.symm; clear f1_ f2_ f3_; subst f4_; subst f5_))
            refine hK.out _ _ (((HB.out.cell (World.block_lt_of_cell? w _ hw401_0)).trans hw401_0)) (fun hHeld => ?_)
            clear hK K
            refine norm_ (a' := ?_) ?_ ?_
            rotate_left
            · show Act.put _ (some 23) _ = _
              simp only [Act.put, List.setIfInBounds_toArray, List.set_cons_zero, List.set_cons_succ, i64_w, i32_w]
              rfl
            refine one_ (i := 12) (N := some 24) #[true, true, true, true, true, true, true, true, true, true, true, true, true, false] rfl rfl (one_of HT_.out (by kernel_rfl)) (by decide) (fun K hK => ?_)
            refine goes_ Tryd.func46 (by kernel_rfl) rfl #[.slice Ao15 t398.length co15, .slice Ao16 t402.length co16] (by rfl) rfl rfl (by (try simp only [List.map_toArray, List.map_cons, List.map_nil]); first | done | rfl | (simp only [List.length_drop, List.length_take]; rfl)) ?_
            with_reducible refine (waypointref01_Add.calls k1 _ _ t398 _ _ t402 t405 _ ?side1 ?side2 ?side3 ?side4 A10.out).mono ?_
            (case side1 => repeat (first | exact (Kd.R_reads' HO400.out).2.2 | (with_reducible refine Kd.C_alloc ?_ _) | (with_reducible refine Kd.C_drewN ?_ _) | (with_reducible refine Kd.C_drew ?_)))
            (case side2 => exact (Kd.R_reads' HO400.out).2.1)
            (case side3 => repeat (first | exact (Kd.R_reads' HO404.out).2.2 | (with_reducible refine Kd.C_alloc ?_ _) | (with_reducible refine Kd.C_drewN ?_ _) | (with_reducible refine Kd.C_drew ?_)))
            (case side4 => exact (Kd.R_reads' HO404.out).2.1)
            rintro e w17 ⟨v406, rfl, ho0, hb⟩
            refine ⟨_, rfl, ?_⟩
            have n0_ := Aside0.mk (Kd.R_elder' (by (with_reducible repeat (first | apply Kd.R_alloc | apply Kd.R_drewN | apply Kd.R_drew)); exact HO_3.out) (Kd.R_base ho0) hb)
            have n1_ := Aside0.mk (Kd.R_elder' (by (with_reducible repeat (first | apply Kd.R_alloc | apply Kd.R_drewN | apply Kd.R_drew)); exact HO400.out) (Kd.R_base ho0) hb)
            have n2_ := Aside0.mk (Kd.R_elder' (by (with_reducible repeat (first | apply Kd.R_alloc | apply Kd.R_drewN | apply Kd.R_drew)); exact HO404.out) (Kd.R_base ho0) hb)
            have n3_ := Aside0.mk (Kd.R_lower (Kd.R_new' (Kd.R_new' (Kd.R_new' ho0 (Kd.R_lt (by (with_reducible repeat (first | apply Kd.R_alloc | apply Kd.R_drewN | apply Kd.R_drew)); exact HO_3.out))) (Kd.R_lt (by (with_reducible repeat (first | apply Kd.R_alloc | apply Kd.R_drewN | apply Kd.R_drew)); exact HO400.out))) (Kd.R_lt (by (with_reducible repeat (first | apply Kd.R_alloc | apply Kd.R_drewN | apply Kd.R_drew)); exact HO404.out))) (below_size (by repeat (first | (with_reducible first | exact HB.out | apply below_alloc | apply pw_below_drewN | apply below_drew1) | exact HB.out))))
            have n4_ := Aside0.mk (below_step (by repeat (first | (with_reducible first | exact HB.out | apply below_alloc | apply pw_below_drewN | apply below_drew1) | exact HB.out)) hb)
            clear HO_3
            clear HO400
            clear HO404
            clear HB
            have HO_3 := n0_
            have HO400 := n1_
            have HO404 := n2_
            have HO407 := n3_
            have HB := n4_
            clear n0_ n1_ n2_ n3_ n4_
            (try clear hb)
            (try clear hb2)
            (try clear hk)
            (try clear hi)
            (try clear ho0)
            refine hK.out _ _ (((HB.out.cell (World.block_lt_of_cell? w _ hw401_0)).trans hw401_0)) (fun hHeld => ?_)
            clear hK K
            refine norm_ (a' := ?_) ?_ ?_
            rotate_left
            · show Act.put _ (some 24) _ = _
              simp only [Act.put, List.setIfInBounds_toArray, List.set_cons_zero, List.set_cons_succ, i64_w, i32_w]
              rfl
            refine pure_ (i := 13) (N := some 3) (v := ?_) (a' := ?_) #[true, true, true, true, true, true, true, true, true, true, true, true, true, true] rfl rfl (any_of HT_.out (by kernel_rfl)) (fun _ _ _ h => h) (Or.inl ⟨by rfl, ?_⟩) ?_ ?_
            rotate_left
            · intro w'
              go_simp
              with_reducible rfl
            rotate_left
            · simp only [Act.put, List.setIfInBounds_toArray, List.set_cons_zero, List.set_cons_succ, i64_w, i32_w]
              rfl
            refine done_ (done_of HT_.out (by kernel_rfl)) ?_
            try go_wp2
            go_roundg k1
            case measure => have := HK1.out; omega
            case rel => exact ⟨(t405), (wrap64 (x4_1 + 1)), (by first | rfl | (simp; done) | (simp [*]; done)), H', ⟨by have := HK1.out; omega⟩, ⟨by (with_reducible repeat (first | apply Kd.R_alloc | apply Kd.R_drewN | apply Kd.R_drew)); exact Kd.R_mono HO407.out (fun _ hk => trivial)⟩, ⟨by repeat (first | (with_reducible first | exact HB.out | apply below_alloc | apply pw_below_drewN | apply below_drew1) | exact HB.out)⟩⟩
          · rw [if_neg c8] at H
            exact absurd H (by simp)
        · rw [if_neg c7] at H
          exact absurd H (by simp)
      · rw [if_neg c4] at H
        have c4b0 : decide (x4_1 < (l0.length : Int)) = false := decide_eq_false c4
        clear c4
        obtain rfl := Option.some.inj H
        go_wp2
        go_ret
        exact ⟨_, by first | rfl | (simp [errW_none, errW_some] <;> rfl) | (simp [*, errW_none, errW_some] <;> rfl), by (with_reducible repeat (first | apply Kd.R_alloc | apply Kd.R_drewN | apply Kd.R_drew)); exact HO_3.out, by repeat (first | (with_reducible first | exact HB.out | apply below_alloc | apply pw_below_drewN | apply below_drew1) | exact HB.out)⟩
end Go.Proofs.YtmjkhbjfacfmcaaDoor.PA
end
section
namespace Go.Proofs.YtmjkhbjfacfmcaaDoor.PA
open Go.RowKit Go.Proofs.YtmjkhbjfacfmcaaDoorW.PrintWords Go.Proofs.YtmjkhbjfacfmcaaDoorW.PrintLast Go.Proofs.YtmjkhbjfacfmcaaDoorW.PrintMore
attribute [local go_sem] max2_int min2_int max_two min_two max_three min_three max_four min_four
set_option linter.unusedVariables false
set_option linter.unusedSimpArgs false
mutual
def waypointref01_Text.l0 : Nat → List Int → ByteArray → Int → Option (ByteArray)
  | 0, _, _, _ => none
  | k + 1, x0, x3, x4 => if x4 < (x0.length : Int) then (if 0 ≤ x4 then (waypointref01_Text.l1 k x0 x3 x4 (rd x0 x4) 0) else (none)) else (some x3)
def waypointref01_Text.l1 : Nat → List Int → ByteArray → Int → Int → Int → Option (ByteArray)
  | 0, _, _, _, _, _ => none
  | k + 1, x0, x3, x4, x5, x6 => if x6 < 6 then (if x4 < (wrap64 ((x0.length : Int) - 1)) then ((some (([(wrap64 (48 + (Int.tmod x5 10))) % 256] : List Int) : List Int)).bind fun y409 => (if (strOfNums y409).size + x3.size ≤ 9223372036854775807 then (waypointref01_Text.l1 k x0 ((strOfNums y409) ++ x3) x4 (wrap64 (Int.tdiv x5 10)) (wrap64 (x6 + 1))) else (none))) else (if x5 > 0 then ((some (([(wrap64 (48 + (Int.tmod x5 10))) % 256] : List Int) : List Int)).bind fun y412 => (if (strOfNums y412).size + x3.size ≤ 9223372036854775807 then (waypointref01_Text.l1 k x0 ((strOfNums y412) ++ x3) x4 (wrap64 (Int.tdiv x5 10)) (wrap64 (x6 + 1))) else (none))) else (waypointref01_Text.l0 k x0 x3 (wrap64 (x4 + 1))))) else (waypointref01_Text.l0 k x0 x3 (wrap64 (x4 + 1)))
end
def waypointref01_Text.f (k : Nat) (l0 : List Int) : Option (ByteArray) := if (l0.length : Int) = 0 then (some (⟨#[48]⟩ : ByteArray)) else (waypointref01_Text.l0 k l0 (⟨#[]⟩ : ByteArray) 0)
theorem waypointref01_Text.mono_l : ∀ k, (∀ y0 y1 y2, LeO (waypointref01_Text.l0 k y0 y1 y2) (waypointref01_Text.l0 (k + 1) y0 y1 y2)) ∧ (∀ y0 y1 y2 y3 y4, LeO (waypointref01_Text.l1 k y0 y1 y2 y3 y4) (waypointref01_Text.l1 (k + 1) y0 y1 y2 y3 y4))
  | 0 => ⟨fun _ _ _ r h => by simp [waypointref01_Text.l0] at h, fun _ _ _ _ _ r h => by simp [waypointref01_Text.l1] at h⟩
  | k + 1 => by
    obtain ⟨ih0, ih1⟩ := waypointref01_Text.mono_l k
    refine ⟨?_, ?_⟩
    · intro y0 y1 y2
      unfold waypointref01_Text.l0
      repeat' first
      | (with_reducible exact ih0 _ _ _)
      | (with_reducible exact ih1 _ _ _ _ _)
      | (with_reducible exact LeO.refl _)
      | (with_reducible exact LeO.none _)
      | (with_reducible refine LeO.ite ?_ ?_)
      | (with_reducible refine LeO.bind ?_ (fun _ => ?_))
      | exact ih0 _ _ _
      | exact ih1 _ _ _ _ _
      | exact LeO.none _
      | refine LeO.ite ?_ ?_
      | refine LeO.bind ?_ (fun _ => ?_)
    · intro y0 y1 y2 y3 y4
      unfold waypointref01_Text.l1
      repeat' first
      | (with_reducible exact ih0 _ _ _)
      | (with_reducible exact ih1 _ _ _ _ _)
      | (with_reducible exact LeO.refl _)
      | (with_reducible exact LeO.none _)
      | (with_reducible refine LeO.ite ?_ ?_)
      | (with_reducible refine LeO.bind ?_ (fun _ => ?_))
      | exact ih0 _ _ _
      | exact ih1 _ _ _ _ _
      | exact LeO.none _
      | refine LeO.ite ?_ ?_
      | refine LeO.bind ?_ (fun _ => ?_)
theorem waypointref01_Text.mono : ∀ a0 k, LeO (waypointref01_Text.f k a0) (waypointref01_Text.f (k + 1) a0) := by
  intro a0 k
  obtain ⟨ih0, ih1⟩ := waypointref01_Text.mono_l k
  unfold waypointref01_Text.f
  repeat' first
      | (with_reducible exact ih0 _ _ _)
      | (with_reducible exact ih1 _ _ _ _ _)
      | (with_reducible exact LeO.refl _)
      | (with_reducible exact LeO.none _)
      | (with_reducible refine LeO.ite ?_ ?_)
      | (with_reducible refine LeO.bind ?_ (fun _ => ?_))
      | exact ih0 _ _ _
      | exact ih1 _ _ _ _ _
      | exact LeO.none _
      | refine LeO.ite ?_ ?_
      | refine LeO.bind ?_ (fun _ => ?_)
set_option maxHeartbeats 8000000 in
set_option maxRecDepth 100000 in
theorem waypointref01_Text.calls (k : Nat) (A0 : Option Addr) (c0 : Nat) (l0 : List Int) (r : ByteArray) (w : World) (hr0 : Kd.C (Kd.int .i64) w A0 l0.length l0) (hc0 : l0.length ≤ c0) (h : waypointref01_Text.f k l0 = some r) :
    Calls Tryd.prog 27 #[.slice A0 l0.length c0] w fun e w' => e = .returned (.string r) ∧ Below w.heap.size w w' := by
  have HR0 := Aside0.mk hr0
  have HC0 := Aside0.mk hc0
  clear hr0 hc0
  have HB := Aside0.mk (Below.refl w.heap.size w)
  have H : (if (l0.length : Int) = 0 then (some (⟨#[48]⟩ : ByteArray)) else (waypointref01_Text.l0 k l0 (⟨#[]⟩ : ByteArray) 0)) = some r := h
  clear h
  by_cases c2 : (l0.length : Int) = 0
  · rw [if_pos c2] at H
    have c2b0 : ((l0.length : Int) == 0) = true := beq_iff_eq.mpr c2
    have c2b1 : ((l0.length : Int) != 0) = false := bne_eq_false_iff_eq.mpr c2
    clear c2
    obtain rfl := Option.some.inj H
    go_enter Tryd.func27, Tryd.ntmps27
    go_wp2
    go_ret
    exact ⟨by first | rfl | (simp [errW_none, errW_some] <;> rfl) | (simp [*, errW_none, errW_some] <;> rfl), by repeat (first | (with_reducible first | exact HB.out | apply below_alloc | apply pw_below_drewN | apply below_drew1) | exact HB.out)⟩
  · rw [if_neg c2] at H
    have c2b0 : ((l0.length : Int) == 0) = false := beq_eq_false_iff_ne.mpr c2
    have c2b1 : ((l0.length : Int) != 0) = true := bne_iff_ne.mpr c2
    have c2b2 : ¬ (l0 = []) := fun h_ => c2 (by rw [h_]; rfl)
    have H' := Aside0.mk H
    clear H
    go_enter Tryd.func27, Tryd.ntmps27
    go_wp2
    (try simp only [Act.put, List.setIfInBounds_toArray, List.set_cons_zero, List.set_cons_succ])
    go_loopg [3, 4] k (fun kq v3 v4 w' => ∃ (x3_1 : ByteArray) (x4_1 : Int), v3 = .string x3_1 ∧ v4 = .int .i64 x4_1 ∧ Aside0 (waypointref01_Text.l0 kq l0 x3_1 x4_1 = some r) ∧ Aside0 (kq ≤ k) ∧ Aside0 (Below w.heap.size w w'))
    case atStart => exact ⟨((⟨#[]⟩ : ByteArray)), (0), (by first | rfl | (simp; done) | (simp [*]; done)), (by first | rfl | (simp; done) | (simp [*]; done)), H', ⟨Nat.le_refl _⟩, ⟨by repeat (first | (with_reducible first | exact HB.out | apply below_alloc | apply pw_below_drewN | apply below_drew1) | exact HB.out)⟩⟩
    case round =>
      clear H'
      try clear c2
      try clear c2b0
      try clear c2b1
      try clear c2b2
      try clear p2
      obtain ⟨x3_1, x4_1, rfl, rfl, HA, HK1, HB⟩ := hrel
      cases gk with
      | zero => exact absurd HA.out (by simp [waypointref01_Text.l0])
      | succ k1 =>
        have H := HA.out
        clear HA
        simp only [waypointref01_Text.l0] at H
        by_cases c3 : x4_1 < (l0.length : Int)
        · rw [if_pos c3] at H
          have c3b0 : decide (x4_1 < (l0.length : Int)) = true := decide_eq_true c3
          clear c3
          by_cases c4 : 0 ≤ x4_1
          · rw [if_pos c4] at H
            have c4b0 : decide (0 ≤ x4_1) = true := decide_eq_true c4
            clear c4
            have H' := Aside0.mk H
            clear H
            have p408 : 0 ≤ (x4_1 : Int) := of_decide_eq_true (by first | (with_reducible assumption) | assumption)
            have q408 : x4_1 < (l0.length : Int) := of_decide_eq_true (by first | (with_reducible assumption) | assumption)
            obtain ⟨ad408, e408, hx408_0⟩ := Kd.at_int HR0.out x4_1 p408 q408
            cases e408
            replace hx408_0 := (HB.out.cell (World.block_lt_of_cell? w _ hx408_0)).trans hx408_0
            replace p408 := eq_true p408
            replace q408 := eq_true q408
            go_wp2
            (try simp only [Act.put, List.setIfInBounds_toArray, List.set_cons_zero, List.set_cons_succ])
            go_loopg [3, 5, 6] k1 (fun kq v3 v5 v6 w' => ∃ (x3_2 : ByteArray) (x5_2 : Int) (x6_2 : Int), v3 = .string x3_2 ∧ v5 = .int .i64 x5_2 ∧ v6 = .int .i64 x6_2 ∧ Aside0 (waypointref01_Text.l1 kq l0 x3_2 x4_1 x5_2 x6_2 = some r) ∧ Aside0 (kq ≤ k1) ∧ Aside0 (Below w.heap.size w w'))
            case atStart => exact ⟨(x3_1), (rd l0 x4_1), (0), (by first | rfl | (simp; done) | (simp [*]; done)), (by first | rfl | (simp; done) | (simp [*]; done)), (by first | rfl | (simp; done) | (simp [*]; done)), H', ⟨Nat.le_refl _⟩, ⟨by repeat (first | (with_reducible first | exact HB.out | apply below_alloc | apply pw_below_drewN | apply below_drew1) | exact HB.out)⟩⟩
            case round =>
              clear H'
              try clear c2
              try clear c2b0
              try clear c2b1
              try clear c2b2
              try clear p2
              try clear c3
              try clear c3b0
              try clear c4
              try clear c4b0
              try clear p4
              try clear q4
              try clear hx4
              try clear hx408_0
              try clear p2
              try clear p408
              try clear q408
              obtain ⟨x3_2, x5_2, x6_2, rfl, rfl, rfl, HA, HK2, HB⟩ := hrel
              cases gk with
              | zero => exact absurd HA.out (by simp [waypointref01_Text.l1])
              | succ k2 =>
                have H := HA.out
                clear HA
                simp only [waypointref01_Text.l1] at H
                by_cases c5 : x6_2 < 6
                · rw [if_pos c5] at H
                  have c5b0 : decide (x6_2 < 6) = true := decide_eq_true c5
                  clear c5
                  by_cases c6 : x4_1 < (wrap64 ((l0.length : Int) - 1))
                  · rw [if_pos c6] at H
                    have c6b0 : decide (x4_1 < (wrap64 ((l0.length : Int) - 1))) = true := decide_eq_true c6
                    clear c6
                    obtain ⟨y409, hy409⟩ : ∃ y_ : List Int, y_ = (([(wrap64 (48 + (Int.tmod x5_2 10))) % 256] : List Int)) := ⟨_, rfl⟩
                    replace H : (if (strOfNums y409).size + x3_2.size ≤ 9223372036854775807 then (waypointref01_Text.l1 k2 l0 ((strOfNums y409) ++ x3_2) x4_1 (wrap64 (Int.tdiv x5_2 10)) (wrap64 (x6_2 + 1))) else (none)) = some r := by first | (rw [hy409]; with_reducible exact H) | (have H2_ := (Option.bind_some _ _).symm.trans H; rw [hy409]; with_reducible exact H2_) | (have H2_ := (Option.bind_some _ _).symm.trans H; with_reducible exact H2_) | with_reducible exact H | (rw [hy409]; exact H) | exact H
                    have Ny409 := Aside0.mk hy409
                    clear hy409
                    by_cases c7 : (strOfNums y409).size + x3_2.size ≤ 9223372036854775807
                    · rw [if_pos c7] at H
                      have c7b0 := eq_true c7
                      have c7b1 : decide ((strOfNums y409).size + x3_2.size ≤ 9223372036854775807) = true := decide_eq_true c7
                      try have c7b2 : (9223372036854775807 < (strOfNums y409).size + x3_2.size) = False := eq_false (Nat.not_lt.2 c7)
                      have H' := Aside0.mk H
                      clear H
                      go_wp2_with (first | ((with_reducible refine gate_dst (N := 39) rfl ?_); (try (refine gate_guard (by rfl) ?_; dsimp only)); refine Kd.R_lit (Kd.int .u8) _ 5 ?hg (N := 39) ?hd (xs := ([(wrap64 (48 + (Int.tmod x5_2 10))) % 256] : List Int)) (inner := [.int .u8 ((wrap64 (48 + (Int.tmod x5_2 10))) % 256)]) (ok := fun _ => True) (okp := fun _ => True) ?hr ?hp (fun _ hk => hk) trivial (Below.refl _ _) (Nat.le_refl _) (by simp) ?_; (case hd => rfl); (case hg => rfl); (case hr => first | (go_simp; done) | (go_simp; rfl)); (case hp => exact (Reps.one (show Kd.M (Kd.int .u8) _ _ _ ((wrap64 (48 + (Int.tmod x5_2 10))) % 256) [.int .u8 ((wrap64 (48 + (Int.tmod x5_2 10))) % 256)] from rfl) (Reps.none _ _))); intro v410 w8 ho9 hb hg_ hnew_; clear hg_ hnew_; (first | rw [← Ny409.out] at ho9 | (simp only [Int.reduceToNat] at ho9; rw [← Ny409.out] at ho9)); have n0_ := Aside0.mk (Kd.R_lower ho9 (below_size (by repeat (first | (with_reducible first | exact HB.out | apply below_alloc | apply pw_below_drewN | apply below_drew1) | exact HB.out)))); have n1_ := Aside0.mk (below_step (by repeat (first | (with_reducible first | exact HB.out | apply below_alloc | apply pw_below_drewN | apply below_drew1) | exact HB.out)) hb); clear HB; have HO411 := n0_; have HB := n1_; clear n0_ n1_; clear hb ho9; have hcv10 := own_string (P := Tryd.prog) Tryd.underlying42 Tryd.underlying5 Tryd.underlying9 (Kd.own_of_R HO411.out)))
                      go_roundg k2
                      case measure => have := HK1.out; have := HK2.out; omega
                      case rel => exact ⟨((strOfNums y409) ++ x3_2), (wrap64 (Int.tdiv x5_2 10)), (wrap64 (x6_2 + 1)), (by first | rfl | (simp; done) | (simp [*]; done)), (by first | rfl | (simp; done) | (simp [*]; done)), (by first | rfl | (simp; done) | (simp [*]; done)), H', ⟨by have := HK1.out; have := HK2.out; omega⟩, ⟨by repeat (first | (with_reducible first | exact HB.out | apply below_alloc | apply pw_below_drewN | apply below_drew1) | exact HB.out)⟩⟩
                    · rw [if_neg c7] at H
                      exact absurd H (by simp)
                  · rw [if_neg c6] at H
                    have c6b0 : decide (x4_1 < (wrap64 ((l0.length : Int) - 1))) = false := decide_eq_false c6
                    clear c6
                    by_cases c11 : x5_2 > 0
                    · rw [if_pos c11] at H
                      have c11b0 : decide (0 < x5_2) = true := decide_eq_true c11
                      clear c11
                      obtain ⟨y412, hy412⟩ : ∃ y_ : List Int, y_ = (([(wrap64 (48 + (Int.tmod x5_2 10))) % 256] : List Int)) := ⟨_, rfl⟩
                      replace H : (if (strOfNums y412).size + x3_2.size ≤ 9223372036854775807 then (waypointref01_Text.l1 k2 l0 ((strOfNums y412) ++ x3_2) x4_1 (wrap64 (Int.tdiv x5_2 10)) (wrap64 (x6_2 + 1))) else (none)) = some r := by first | (rw [hy412]; with_reducible exact H) | (have H2_ := (Option.bind_some _ _).symm.trans H; rw [hy412]; with_reducible exact H2_) | (have H2_ := (Option.bind_some _ _).symm.trans H; with_reducible exact H2_) | with_reducible exact H | (rw [hy412]; exact H) | exact H
                      have Ny412 := Aside0.mk hy412
                      clear hy412
                      by_cases c12 : (strOfNums y412).size + x3_2.size ≤ 9223372036854775807
                      · rw [if_pos c12] at H
                        have c12b0 := eq_true c12
                        have c12b1 : decide ((strOfNums y412).size + x3_2.size ≤ 9223372036854775807) = true := decide_eq_true c12
                        try have c12b2 : (9223372036854775807 < (strOfNums y412).size + x3_2.size) = False := eq_false (Nat.not_lt.2 c12)
                        have H' := Aside0.mk H
                        clear H
                        go_wp2_with (first | ((with_reducible refine gate_dst (N := 39) rfl ?_); (try (refine gate_guard (by rfl) ?_; dsimp only)); refine Kd.R_lit (Kd.int .u8) _ 5 ?hg (N := 39) ?hd (xs := ([(wrap64 (48 + (Int.tmod x5_2 10))) % 256] : List Int)) (inner := [.int .u8 ((wrap64 (48 + (Int.tmod x5_2 10))) % 256)]) (ok := fun _ => True) (okp := fun _ => True) ?hr ?hp (fun _ hk => hk) trivial (Below.refl _ _) (Nat.le_refl _) (by simp) ?_; (case hd => rfl); (case hg => rfl); (case hr => first | (go_simp; done) | (go_simp; rfl)); (case hp => exact (Reps.one (show Kd.M (Kd.int .u8) _ _ _ ((wrap64 (48 + (Int.tmod x5_2 10))) % 256) [.int .u8 ((wrap64 (48 + (Int.tmod x5_2 10))) % 256)] from rfl) (Reps.none _ _))); intro v413 w13 ho14 hb hg_ hnew_; clear hg_ hnew_; (first | rw [← Ny412.out] at ho14 | (simp only [Int.reduceToNat] at ho14; rw [← Ny412.out] at ho14)); have n0_ := Aside0.mk (Kd.R_lower ho14 (below_size (by repeat (first | (with_reducible first | exact HB.out | apply below_alloc | apply pw_below_drewN | apply below_drew1) | exact HB.out)))); have n1_ := Aside0.mk (below_step (by repeat (first | (with_reducible first | exact HB.out | apply below_alloc | apply pw_below_drewN | apply below_drew1) | exact HB.out)) hb); clear HB; have HO414 := n0_; have HB := n1_; clear n0_ n1_; clear hb ho14; have hcv15 := own_string (P := Tryd.prog) Tryd.underlying42 Tryd.underlying5 Tryd.underlying9 (Kd.own_of_R HO414.out)))
                        go_roundg k2
                        case measure => have := HK1.out; have := HK2.out; omega
                        case rel => exact ⟨((strOfNums y412) ++ x3_2), (wrap64 (Int.tdiv x5_2 10)), (wrap64 (x6_2 + 1)), (by first | rfl | (simp; done) | (simp [*]; done)), (by first | rfl | (simp; done) | (simp [*]; done)), (by first | rfl | (simp; done) | (simp [*]; done)), H', ⟨by have := HK1.out; have := HK2.out; omega⟩, ⟨by repeat (first | (with_reducible first | exact HB.out | apply below_alloc | apply pw_below_drewN | apply below_drew1) | exact HB.out)⟩⟩
                      · rw [if_neg c12] at H
                        exact absurd H (by simp)
                    · rw [if_neg c11] at H
                      have c11b0 : decide (0 < x5_2) = false := decide_eq_false c11
                      clear c11
                      have H' := Aside0.mk H
                      clear H
                      go_wp2
                      go_roundg k2
                      case measure => have := HK1.out; have := HK2.out; omega
                      case rel => exact ⟨(x3_2), (wrap64 (x4_1 + 1)), (by first | rfl | (simp; done) | (simp [*]; done)), (by first | rfl | (simp; done) | (simp [*]; done)), H', ⟨by have := HK1.out; have := HK2.out; omega⟩, ⟨by repeat (first | (with_reducible first | exact HB.out | apply below_alloc | apply pw_below_drewN | apply below_drew1) | exact HB.out)⟩⟩
                · rw [if_neg c5] at H
                  have c5b0 : decide (x6_2 < 6) = false := decide_eq_false c5
                  clear c5
                  have H' := Aside0.mk H
                  clear H
                  go_wp2
                  go_roundg k2
                  case measure => have := HK1.out; have := HK2.out; omega
                  case rel => exact ⟨(x3_2), (wrap64 (x4_1 + 1)), (by first | rfl | (simp; done) | (simp [*]; done)), (by first | rfl | (simp; done) | (simp [*]; done)), H', ⟨by have := HK1.out; have := HK2.out; omega⟩, ⟨by repeat (first | (with_reducible first | exact HB.out | apply below_alloc | apply pw_below_drewN | apply below_drew1) | exact HB.out)⟩⟩
          · rw [if_neg c4] at H
            exact absurd H (by simp)
        · rw [if_neg c3] at H
          have c3b0 : decide (x4_1 < (l0.length : Int)) = false := decide_eq_false c3
          clear c3
          obtain rfl := Option.some.inj H
          go_wp2
          go_ret
          exact ⟨by first | rfl | (simp [errW_none, errW_some] <;> rfl) | (simp [*, errW_none, errW_some] <;> rfl), by repeat (first | (with_reducible first | exact HB.out | apply below_alloc | apply pw_below_drewN | apply below_drew1) | exact HB.out)⟩
end Go.Proofs.YtmjkhbjfacfmcaaDoor.PA
end
section
namespace Go.Proofs.YtmjkhbjfacfmcaaDoor.PA
open Go.RowKit Go.Proofs.YtmjkhbjfacfmcaaDoorW.PrintWords Go.Proofs.YtmjkhbjfacfmcaaDoorW.PrintLast Go.Proofs.YtmjkhbjfacfmcaaDoorW.PrintMore
attribute [local go_sem] max2_int min2_int max_two min_two max_three min_three max_four min_four
set_option linter.unusedVariables false
set_option linter.unusedSimpArgs false
def waypointlaw01_number.f (k : Nat) (l0 : List Int) : Option (List Int × List Int) := (waypointref01_Make.f k l0).bind fun t416 => ((waypointref01_Text.f k t416).bind fun t419 => ((nat_Parse.f k t419).bind fun bt420 => (some (bt420.1, t416))))
theorem waypointlaw01_number.mono : ∀ a0 k, LeO (waypointlaw01_number.f k a0) (waypointlaw01_number.f (k + 1) a0) := by
  intro a0 k
  unfold waypointlaw01_number.f
  repeat' first
      | (with_reducible exact nat_Parse.mono _ _)
      | (with_reducible exact waypointref01_Make.mono _ _)
      | (with_reducible exact waypointref01_Text.mono _ _)
      | (with_reducible exact LeO.refl _)
      | (with_reducible exact LeO.none _)
      | (with_reducible refine LeO.ite ?_ ?_)
      | (with_reducible refine LeO.bind ?_ (fun _ => ?_))
      | exact nat_Parse.mono _ _
      | exact waypointref01_Make.mono _ _
      | exact waypointref01_Text.mono _ _
      | exact LeO.none _
      | refine LeO.ite ?_ ?_
      | refine LeO.bind ?_ (fun _ => ?_)
set_option maxHeartbeats 8000000 in
set_option maxRecDepth 100000 in
theorem waypointlaw01_number.calls (k : Nat) (A0 : Option Addr) (c0 : Nat) (l0 : List Int) (r1 : List Int) (r2 : List Int) (w : World) (hr0 : Kd.C (Kd.int .u32) w A0 l0.length l0) (hc0 : l0.length ≤ c0) (h : waypointlaw01_number.f k l0 = some (r1, r2)) :
    Calls Tryd.prog 10 #[.slice A0 l0.length c0] w fun e w' => ∃ v0_ v1_ : Value, e = .returned (.tuple #[.agg #[v0_], v1_]) ∧ Kd.V (Kd.int .u32) 62 w' w.heap.size (fun k_ => (w.heap.size ≤ k_) ∧ some k_ ≠ (v1_ : Value).ownBlock) v0_ r1 ∧ Kd.R (Kd.int .i64) 3 w' w.heap.size (fun k_ => (w.heap.size ≤ k_)) v1_ r2 ∧ Below w.heap.size w w' := by
  have hu26 := Tryd.underlying26
  have HR0 := Aside0.mk hr0
  have HC0 := Aside0.mk hc0
  clear hr0 hc0
  have HB := Aside0.mk (Below.refl w.heap.size w)
  have H : ((waypointref01_Make.f k l0).bind fun t416 => ((waypointref01_Text.f k t416).bind fun t419 => ((nat_Parse.f k t419).bind fun bt420 => (some (bt420.1, t416))))) = some (r1, r2) := h
  clear h
  replace H := Option.bind_eq_some_iff.mp H
  obtain ⟨t416, A20, H⟩ := H
  replace H : ((waypointref01_Text.f k t416).bind fun t419 => ((nat_Parse.f k t419).bind fun bt420 => (some (bt420.1, t416)))) = some (r1, r2) := H
  have A2 := Aside0.mk A20
  clear A20
  replace H := Option.bind_eq_some_iff.mp H
  obtain ⟨t419, A30, H⟩ := H
  replace H : ((nat_Parse.f k t419).bind fun bt420 => (some (bt420.1, t416))) = some (r1, r2) := H
  have A3 := Aside0.mk A30
  clear A30
  replace H := Option.bind_eq_some_iff.mp H
  obtain ⟨⟨t420, t423⟩, A40, H⟩ := H
  replace H : (some (t420, t416)) = some (r1, r2) := H
  have A4 := Aside0.mk A40
  clear A40
  simp only [Option.some.injEq, Prod.mk.injEq] at H
  obtain ⟨rfl, rfl⟩ := H
  go_enter Tryd.func10, Tryd.ntmps10
  go_wp2_with (first | ((with_reducible refine gate_dst (N := 2) rfl ?_); refine box_event ?hg (N := 2) ?hd (cs := #[.slice none 0 0]) (t := 26) ?hr ?_; (case hd => rfl); (case hg => rfl); (case hr => first | (go_simp; done) | (go_simp; rfl)); intro gb415 hg w5 hbox hb; have n0_ := Aside0.mk (below_step (by repeat (first | (with_reducible first | exact HB.out | apply below_alloc | apply pw_below_drewN | apply below_drew1) | exact HB.out)) hb); have n1_ := Aside0.mk (hbox); have n2_ := Aside0.mk ((by rw [hg]; exact (below_size (by repeat (first | (with_reducible first | exact HB.out | apply below_alloc | apply pw_below_drewN | apply below_drew1) | exact HB.out))) : w.heap.size ≤ gb415)); have n3_ := Aside0.mk ((by rw [hg]; exact (below_size (by repeat (first | (with_reducible first | exact HB.out | apply below_alloc | apply pw_below_drewN | apply below_drew1) | exact HB.out))) : w.heap.size ≤ gb415)); clear HB; have HB := n0_; have BK415 := n1_; have GW415 := n2_; have GE415 := n3_; clear n0_ n1_ n2_ n3_; clear hb hbox hg) | ((with_reducible refine gate_callee (f := 26) rfl ?_); refine goesL_ (some 8) rfl rfl Tryd.func26 (by kernel_rfl) rfl #[.slice A0 l0.length c0] rfl (by (try simp only [List.map_toArray, List.map_cons, List.map_nil]); first | done | rfl | (simp only [List.length_drop, List.length_take]; rfl)) ?_; (with_reducible refine (waypointref01_Make.calls k _ _ l0 t416 _ ?side1 ?side2 A2.out).mono ?_); (case side1 => repeat (first | exact (Kd.C_below HR0.out HB.out) | (with_reducible refine Kd.C_alloc ?_ _) | (with_reducible refine Kd.C_drewN ?_ _) | (with_reducible refine Kd.C_drew ?_))); (case side2 => exact HC0.out); rintro e w6 ⟨v417, rfl, ho0, hb⟩; refine ⟨_, rfl, ?_⟩; have n0_ := Aside0.mk (Kd.R_lower (Kd.R_newM (M := fun k_ => (w.heap.size ≤ k_)) ho0 (below_size (by repeat (first | (with_reducible first | exact HB.out | apply below_alloc | apply pw_below_drewN | apply below_drew1 | refine below_set ?_ GE415.out) | exact HB.out))) (fun k_ h_ => h_)) (below_size (by repeat (first | (with_reducible first | exact HB.out | apply below_alloc | apply pw_below_drewN | apply below_drew1 | refine below_set ?_ GE415.out) | exact HB.out)))); have n1_ := Aside0.mk (blk_below (g := gb415) (o := .cells #[.slice none 0 0] 26 (0, 0)) (by (with_reducible repeat (first | refine blk_drewN ?_ _ | refine blk_drew ?_ | refine blk_alloc ?_ _)); exact BK415.out) hb); have n2_ := Aside0.mk (below_step (by repeat (first | (with_reducible first | exact HB.out | apply below_alloc | apply pw_below_drewN | apply below_drew1 | refine below_set ?_ GE415.out) | exact HB.out)) hb); clear BK415; clear HB; have HO418 := n0_; have BK415 := n1_; have HB := n2_; clear n0_ n1_ n2_; (try clear hb); (try clear hb2); (try clear hk); (try clear hi); (try clear ho0); obtain ⟨Ao7, co7, eo7⟩ := Kd.R_slice HO418.out; subst eo7) | ((with_reducible refine gate_callee (f := 27) rfl ?_); refine goesL_ (some 11) rfl rfl Tryd.func27 (by kernel_rfl) rfl #[.slice Ao7 t416.length co7] rfl (by (try simp only [List.map_toArray, List.map_cons, List.map_nil]); first | done | rfl | (simp only [List.length_drop, List.length_take]; rfl)) ?_; (with_reducible refine (waypointref01_Text.calls k _ _ t416 t419 _ ?side1 ?side2 A3.out).mono ?_); (case side1 => repeat (first | exact (Kd.R_reads' HO418.out).2.2 | (with_reducible refine Kd.C_alloc ?_ _) | (with_reducible refine Kd.C_drewN ?_ _) | (with_reducible refine Kd.C_drew ?_))); (case side2 => exact (Kd.R_reads' HO418.out).2.1); rintro e w8 ⟨rfl, hb⟩; refine ⟨_, rfl, ?_⟩; have n0_ := Aside0.mk (Kd.R_below (by (with_reducible repeat (first | apply Kd.R_alloc | apply Kd.R_drewN | apply Kd.R_drew)); exact HO418.out) hb); have n1_ := Aside0.mk (blk_below (g := gb415) (o := .cells #[.slice none 0 0] 26 (0, 0)) (by (with_reducible repeat (first | refine blk_drewN ?_ _ | refine blk_drew ?_ | refine blk_alloc ?_ _)); exact BK415.out) hb); have n2_ := Aside0.mk (below_step (by repeat (first | (with_reducible first | exact HB.out | apply below_alloc | apply pw_below_drewN | apply below_drew1 | refine below_set ?_ GE415.out) | exact HB.out)) hb); clear HO418; clear BK415; clear HB; have HO418 := n0_; have BK415 := n1_; have HB := n2_; clear n0_ n1_ n2_; (try clear hb); (try clear hb2); (try clear hk); (try clear hi)) | ((with_reducible refine gate_callee (f := 11) rfl ?_); refine goesL_ (some 12) rfl rfl Tryd.func11 (by kernel_rfl) rfl #[.string t419] rfl (by (try simp only [List.map_toArray, List.map_cons, List.map_nil]); first | done | rfl | (simp only [List.length_drop, List.length_take]; rfl)) ?_; (with_reducible refine (nat_Parse.calls k t419 t420 t423 _ A4.out).mono ?_); rintro e w9 ⟨v421, rfl, ho0, hb⟩; refine ⟨_, rfl, ?_⟩; have n0_ := Aside0.mk (Kd.R_below (by (with_reducible repeat (first | apply Kd.R_alloc | apply Kd.R_drewN | apply Kd.R_drew)); exact HO418.out) hb); have n1_ := Aside0.mk (Kd.V_lower (Kd.V_mono (ok' := fun k_ => (w.heap.size ≤ k_) ∧ some k_ ≠ (.slice Ao7 t416.length co7 : Value).ownBlock ∧ k_ ≠ gb415) ho0 (fun k_ hk_ => ⟨(Nat.le_trans (below_size (by repeat (first | (with_reducible first | exact HB.out | apply below_alloc | apply pw_below_drewN | apply below_drew1 | refine below_set ?_ GE415.out) | exact HB.out))) hk_), (Kd.fresh' (Kd.R_lt (by (with_reducible repeat (first | apply Kd.R_alloc | apply Kd.R_drewN | apply Kd.R_drew)); exact HO418.out)) k_ hk_), (Kd.freshB (g := gb415) (o := .cells #[.slice none 0 0] 26 (0, 0)) (by (with_reducible repeat (first | refine blk_drewN ?_ _ | refine blk_drew ?_ | refine blk_alloc ?_ _)); exact BK415.out) k_ hk_)⟩)) (below_size (by repeat (first | (with_reducible first | exact HB.out | apply below_alloc | apply pw_below_drewN | apply below_drew1 | refine below_set ?_ GE415.out) | exact HB.out)))); have n2_ := Aside0.mk (blk_below (g := gb415) (o := .cells #[.slice none 0 0] 26 (0, 0)) (by (with_reducible repeat (first | refine blk_drewN ?_ _ | refine blk_drew ?_ | refine blk_alloc ?_ _)); exact BK415.out) hb); have n3_ := Aside0.mk (below_step (by repeat (first | (with_reducible first | exact HB.out | apply below_alloc | apply pw_below_drewN | apply below_drew1 | refine below_set ?_ GE415.out) | exact HB.out)) hb); clear HO418; clear BK415; clear HB; have HO418 := n0_; have HO422 := n1_; have BK415 := n2_; have HB := n3_; clear n0_ n1_ n2_ n3_; (try clear hb); (try clear hb2); (try clear hk); (try clear hi); (try clear ho0)) | ((with_reducible refine gate_dst (N := 5) rfl ?_); refine box_event ?hg (N := 5) ?hd (cs := #[.slice none 0 0]) (t := 26) ?hr ?_; (case hd => rfl); (case hg => rfl); (case hr => first | (go_simp; done) | (go_simp; rfl)); intro gb424 hg w10 hbox hb; have n0_ := Aside0.mk (Kd.R_below (by (with_reducible repeat (first | apply Kd.R_alloc | apply Kd.R_drewN | apply Kd.R_drew)); exact HO418.out) hb); have n1_ := Aside0.mk (Kd.V_below (Kd.V_elderB (by (with_reducible repeat (first | apply Kd.V_alloc | apply Kd.V_drewN | apply Kd.V_drew)); exact HO422.out) gb424 (Nat.le_of_eq hg.symm)) hb); have n2_ := Aside0.mk (blk_below (g := gb415) (o := .cells #[.slice none 0 0] 26 (0, 0)) (by (with_reducible repeat (first | refine blk_drewN ?_ _ | refine blk_drew ?_ | refine blk_alloc ?_ _)); exact BK415.out) hb); have n3_ := Aside0.mk (below_step (by repeat (first | (with_reducible first | exact HB.out | apply below_alloc | apply pw_below_drewN | apply below_drew1 | refine below_set ?_ GE415.out) | exact HB.out)) hb); have n4_ := Aside0.mk (hbox); have n5_ := Aside0.mk ((by rw [hg]; exact (below_size (by repeat (first | (with_reducible first | exact HB.out | apply below_alloc | apply pw_below_drewN | apply below_drew1 | refine below_set ?_ GE415.out) | exact HB.out))) : w.heap.size ≤ gb424)); have n6_ := Aside0.mk ((by rw [hg]; exact (below_size (by repeat (first | (with_reducible first | exact HB.out | apply below_alloc | apply pw_below_drewN | apply below_drew1 | refine below_set ?_ GE415.out) | exact HB.out))) : w.heap.size ≤ gb424)); have n7_ := Aside0.mk ((by rw [hg]; exact Nat.ne_of_lt (blk_lt (g := gb415) (o := .cells #[.slice none 0 0] 26 (0, 0)) (by (with_reducible repeat (first | refine blk_drewN ?_ _ | refine blk_drew ?_ | refine blk_alloc ?_ _)); exact BK415.out)) : gb415 ≠ gb424)); have n8_ := Aside0.mk ((by rw [hg]; exact Nat.ne_of_gt (blk_lt (g := gb415) (o := .cells #[.slice none 0 0] 26 (0, 0)) (by (with_reducible repeat (first | refine blk_drewN ?_ _ | refine blk_drew ?_ | refine blk_alloc ?_ _)); exact BK415.out)) : gb424 ≠ gb415)); clear HO418; clear HO422; clear BK415; clear HB; have HO418 := n0_; have HO422 := n1_; have BK415 := n2_; have HB := n3_; have BK424 := n4_; have GW424 := n5_; have GE424 := n6_; have NB415_424 := n7_; have NB424_415 := n8_; clear n0_ n1_ n2_ n3_ n4_ n5_ n6_ n7_ n8_; clear hb hbox hg; obtain ⟨Ao11, co11, eo11⟩ := Kd.V_slice HO422.out; subst eo11; have hnb12 := NB424_415.out; have hnc12 := NB415_424.out; have hcz13_0 : w10.cell? ⟨gb424, 0, none⟩ = some (.slice none 0 0) := (blk_cell BK424.out 0).trans rfl; have hfz13_0 := blk_frozen BK424.out 0; have hcz14_0 : w10.cell? ⟨gb415, 0, none⟩ = some (.slice none 0 0) := (blk_cell BK415.out 0).trans rfl; have hfz14_0 := blk_frozen BK415.out 0))
  refine bodyPost_ret (results_ct rfl _ _ gb415 26 #[.slice Ao11 t420.length co11] (0, 0) _ rfl (by (with_reducible repeat (first | refine blk_drewN ?_ _ | refine blk_drew ?_ | refine blk_alloc ?_ _)); refine blk_put (cs := #[.slice none 0 0]) ?_ 0 _ rfl; (with_reducible repeat (first | refine blk_drewN ?_ _ | refine blk_drew ?_ | refine blk_alloc ?_ _)); refine blk_far ?_ NB415_424.out _; (with_reducible repeat (first | refine blk_drewN ?_ _ | refine blk_drew ?_ | refine blk_alloc ?_ _)); exact BK415.out) Tryd.underlying26 rfl (by kernel_rfl)) rfl ?_
  exact ⟨_, _, by first | rfl | (simp [errW_none, errW_some] <;> rfl) | (simp [*, errW_none, errW_some] <;> rfl), by (with_reducible repeat (first | apply Kd.V_alloc | apply Kd.V_drewN | apply Kd.V_drew)); exact Kd.V_mono (Kd.V_far (p := ⟨gb415, 0, none⟩) (Kd.V_far (p := ⟨gb424, 0, none⟩) (Kd.V_mono (Kd.V_mono HO422.out (fun k_ hk => (⟨hk, hk.2⟩ : _ ∧ k_ ≠ gb424))) (fun k_ hk => (⟨hk, hk.1.1.2.2⟩ : _ ∧ k_ ≠ gb415))) (fun _ hk => hk.1.2) (.slice Ao11 t420.length co11)) (fun _ hk => hk.2) (.slice Ao11 t420.length co11)) (fun _ hk => ⟨hk.1.1.1.1, hk.1.1.1.2.1⟩), by (with_reducible repeat (first | apply Kd.R_alloc | apply Kd.R_drewN | apply Kd.R_drew)); exact Kd.R_mono (Kd.R_far (p := ⟨gb415, 0, none⟩) (Kd.R_far (p := ⟨gb424, 0, none⟩) (Kd.R_types (Kd.R_types HO418.out BK424.out (by decide)) BK415.out (by decide)) (fun _ hk => hk.1.2) (.slice Ao11 t420.length co11)) (fun _ hk => hk.2) (.slice Ao11 t420.length co11)) (fun _ hk => hk.1.1.1), by repeat (first | (with_reducible first | exact HB.out | apply below_alloc | apply pw_below_drewN | apply below_drew1 | refine below_set ?_ GE415.out | refine below_set ?_ GE424.out) | exact HB.out)⟩
end Go.Proofs.YtmjkhbjfacfmcaaDoor.PA
end
section
namespace Go.Proofs.YtmjkhbjfacfmcaaDoor.PA
open Go.RowKit Go.Proofs.YtmjkhbjfacfmcaaDoorW.PrintWords Go.Proofs.YtmjkhbjfacfmcaaDoorW.PrintLast Go.Proofs.YtmjkhbjfacfmcaaDoorW.PrintMore
attribute [local go_sem] max2_int min2_int max_two min_two max_three min_three max_four min_four
set_option linter.unusedVariables false
set_option linter.unusedSimpArgs false
def waypointlaw01_is.f (k : Nat) (l0_0 : List Int) (l1 : List Int) : Option (Bool) := (nat_Text.f k l0_0).bind fun t426 => ((waypointref01_Text.f k l1).bind fun t427 => (some (t426.toList == t427.toList)))
theorem waypointlaw01_is.mono : ∀ a0 a1 k, LeO (waypointlaw01_is.f k a0 a1) (waypointlaw01_is.f (k + 1) a0 a1) := by
  intro a0 a1 k
  unfold waypointlaw01_is.f
  repeat' first
      | (with_reducible exact nat_Text.mono _ _)
      | (with_reducible exact waypointref01_Text.mono _ _)
      | (with_reducible exact LeO.refl _)
      | (with_reducible exact LeO.none _)
      | (with_reducible refine LeO.ite ?_ ?_)
      | (with_reducible refine LeO.bind ?_ (fun _ => ?_))
      | exact nat_Text.mono _ _
      | exact waypointref01_Text.mono _ _
      | exact LeO.none _
      | refine LeO.ite ?_ ?_
      | refine LeO.bind ?_ (fun _ => ?_)
set_option maxHeartbeats 8000000 in
set_option maxRecDepth 100000 in
theorem waypointlaw01_is.calls (k : Nat) (A0_0 : Option Addr) (c0_0 : Nat) (l0_0 : List Int) (A1 : Option Addr) (c1 : Nat) (l1 : List Int) (r : Bool) (w : World) (hGl : GLw w) (hr0_0 : Kd.C (Kd.int .u32) w A0_0 l0_0.length l0_0) (hc0_0 : l0_0.length ≤ c0_0) (hr1 : Kd.C (Kd.int .i64) w A1 l1.length l1) (hc1 : l1.length ≤ c1) (h : waypointlaw01_is.f k l0_0 l1 = some r) :
    Calls Tryd.prog 13 #[.agg #[.slice A0_0 l0_0.length c0_0], .slice A1 l1.length c1] w fun e w' => e = .returned (.bool r) ∧ Below w.heap.size w w' := by
  have hu26 := Tryd.underlying26
  have HR0_0 := Aside0.mk hr0_0
  have HC0_0 := Aside0.mk hc0_0
  clear hr0_0 hc0_0
  have HR1 := Aside0.mk hr1
  have HC1 := Aside0.mk hc1
  clear hr1 hc1
  have HB := Aside0.mk (Below.refl w.heap.size w)
  have HGl := Aside0.mk hGl
  clear hGl
  have H : ((nat_Text.f k l0_0).bind fun t426 => ((waypointref01_Text.f k l1).bind fun t427 => (some (t426.toList == t427.toList)))) = some r := h
  clear h
  replace H := Option.bind_eq_some_iff.mp H
  obtain ⟨t426, A30, H⟩ := H
  replace H : ((waypointref01_Text.f k l1).bind fun t427 => (some (t426.toList == t427.toList))) = some r := H
  have A3 := Aside0.mk A30
  clear A30
  replace H := Option.bind_eq_some_iff.mp H
  obtain ⟨t427, A40, H⟩ := H
  replace H : (some (t426.toList == t427.toList)) = some r := H
  have A4 := Aside0.mk A40
  clear A40
  obtain rfl := Option.some.inj H
  go_enter Tryd.func13, Tryd.ntmps13
  go_wp2_with (first | ((with_reducible refine gate_dst (N := 2) rfl ?_); refine box_event ?hg (N := 2) ?hd (cs := #[.slice A0_0 l0_0.length c0_0]) (t := 26) ?hr ?_; (case hd => rfl); (case hg => rfl); (case hr => first | (go_simp; done) | (go_simp; rfl)); intro gb425 hg w5 hbox hb; have n0_ := Aside0.mk (below_step (by repeat (first | (with_reducible first | exact HB.out | apply below_alloc | apply pw_below_drewN | apply below_drew1) | exact HB.out)) hb); have n1_ := Aside0.mk (hbox); have n2_ := Aside0.mk ((by rw [hg]; exact (below_size (by repeat (first | (with_reducible first | exact HB.out | apply below_alloc | apply pw_below_drewN | apply below_drew1) | exact HB.out))) : w.heap.size ≤ gb425)); have n3_ := Aside0.mk ((by rw [hg]; exact (below_size (by repeat (first | (with_reducible first | exact HB.out | apply below_alloc | apply pw_below_drewN | apply below_drew1) | exact HB.out))) : w.heap.size ≤ gb425)); clear HB; have HB := n0_; have BK425 := n1_; have GW425 := n2_; have GE425 := n3_; clear n0_ n1_ n2_ n3_; clear hb hbox hg; have hcz6_0 : w5.cell? ⟨gb425, 0, none⟩ = some (.slice A0_0 l0_0.length c0_0) := (blk_cell BK425.out 0).trans rfl; have hfz6_0 := blk_frozen BK425.out 0) | ((with_reducible refine gate_callee (f := 12) rfl ?_); refine goesL_ (some 6) rfl rfl Tryd.func12 (by kernel_rfl) rfl #[.agg #[.slice A0_0 l0_0.length c0_0]] rfl (by (try simp only [List.map_toArray, List.map_cons, List.map_nil]); first | done | rfl | (simp only [List.length_drop, List.length_take]; rfl)) ?_; (with_reducible refine (nat_Text.calls k (fun k_ => k_ < w.heap.size) _ _ l0_0 t426 _ ?side2 ?side1 A3.out).mono ?_); (case side1 => exact Kd.V_mk HC0_0.out (Kd.F_below (Kd.C_F (Kd.heap_int .u32) HR0_0.out) (by repeat (first | (with_reducible first | exact HB.out | apply below_alloc | apply pw_below_drewN | apply below_drew1 | refine below_set ?_ GE425.out) | exact HB.out)))); (case side2 => first | exact GLw.mono HGl.out (by repeat (first | (with_reducible first | exact HB.out | apply below_alloc | apply pw_below_drewN | apply below_drew1 | refine below_set ?_ GE425.out) | exact HB.out)) | (repeat first | apply GLw.drewN | apply GLw.drew); exact HGl.out); rintro e w7 ⟨rfl, hb⟩; refine ⟨_, rfl, ?_⟩; have n0_ := Aside0.mk (blk_below (g := gb425) (o := .cells #[.slice A0_0 l0_0.length c0_0] 26 (0, 0)) (by (with_reducible repeat (first | refine blk_drewN ?_ _ | refine blk_drew ?_ | refine blk_alloc ?_ _)); exact BK425.out) hb); have n1_ := Aside0.mk (below_step (by repeat (first | (with_reducible first | exact HB.out | apply below_alloc | apply pw_below_drewN | apply below_drew1 | refine below_set ?_ GE425.out) | exact HB.out)) hb); clear BK425; clear HB; have BK425 := n0_; have HB := n1_; clear n0_ n1_; (try clear hb); (try clear hb2); (try clear hk); (try clear hi)) | ((with_reducible refine gate_callee (f := 27) rfl ?_); refine goesL_ (some 8) rfl rfl Tryd.func27 (by kernel_rfl) rfl #[.slice A1 l1.length c1] rfl (by (try simp only [List.map_toArray, List.map_cons, List.map_nil]); first | done | rfl | (simp only [List.length_drop, List.length_take]; rfl)) ?_; (with_reducible refine (waypointref01_Text.calls k _ _ l1 t427 _ ?side1 ?side2 A4.out).mono ?_); (case side1 => repeat (first | exact (Kd.C_below HR1.out HB.out) | (with_reducible refine Kd.C_alloc ?_ _) | (with_reducible refine Kd.C_drewN ?_ _) | (with_reducible refine Kd.C_drew ?_))); (case side2 => exact HC1.out); rintro e w8 ⟨rfl, hb⟩; refine ⟨_, rfl, ?_⟩; have n0_ := Aside0.mk (blk_below (g := gb425) (o := .cells #[.slice A0_0 l0_0.length c0_0] 26 (0, 0)) (by (with_reducible repeat (first | refine blk_drewN ?_ _ | refine blk_drew ?_ | refine blk_alloc ?_ _)); exact BK425.out) hb); have n1_ := Aside0.mk (below_step (by repeat (first | (with_reducible first | exact HB.out | apply below_alloc | apply pw_below_drewN | apply below_drew1 | refine below_set ?_ GE425.out) | exact HB.out)) hb); clear BK425; clear HB; have BK425 := n0_; have HB := n1_; clear n0_ n1_; (try clear hb); (try clear hb2); (try clear hk); (try clear hi)))
  go_ret
  exact ⟨by first | rfl | (simp [errW_none, errW_some] <;> rfl) | (simp [*, errW_none, errW_some] <;> rfl), by repeat (first | (with_reducible first | exact HB.out | apply below_alloc | apply pw_below_drewN | apply below_drew1 | refine below_set ?_ GE425.out) | exact HB.out)⟩
end Go.Proofs.YtmjkhbjfacfmcaaDoor.PA
end
section
namespace Go.Proofs.YtmjkhbjfacfmcaaDoor.PA
open Go.RowKit Go.Proofs.YtmjkhbjfacfmcaaDoorW.PrintWords Go.Proofs.YtmjkhbjfacfmcaaDoorW.PrintLast Go.Proofs.YtmjkhbjfacfmcaaDoorW.PrintMore
attribute [local go_sem] max2_int min2_int max_two min_two max_three min_three max_four min_four
set_option linter.unusedVariables false
set_option linter.unusedSimpArgs false
def waypointlaw01_NatText.f (k : Nat) (l0 : List Int) : Option (Bool) := (waypointlaw01_awake.f k).bind fun t428 => (if t428 = true then ((waypointlaw01_small.f l0 ([] : List Int)).bind fun t429 => (if t429 = true then ((waypointlaw01_number.f k l0).bind fun bt430 => ((nat_Text.f k bt430.1).bind fun t437 => ((nat_Parse.f k t437).bind fun bt438 => ((waypointlaw01_is.f k bt430.1 bt430.2).bind fun t444 => (if t444 = true then (if bt438.2 = 0 then ((nat_Cmp.f k bt438.1 bt430.1).bind fun t445 => (if t445 = 0 then ((nat_Text.f k ([] : List Int)).bind fun t446 => (if t446.toList = ([48] : List UInt8) then ((nat_IsZero.f ([] : List Int)).bind fun t447 => (some t447)) else (none))) else (none))) else (none)) else (none)))))) else (some true))) else (some false))
theorem waypointlaw01_NatText.mono : ∀ a0 k, LeO (waypointlaw01_NatText.f k a0) (waypointlaw01_NatText.f (k + 1) a0) := by
  intro a0 k
  unfold waypointlaw01_NatText.f
  repeat' first
      | (with_reducible exact nat_Cmp.mono _ _ _)
      | (with_reducible exact nat_Parse.mono _ _)
      | (with_reducible exact nat_Text.mono _ _)
      | (with_reducible exact waypointlaw01_awake.mono _)
      | (with_reducible exact waypointlaw01_is.mono _ _ _)
      | (with_reducible exact waypointlaw01_number.mono _ _)
      | (with_reducible exact LeO.refl _)
      | (with_reducible exact LeO.none _)
      | (with_reducible refine LeO.ite ?_ ?_)
      | (with_reducible refine LeO.bind ?_ (fun _ => ?_))
      | exact nat_Cmp.mono _ _ _
      | exact nat_Parse.mono _ _
      | exact nat_Text.mono _ _
      | exact waypointlaw01_awake.mono _
      | exact waypointlaw01_is.mono _ _ _
      | exact waypointlaw01_number.mono _ _
      | exact LeO.none _
      | refine LeO.ite ?_ ?_
      | refine LeO.bind ?_ (fun _ => ?_)
set_option maxHeartbeats 8000000 in
set_option maxRecDepth 100000 in
theorem waypointlaw01_NatText.calls (k : Nat) (A0 : Option Addr) (c0 : Nat) (l0 : List Int) (r : Bool) (w : World) (hGl : GLw w) (hr0 : Kd.C (Kd.int .u32) w A0 l0.length l0) (hc0 : l0.length ≤ c0) (h : waypointlaw01_NatText.f k l0 = some r) :
    Calls Tryd.prog 3 #[.slice A0 l0.length c0] w fun e w' => e = .returned (.bool r) ∧ Below w.heap.size w w' := by
  have hu26 := Tryd.underlying26
  have HR0 := Aside0.mk hr0
  have HC0 := Aside0.mk hc0
  clear hr0 hc0
  have HB := Aside0.mk (Below.refl w.heap.size w)
  have HGl := Aside0.mk hGl
  clear hGl
  have H : ((waypointlaw01_awake.f k).bind fun t428 => (if t428 = true then ((waypointlaw01_small.f l0 ([] : List Int)).bind fun t429 => (if t429 = true then ((waypointlaw01_number.f k l0).bind fun bt430 => ((nat_Text.f k bt430.1).bind fun t437 => ((nat_Parse.f k t437).bind fun bt438 => ((waypointlaw01_is.f k bt430.1 bt430.2).bind fun t444 => (if t444 = true then (if bt438.2 = 0 then ((nat_Cmp.f k bt438.1 bt430.1).bind fun t445 => (if t445 = 0 then ((nat_Text.f k ([] : List Int)).bind fun t446 => (if t446.toList = ([48] : List UInt8) then ((nat_IsZero.f ([] : List Int)).bind fun t447 => (some t447)) else (none))) else (none))) else (none)) else (none)))))) else (some true))) else (some false))) = some r := h
  clear h
  replace H := Option.bind_eq_some_iff.mp H
  obtain ⟨t428, A20, H⟩ := H
  replace H : (if t428 = true then ((waypointlaw01_small.f l0 ([] : List Int)).bind fun t429 => (if t429 = true then ((waypointlaw01_number.f k l0).bind fun bt430 => ((nat_Text.f k bt430.1).bind fun t437 => ((nat_Parse.f k t437).bind fun bt438 => ((waypointlaw01_is.f k bt430.1 bt430.2).bind fun t444 => (if t444 = true then (if bt438.2 = 0 then ((nat_Cmp.f k bt438.1 bt430.1).bind fun t445 => (if t445 = 0 then ((nat_Text.f k ([] : List Int)).bind fun t446 => (if t446.toList = ([48] : List UInt8) then ((nat_IsZero.f ([] : List Int)).bind fun t447 => (some t447)) else (none))) else (none))) else (none)) else (none)))))) else (some true))) else (some false)) = some r := H
  have A2 := Aside0.mk A20
  clear A20
  by_cases c3 : t428 = true
  · subst c3
    have H1 : ((waypointlaw01_small.f l0 ([] : List Int)).bind fun t429 => (if t429 = true then ((waypointlaw01_number.f k l0).bind fun bt430 => ((nat_Text.f k bt430.1).bind fun t437 => ((nat_Parse.f k t437).bind fun bt438 => ((waypointlaw01_is.f k bt430.1 bt430.2).bind fun t444 => (if t444 = true then (if bt438.2 = 0 then ((nat_Cmp.f k bt438.1 bt430.1).bind fun t445 => (if t445 = 0 then ((nat_Text.f k ([] : List Int)).bind fun t446 => (if t446.toList = ([48] : List UInt8) then ((nat_IsZero.f ([] : List Int)).bind fun t447 => (some t447)) else (none))) else (none))) else (none)) else (none)))))) else (some true))) = some r := by rw [if_pos rfl] at H; exact H
    clear H
    have H := H1
    clear H1
    replace H := Option.bind_eq_some_iff.mp H
    obtain ⟨t429, A40, H⟩ := H
    replace H : (if t429 = true then ((waypointlaw01_number.f k l0).bind fun bt430 => ((nat_Text.f k bt430.1).bind fun t437 => ((nat_Parse.f k t437).bind fun bt438 => ((waypointlaw01_is.f k bt430.1 bt430.2).bind fun t444 => (if t444 = true then (if bt438.2 = 0 then ((nat_Cmp.f k bt438.1 bt430.1).bind fun t445 => (if t445 = 0 then ((nat_Text.f k ([] : List Int)).bind fun t446 => (if t446.toList = ([48] : List UInt8) then ((nat_IsZero.f ([] : List Int)).bind fun t447 => (some t447)) else (none))) else (none))) else (none)) else (none)))))) else (some true)) = some r := H
    have A4 := Aside0.mk A40
    clear A40
    by_cases c5 : t429 = true
    · subst c5
      have H1 : ((waypointlaw01_number.f k l0).bind fun bt430 => ((nat_Text.f k bt430.1).bind fun t437 => ((nat_Parse.f k t437).bind fun bt438 => ((waypointlaw01_is.f k bt430.1 bt430.2).bind fun t444 => (if t444 = true then (if bt438.2 = 0 then ((nat_Cmp.f k bt438.1 bt430.1).bind fun t445 => (if t445 = 0 then ((nat_Text.f k ([] : List Int)).bind fun t446 => (if t446.toList = ([48] : List UInt8) then ((nat_IsZero.f ([] : List Int)).bind fun t447 => (some t447)) else (none))) else (none))) else (none)) else (none)))))) = some r := by rw [if_pos rfl] at H; exact H
      clear H
      have H := H1
      clear H1
      replace H := Option.bind_eq_some_iff.mp H
      obtain ⟨⟨t430, t433⟩, A60, H⟩ := H
      replace H : ((nat_Text.f k t430).bind fun t437 => ((nat_Parse.f k t437).bind fun bt438 => ((waypointlaw01_is.f k t430 t433).bind fun t444 => (if t444 = true then (if bt438.2 = 0 then ((nat_Cmp.f k bt438.1 t430).bind fun t445 => (if t445 = 0 then ((nat_Text.f k ([] : List Int)).bind fun t446 => (if t446.toList = ([48] : List UInt8) then ((nat_IsZero.f ([] : List Int)).bind fun t447 => (some t447)) else (none))) else (none))) else (none)) else (none))))) = some r := H
      have A6 := Aside0.mk A60
      clear A60
      replace H := Option.bind_eq_some_iff.mp H
      obtain ⟨t437, A70, H⟩ := H
      replace H : ((nat_Parse.f k t437).bind fun bt438 => ((waypointlaw01_is.f k t430 t433).bind fun t444 => (if t444 = true then (if bt438.2 = 0 then ((nat_Cmp.f k bt438.1 t430).bind fun t445 => (if t445 = 0 then ((nat_Text.f k ([] : List Int)).bind fun t446 => (if t446.toList = ([48] : List UInt8) then ((nat_IsZero.f ([] : List Int)).bind fun t447 => (some t447)) else (none))) else (none))) else (none)) else (none)))) = some r := H
      have A7 := Aside0.mk A70
      clear A70
      replace H := Option.bind_eq_some_iff.mp H
      obtain ⟨⟨t438, t441⟩, A80, H⟩ := H
      replace H : ((waypointlaw01_is.f k t430 t433).bind fun t444 => (if t444 = true then (if t441 = 0 then ((nat_Cmp.f k t438 t430).bind fun t445 => (if t445 = 0 then ((nat_Text.f k ([] : List Int)).bind fun t446 => (if t446.toList = ([48] : List UInt8) then ((nat_IsZero.f ([] : List Int)).bind fun t447 => (some t447)) else (none))) else (none))) else (none)) else (none))) = some r := H
      have A8 := Aside0.mk A80
      clear A80
      replace H := Option.bind_eq_some_iff.mp H
      obtain ⟨t444, A90, H⟩ := H
      replace H : (if t444 = true then (if t441 = 0 then ((nat_Cmp.f k t438 t430).bind fun t445 => (if t445 = 0 then ((nat_Text.f k ([] : List Int)).bind fun t446 => (if t446.toList = ([48] : List UInt8) then ((nat_IsZero.f ([] : List Int)).bind fun t447 => (some t447)) else (none))) else (none))) else (none)) else (none)) = some r := H
      have A9 := Aside0.mk A90
      clear A90
      by_cases c10 : t444 = true
      · subst c10
        have H1 : (if t441 = 0 then ((nat_Cmp.f k t438 t430).bind fun t445 => (if t445 = 0 then ((nat_Text.f k ([] : List Int)).bind fun t446 => (if t446.toList = ([48] : List UInt8) then ((nat_IsZero.f ([] : List Int)).bind fun t447 => (some t447)) else (none))) else (none))) else (none)) = some r := by rw [if_pos rfl] at H; exact H
        clear H
        have H := H1
        clear H1
        by_cases c11 : t441 = 0
        · rw [if_pos c11] at H
          have c11b0 : (t441 == 0) = true := beq_iff_eq.mpr c11
          have c11b1 : (t441 != 0) = false := bne_eq_false_iff_eq.mpr c11
          clear c11
          replace H := Option.bind_eq_some_iff.mp H
          obtain ⟨t445, A120, H⟩ := H
          replace H : (if t445 = 0 then ((nat_Text.f k ([] : List Int)).bind fun t446 => (if t446.toList = ([48] : List UInt8) then ((nat_IsZero.f ([] : List Int)).bind fun t447 => (some t447)) else (none))) else (none)) = some r := H
          have A12 := Aside0.mk A120
          clear A120
          by_cases c13 : t445 = 0
          · rw [if_pos c13] at H
            have c13b0 : (t445 == 0) = true := beq_iff_eq.mpr c13
            have c13b1 : (t445 != 0) = false := bne_eq_false_iff_eq.mpr c13
            clear c13
            replace H := Option.bind_eq_some_iff.mp H
            obtain ⟨t446, A140, H⟩ := H
            replace H : (if t446.toList = ([48] : List UInt8) then ((nat_IsZero.f ([] : List Int)).bind fun t447 => (some t447)) else (none)) = some r := H
            have A14 := Aside0.mk A140
            clear A140
            by_cases c15 : t446.toList = ([48] : List UInt8)
            · rw [if_pos c15] at H
              have c15b0 : (t446.toList == ([48] : List UInt8)) = true := beq_iff_eq.mpr c15
              have c15b1 : (t446.toList != ([48] : List UInt8)) = false := bne_eq_false_iff_eq.mpr c15
              clear c15
              replace H := Option.bind_eq_some_iff.mp H
              obtain ⟨t447, A160, H⟩ := H
              replace H : (some t447) = some r := H
              have A16 := Aside0.mk A160
              clear A160
              obtain rfl := Option.some.inj H
              go_enter Tryd.func3, Tryd.ntmps3
              go_wp2_with (first | ((with_reducible refine gate_callee (f := 8) rfl ?_); refine goesL_ (some 8) rfl rfl Tryd.func8 (by kernel_rfl) rfl #[] rfl (by (try simp only [List.map_toArray, List.map_cons, List.map_nil]); first | done | rfl | (simp only [List.length_drop, List.length_take]; rfl)) ?_; (with_reducible refine (waypointlaw01_awake.calls k  true _ ?side1 A2.out).mono ?_); (case side1 => first | exact GLw.mono HGl.out (by repeat (first | (with_reducible first | exact HB.out | apply below_alloc | apply pw_below_drewN | apply below_drew1) | exact HB.out)) | (repeat first | apply GLw.drewN | apply GLw.drew); exact HGl.out); rintro e w17 ⟨rfl, hb⟩; refine ⟨_, rfl, ?_⟩; have n0_ := Aside0.mk (below_step (by repeat (first | (with_reducible first | exact HB.out | apply below_alloc | apply pw_below_drewN | apply below_drew1) | exact HB.out)) hb); clear HB; have HB := n0_; clear n0_; (try clear hb); (try clear hb2); (try clear hk); (try clear hi)) | ((with_reducible refine gate_callee (f := 9) rfl ?_); refine goesL_ (some 11) rfl rfl Tryd.func9 (by kernel_rfl) rfl #[.slice A0 l0.length c0, .slice none 0 0] rfl (by (try simp only [List.map_toArray, List.map_cons, List.map_nil]); first | done | rfl | (simp only [List.length_drop, List.length_take]; rfl)) ?_; (refine (waypointlaw01_small.calls _ _ l0 _ _ ([] : List Int) true _ ?side1 ?side2 ?side3 ?side4 A4.out).mono ?_); (case side1 => repeat (first | exact (Kd.C_below HR0.out HB.out) | (with_reducible refine Kd.C_alloc ?_ _) | (with_reducible refine Kd.C_drewN ?_ _) | (with_reducible refine Kd.C_drew ?_))); (case side2 => exact HC0.out); (case side3 => exact Kd.C_nil _ _); (case side4 => exact Nat.le_refl _); rintro e w' ⟨rfl, ⟨nd, rfl⟩⟩; refine ⟨_, rfl, ?_⟩; (try (rw [drewN_self w17]; generalize hq_ : World.drewN w17 _ = w17; have n0_ : Aside0 (Below w.heap.size w w17) := ⟨by rw [← hq_]; exact (by repeat (first | (with_reducible first | exact HB.out | apply below_alloc | apply pw_below_drewN | apply below_drew1) | exact HB.out))⟩; clear HB hq_; have HB := n0_; clear n0_))) | ((with_reducible refine gate_callee (f := 10) rfl ?_); refine goesL_ (some 15) rfl rfl Tryd.func10 (by kernel_rfl) rfl #[.slice A0 l0.length c0] rfl (by (try simp only [List.map_toArray, List.map_cons, List.map_nil]); first | done | rfl | (simp only [List.length_drop, List.length_take]; rfl)) ?_; (with_reducible refine (waypointlaw01_number.calls k _ _ l0 t430 t433 _ ?side1 ?side2 A6.out).mono ?_); (case side1 => repeat (first | exact (Kd.C_below HR0.out HB.out) | (with_reducible refine Kd.C_alloc ?_ _) | (with_reducible refine Kd.C_drewN ?_ _) | (with_reducible refine Kd.C_drew ?_))); (case side2 => exact HC0.out); rintro e w18 ⟨v431, v434, rfl, ho0, ho1, hb⟩; refine ⟨_, rfl, ?_⟩; have n0_ := Aside0.mk (Kd.V_lower (Kd.V_mono (ok' := fun k_ => some k_ ≠ (v434 : Value).ownBlock) ho0 (fun k_ hk_ => hk_.2)) (below_size (by repeat (first | (with_reducible first | exact HB.out | apply below_alloc | apply pw_below_drewN | apply below_drew1) | exact HB.out)))); have n1_ := Aside0.mk (Kd.R_lower (Kd.R_mono (ok' := fun k_ => True) ho1 (fun _ hk_ => trivial)) (below_size (by repeat (first | (with_reducible first | exact HB.out | apply below_alloc | apply pw_below_drewN | apply below_drew1) | exact HB.out)))); have n2_ := Aside0.mk (below_step (by repeat (first | (with_reducible first | exact HB.out | apply below_alloc | apply pw_below_drewN | apply below_drew1) | exact HB.out)) hb); clear HB; have HO432 := n0_; have HO435 := n1_; have HB := n2_; clear n0_ n1_ n2_; (try clear hb); (try clear hb2); (try clear hk); (try clear hi); (try clear ho0); (try clear ho1)) | ((with_reducible refine gate_dst (N := 3) rfl ?_); refine box_event ?hg (N := 3) ?hd (cs := #[.slice none 0 0]) (t := 26) ?hr ?_; (case hd => rfl); (case hg => rfl); (case hr => first | (go_simp; done) | (go_simp; rfl)); intro gb436 hg w19 hbox hb; have n0_ := Aside0.mk (Kd.V_below (Kd.V_elderB (by (with_reducible repeat (first | apply Kd.V_alloc | apply Kd.V_drewN | apply Kd.V_drew)); exact HO432.out) gb436 (Nat.le_of_eq hg.symm)) hb); have n1_ := Aside0.mk (Kd.R_below (by (with_reducible repeat (first | apply Kd.R_alloc | apply Kd.R_drewN | apply Kd.R_drew)); exact HO435.out) hb); have n2_ := Aside0.mk (below_step (by repeat (first | (with_reducible first | exact HB.out | apply below_alloc | apply pw_below_drewN | apply below_drew1) | exact HB.out)) hb); have n3_ := Aside0.mk (hbox); have n4_ := Aside0.mk ((by rw [hg]; exact (below_size (by repeat (first | (with_reducible first | exact HB.out | apply below_alloc | apply pw_below_drewN | apply below_drew1) | exact HB.out))) : w.heap.size ≤ gb436)); have n5_ := Aside0.mk ((by rw [hg]; exact (below_size (by repeat (first | (with_reducible first | exact HB.out | apply below_alloc | apply pw_below_drewN | apply below_drew1) | exact HB.out))) : w.heap.size ≤ gb436)); clear HO432; clear HO435; clear HB; have HO432 := n0_; have HO435 := n1_; have HB := n2_; have BK436 := n3_; have GW436 := n4_; have GE436 := n5_; clear n0_ n1_ n2_ n3_ n4_ n5_; clear hb hbox hg; obtain ⟨Ao20, co20, eo20⟩ := Kd.V_slice HO432.out; subst eo20; have hcz21_0 : w19.cell? ⟨gb436, 0, none⟩ = some (.slice none 0 0) := (blk_cell BK436.out 0).trans rfl; have hfz21_0 := blk_frozen BK436.out 0) | ((with_reducible refine gate_store (t := 26) (p := 3) rfl ?_); refine store_event (t := 26) (p := 3) (v := ?vo_w22) (w1 := (w19.setCell ⟨gb436, 0, none⟩ (.slice Ao20 t430.length co20))) ?hg ?ho ?hn ?hr ?_; (case ho => rfl); (case hg => rfl); (case hn => rfl); (case hr => first | (go_simp; done) | (go_simp; rfl)); intro w22 hw; have n0_ : Aside0 (Kd.V (Kd.int .u32) 62 w22 w.heap.size (fun k_ => some k_ ≠ (v434 : Value).ownBlock ∧ k_ ≠ gb436) (.slice Ao20 t430.length co20) t430) := ⟨(by rw [hw]; exact (by (with_reducible repeat (first | apply Kd.V_alloc | apply Kd.V_drewN | apply Kd.V_drew)); exact Kd.V_mono (Kd.V_far (p := ⟨gb436, 0, none⟩) (Kd.V_mono HO432.out (fun k_ hk => (⟨hk, hk.2⟩ : _ ∧ k_ ≠ gb436))) (fun _ hk => hk.2) (.slice Ao20 t430.length co20)) (fun _ hk => ⟨hk.1.1, hk.1.2⟩)))⟩; have n1_ : Aside0 (Kd.R (Kd.int .i64) 3 w22 w.heap.size (fun _ => True) v434 t433) := ⟨(by rw [hw]; exact (by (with_reducible repeat (first | apply Kd.R_alloc | apply Kd.R_drewN | apply Kd.R_drew)); exact Kd.R_mono (Kd.R_far (p := ⟨gb436, 0, none⟩) (Kd.R_types HO435.out BK436.out (by decide)) (fun _ hk => hk.2) (.slice Ao20 t430.length co20)) (fun _ hk => trivial)))⟩; have n2_ : Aside0 (w22.heap[gb436]? = some (.cells #[.slice Ao20 t430.length co20] 26 (0, 0))) := ⟨(by rw [hw]; exact (by (with_reducible repeat (first | refine blk_drewN ?_ _ | refine blk_drew ?_ | refine blk_alloc ?_ _)); refine blk_put (cs := #[.slice none 0 0]) ?_ 0 _ rfl; (with_reducible repeat (first | refine blk_drewN ?_ _ | refine blk_drew ?_ | refine blk_alloc ?_ _)); exact BK436.out))⟩; have n3_ : Aside0 (Below w.heap.size w w22) := ⟨(by rw [hw]; exact (by repeat (first | (with_reducible first | exact HB.out | apply below_alloc | apply pw_below_drewN | apply below_drew1 | refine below_set ?_ GE436.out) | exact HB.out)))⟩; clear hw; clear HO432; clear HO435; clear BK436; clear HB; have HO432 := n0_; have HO435 := n1_; have BK436 := n2_; have HB := n3_; clear n0_ n1_ n2_ n3_; have hcz23_0 : w22.cell? ⟨gb436, 0, none⟩ = some (.slice Ao20 t430.length co20) := (blk_cell BK436.out 0).trans rfl; have hfz23_0 := blk_frozen BK436.out 0) | ((with_reducible refine gate_callee (f := 12) rfl ?_); refine goesL_ (some 20) rfl rfl Tryd.func12 (by kernel_rfl) rfl #[.agg #[.slice Ao20 t430.length co20]] rfl (by (try simp only [List.map_toArray, List.map_cons, List.map_nil]); first | done | rfl | (simp only [List.length_drop, List.length_take]; rfl)) ?_; (with_reducible refine (nat_Text.calls k (fun k_ => (some k_ ≠ (v434 : Value).ownBlock ∧ k_ ≠ gb436)) _ _ t430 t437 _ ?side2 ?side1 A7.out).mono ?_); (case side1 => exact HO432.out); (case side2 => first | exact GLw.mono HGl.out (by repeat (first | (with_reducible first | exact HB.out | apply below_alloc | apply pw_below_drewN | apply below_drew1 | refine below_set ?_ GE436.out) | exact HB.out)) | (repeat first | apply GLw.drewN | apply GLw.drew); exact HGl.out); rintro e w24 ⟨rfl, hb⟩; refine ⟨_, rfl, ?_⟩; have n0_ := Aside0.mk (Kd.V_below (by (with_reducible repeat (first | apply Kd.V_alloc | apply Kd.V_drewN | apply Kd.V_drew)); exact HO432.out) hb); have n1_ := Aside0.mk (Kd.R_below (by (with_reducible repeat (first | apply Kd.R_alloc | apply Kd.R_drewN | apply Kd.R_drew)); exact HO435.out) hb); have n2_ := Aside0.mk (blk_below (g := gb436) (o := .cells #[.slice Ao20 t430.length co20] 26 (0, 0)) (by (with_reducible repeat (first | refine blk_drewN ?_ _ | refine blk_drew ?_ | refine blk_alloc ?_ _)); exact BK436.out) hb); have n3_ := Aside0.mk (below_step (by repeat (first | (with_reducible first | exact HB.out | apply below_alloc | apply pw_below_drewN | apply below_drew1 | refine below_set ?_ GE436.out) | exact HB.out)) hb); clear HO432; clear HO435; clear BK436; clear HB; have HO432 := n0_; have HO435 := n1_; have BK436 := n2_; have HB := n3_; clear n0_ n1_ n2_ n3_; (try clear hb); (try clear hb2); (try clear hk); (try clear hi)) | ((with_reducible refine gate_callee (f := 11) rfl ?_); refine goesL_ (some 21) rfl rfl Tryd.func11 (by kernel_rfl) rfl #[.string t437] rfl (by (try simp only [List.map_toArray, List.map_cons, List.map_nil]); first | done | rfl | (simp only [List.length_drop, List.length_take]; rfl)) ?_; (with_reducible refine (nat_Parse.calls k t437 t438 t441 _ A8.out).mono ?_); rintro e w25 ⟨v439, rfl, ho0, hb⟩; refine ⟨_, rfl, ?_⟩; have n0_ := Aside0.mk (Kd.V_below (by (with_reducible repeat (first | apply Kd.V_alloc | apply Kd.V_drewN | apply Kd.V_drew)); exact HO432.out) hb); have n1_ := Aside0.mk (Kd.R_below (by (with_reducible repeat (first | apply Kd.R_alloc | apply Kd.R_drewN | apply Kd.R_drew)); exact HO435.out) hb); have n2_ := Aside0.mk (Kd.V_lower (Kd.V_mono (ok' := fun k_ => some k_ ≠ (v434 : Value).ownBlock ∧ k_ ≠ gb436) ho0 (fun k_ hk_ => ⟨(Kd.fresh' (Kd.R_lt (by (with_reducible repeat (first | apply Kd.R_alloc | apply Kd.R_drewN | apply Kd.R_drew)); exact HO435.out)) k_ hk_), (Kd.freshB (g := gb436) (o := .cells #[.slice Ao20 t430.length co20] 26 (0, 0)) (by (with_reducible repeat (first | refine blk_drewN ?_ _ | refine blk_drew ?_ | refine blk_alloc ?_ _)); exact BK436.out) k_ hk_)⟩)) (below_size (by repeat (first | (with_reducible first | exact HB.out | apply below_alloc | apply pw_below_drewN | apply below_drew1 | refine below_set ?_ GE436.out) | exact HB.out)))); have n3_ := Aside0.mk (blk_below (g := gb436) (o := .cells #[.slice Ao20 t430.length co20] 26 (0, 0)) (by (with_reducible repeat (first | refine blk_drewN ?_ _ | refine blk_drew ?_ | refine blk_alloc ?_ _)); exact BK436.out) hb); have n4_ := Aside0.mk (below_step (by repeat (first | (with_reducible first | exact HB.out | apply below_alloc | apply pw_below_drewN | apply below_drew1 | refine below_set ?_ GE436.out) | exact HB.out)) hb); clear HO432; clear HO435; clear BK436; clear HB; have HO432 := n0_; have HO435 := n1_; have HO440 := n2_; have BK436 := n3_; have HB := n4_; clear n0_ n1_ n2_ n3_ n4_; (try clear hb); (try clear hb2); (try clear hk); (try clear hi); (try clear ho0)) | ((with_reducible refine gate_dst (N := 5) rfl ?_); refine box_event ?hg (N := 5) ?hd (cs := #[.slice none 0 0]) (t := 26) ?hr ?_; (case hd => rfl); (case hg => rfl); (case hr => first | (go_simp; done) | (go_simp; rfl)); intro gb442 hg w26 hbox hb; have n0_ := Aside0.mk (Kd.V_below (Kd.V_elderB (by (with_reducible repeat (first | apply Kd.V_alloc | apply Kd.V_drewN | apply Kd.V_drew)); exact HO432.out) gb442 (Nat.le_of_eq hg.symm)) hb); have n1_ := Aside0.mk (Kd.R_below (by (with_reducible repeat (first | apply Kd.R_alloc | apply Kd.R_drewN | apply Kd.R_drew)); exact HO435.out) hb); have n2_ := Aside0.mk (Kd.V_below (Kd.V_elderB (by (with_reducible repeat (first | apply Kd.V_alloc | apply Kd.V_drewN | apply Kd.V_drew)); exact HO440.out) gb442 (Nat.le_of_eq hg.symm)) hb); have n3_ := Aside0.mk (blk_below (g := gb436) (o := .cells #[.slice Ao20 t430.length co20] 26 (0, 0)) (by (with_reducible repeat (first | refine blk_drewN ?_ _ | refine blk_drew ?_ | refine blk_alloc ?_ _)); exact BK436.out) hb); have n4_ := Aside0.mk (below_step (by repeat (first | (with_reducible first | exact HB.out | apply below_alloc | apply pw_below_drewN | apply below_drew1 | refine below_set ?_ GE436.out) | exact HB.out)) hb); have n5_ := Aside0.mk (hbox); have n6_ := Aside0.mk ((by rw [hg]; exact (below_size (by repeat (first | (with_reducible first | exact HB.out | apply below_alloc | apply pw_below_drewN | apply below_drew1 | refine below_set ?_ GE436.out) | exact HB.out))) : w.heap.size ≤ gb442)); have n7_ := Aside0.mk ((by rw [hg]; exact (below_size (by repeat (first | (with_reducible first | exact HB.out | apply below_alloc | apply pw_below_drewN | apply below_drew1 | refine below_set ?_ GE436.out) | exact HB.out))) : w.heap.size ≤ gb442)); have n8_ := Aside0.mk ((by rw [hg]; exact Nat.ne_of_lt (blk_lt (g := gb436) (o := .cells #[.slice Ao20 t430.length co20] 26 (0, 0)) (by (with_reducible repeat (first | refine blk_drewN ?_ _ | refine blk_drew ?_ | refine blk_alloc ?_ _)); exact BK436.out)) : gb436 ≠ gb442)); have n9_ := Aside0.mk ((by rw [hg]; exact Nat.ne_of_gt (blk_lt (g := gb436) (o := .cells #[.slice Ao20 t430.length co20] 26 (0, 0)) (by (with_reducible repeat (first | refine blk_drewN ?_ _ | refine blk_drew ?_ | refine blk_alloc ?_ _)); exact BK436.out)) : gb442 ≠ gb436)); clear HO432; clear HO435; clear HO440; clear BK436; clear HB; have HO432 := n0_; have HO435 := n1_; have HO440 := n2_; have BK436 := n3_; have HB := n4_; have BK442 := n5_; have GW442 := n6_; have GE442 := n7_; have NB436_442 := n8_; have NB442_436 := n9_; clear n0_ n1_ n2_ n3_ n4_ n5_ n6_ n7_ n8_ n9_; clear hb hbox hg; obtain ⟨Ao27, co27, eo27⟩ := Kd.V_slice HO440.out; subst eo27; have hnb28 := NB442_436.out; have hnc28 := NB436_442.out; have hcz29_0 : w26.cell? ⟨gb442, 0, none⟩ = some (.slice none 0 0) := (blk_cell BK442.out 0).trans rfl; have hfz29_0 := blk_frozen BK442.out 0) | ((with_reducible refine gate_dst (N := 7) rfl ?_); refine box_event ?hg (N := 7) ?hd (cs := #[.slice none 0 0]) (t := 26) ?hr ?_; (case hd => rfl); (case hg => rfl); (case hr => first | (go_simp; done) | (go_simp; rfl)); intro gb443 hg w30 hbox hb; have n0_ := Aside0.mk (Kd.V_below (Kd.V_elderB (by (with_reducible repeat (first | apply Kd.V_alloc | apply Kd.V_drewN | apply Kd.V_drew)); exact (Kd.V_mono (Kd.V_far (p := ⟨gb442, 0, none⟩) (Kd.V_mono HO432.out (fun k_ hk => (⟨hk, hk.2⟩ : _ ∧ k_ ≠ gb442))) (fun _ hk => hk.2) (.slice Ao27 t438.length co27)) (fun _ h_ => h_.1))) gb443 (Nat.le_of_eq hg.symm)) hb); have n1_ := Aside0.mk (Kd.R_below (by (with_reducible repeat (first | apply Kd.R_alloc | apply Kd.R_drewN | apply Kd.R_drew)); exact (Kd.R_mono (Kd.R_far (p := ⟨gb442, 0, none⟩) (Kd.R_types HO435.out BK442.out (by decide)) (fun _ hk => hk.2) (.slice Ao27 t438.length co27)) (fun _ h_ => h_.1))) hb); have n2_ := Aside0.mk (Kd.V_below (Kd.V_elderB (by (with_reducible repeat (first | apply Kd.V_alloc | apply Kd.V_drewN | apply Kd.V_drew)); exact (Kd.V_mono (Kd.V_far (p := ⟨gb442, 0, none⟩) (Kd.V_mono HO440.out (fun k_ hk => (⟨hk, hk.2⟩ : _ ∧ k_ ≠ gb442))) (fun _ hk => hk.2) (.slice Ao27 t438.length co27)) (fun _ h_ => h_.1))) gb443 (Nat.le_of_eq hg.symm)) hb); have n3_ := Aside0.mk (blk_below (g := gb436) (o := .cells #[.slice Ao20 t430.length co20] 26 (0, 0)) (by (with_reducible repeat (first | refine blk_drewN ?_ _ | refine blk_drew ?_ | refine blk_alloc ?_ _)); refine blk_far ?_ NB436_442.out _; (with_reducible repeat (first | refine blk_drewN ?_ _ | refine blk_drew ?_ | refine blk_alloc ?_ _)); exact BK436.out) hb); have n4_ := Aside0.mk (blk_below (g := gb442) (o := .cells #[.slice Ao27 t438.length co27] 26 (0, 0)) (by (with_reducible repeat (first | refine blk_drewN ?_ _ | refine blk_drew ?_ | refine blk_alloc ?_ _)); refine blk_put (cs := #[.slice none 0 0]) ?_ 0 _ rfl; (with_reducible repeat (first | refine blk_drewN ?_ _ | refine blk_drew ?_ | refine blk_alloc ?_ _)); exact BK442.out) hb); have n5_ := Aside0.mk (below_step (by repeat (first | (with_reducible first | exact HB.out | apply below_alloc | apply pw_below_drewN | apply below_drew1 | refine below_set ?_ GE436.out | refine below_set ?_ GE442.out) | exact HB.out)) hb); have n6_ := Aside0.mk (hbox); have n7_ := Aside0.mk ((by rw [hg]; exact (below_size (by repeat (first | (with_reducible first | exact HB.out | apply below_alloc | apply pw_below_drewN | apply below_drew1 | refine below_set ?_ GE436.out | refine below_set ?_ GE442.out) | exact HB.out))) : w.heap.size ≤ gb443)); have n8_ := Aside0.mk ((by rw [hg]; exact (below_size (by repeat (first | (with_reducible first | exact HB.out | apply below_alloc | apply pw_below_drewN | apply below_drew1 | refine below_set ?_ GE436.out | refine below_set ?_ GE442.out) | exact HB.out))) : w.heap.size ≤ gb443)); have n9_ := Aside0.mk ((by rw [hg]; exact Nat.ne_of_lt (blk_lt (g := gb436) (o := .cells #[.slice Ao20 t430.length co20] 26 (0, 0)) (by (with_reducible repeat (first | refine blk_drewN ?_ _ | refine blk_drew ?_ | refine blk_alloc ?_ _)); refine blk_far ?_ NB436_442.out _; (with_reducible repeat (first | refine blk_drewN ?_ _ | refine blk_drew ?_ | refine blk_alloc ?_ _)); exact BK436.out)) : gb436 ≠ gb443)); have n10_ := Aside0.mk ((by rw [hg]; exact Nat.ne_of_gt (blk_lt (g := gb436) (o := .cells #[.slice Ao20 t430.length co20] 26 (0, 0)) (by (with_reducible repeat (first | refine blk_drewN ?_ _ | refine blk_drew ?_ | refine blk_alloc ?_ _)); refine blk_far ?_ NB436_442.out _; (with_reducible repeat (first | refine blk_drewN ?_ _ | refine blk_drew ?_ | refine blk_alloc ?_ _)); exact BK436.out)) : gb443 ≠ gb436)); have n11_ := Aside0.mk ((by rw [hg]; exact Nat.ne_of_lt (blk_lt (g := gb442) (o := .cells #[.slice Ao27 t438.length co27] 26 (0, 0)) (by (with_reducible repeat (first | refine blk_drewN ?_ _ | refine blk_drew ?_ | refine blk_alloc ?_ _)); refine blk_put (cs := #[.slice none 0 0]) ?_ 0 _ rfl; (with_reducible repeat (first | refine blk_drewN ?_ _ | refine blk_drew ?_ | refine blk_alloc ?_ _)); exact BK442.out)) : gb442 ≠ gb443)); have n12_ := Aside0.mk ((by rw [hg]; exact Nat.ne_of_gt (blk_lt (g := gb442) (o := .cells #[.slice Ao27 t438.length co27] 26 (0, 0)) (by (with_reducible repeat (first | refine blk_drewN ?_ _ | refine blk_drew ?_ | refine blk_alloc ?_ _)); refine blk_put (cs := #[.slice none 0 0]) ?_ 0 _ rfl; (with_reducible repeat (first | refine blk_drewN ?_ _ | refine blk_drew ?_ | refine blk_alloc ?_ _)); exact BK442.out)) : gb443 ≠ gb442)); clear HO432; clear HO435; clear HO440; clear BK436; clear BK442; clear HB; have HO432 := n0_; have HO435 := n1_; have HO440 := n2_; have BK436 := n3_; have BK442 := n4_; have HB := n5_; have BK443 := n6_; have GW443 := n7_; have GE443 := n8_; have NB436_443 := n9_; have NB443_436 := n10_; have NB442_443 := n11_; have NB443_442 := n12_; clear n0_ n1_ n2_ n3_ n4_ n5_ n6_ n7_ n8_ n9_ n10_ n11_ n12_; clear hb hbox hg; have hnb31 := NB436_443.out; have hnc31 := NB443_436.out; have hcz32_0 : w30.cell? ⟨gb436, 0, none⟩ = some (.slice Ao20 t430.length co20) := (blk_cell BK436.out 0).trans rfl; have hfz32_0 := blk_frozen BK436.out 0; obtain ⟨Ao33, co33, eo33⟩ := Kd.R_slice HO435.out; subst eo33) | ((with_reducible refine gate_callee (f := 13) rfl ?_); refine goesL_ (some 26) rfl rfl Tryd.func13 (by kernel_rfl) rfl #[.agg #[.slice Ao20 t430.length co20], .slice Ao33 t433.length co33] rfl (by (try simp only [List.map_toArray, List.map_cons, List.map_nil]); first | done | rfl | (simp only [List.length_drop, List.length_take]; rfl)) ?_; (with_reducible refine (waypointlaw01_is.calls k _ _ t430 _ _ t433 true _ ?side5 ?side1 ?side2 ?side3 ?side4 A9.out).mono ?_); (case side1 => repeat (first | exact (Kd.V_reads' HO432.out).2.2 | (with_reducible refine Kd.C_alloc ?_ _) | (with_reducible refine Kd.C_drewN ?_ _) | (with_reducible refine Kd.C_drew ?_))); (case side2 => exact (Kd.V_reads' HO432.out).2.1); (case side3 => repeat (first | exact (Kd.R_reads' HO435.out).2.2 | (with_reducible refine Kd.C_alloc ?_ _) | (with_reducible refine Kd.C_drewN ?_ _) | (with_reducible refine Kd.C_drew ?_))); (case side4 => exact (Kd.R_reads' HO435.out).2.1); (case side5 => first | exact GLw.mono HGl.out (by repeat (first | (with_reducible first | exact HB.out | apply below_alloc | apply pw_below_drewN | apply below_drew1 | refine below_set ?_ GE436.out | refine below_set ?_ GE442.out | refine below_set ?_ GE443.out) | exact HB.out)) | (repeat first | apply GLw.drewN | apply GLw.drew); exact HGl.out); rintro e w34 ⟨rfl, hb⟩; refine ⟨_, rfl, ?_⟩; have n0_ := Aside0.mk (Kd.V_below (by (with_reducible repeat (first | apply Kd.V_alloc | apply Kd.V_drewN | apply Kd.V_drew)); exact HO432.out) hb); have n1_ := Aside0.mk (Kd.R_below (by (with_reducible repeat (first | apply Kd.R_alloc | apply Kd.R_drewN | apply Kd.R_drew)); exact HO435.out) hb); have n2_ := Aside0.mk (Kd.V_below (by (with_reducible repeat (first | apply Kd.V_alloc | apply Kd.V_drewN | apply Kd.V_drew)); exact HO440.out) hb); have n3_ := Aside0.mk (blk_below (g := gb436) (o := .cells #[.slice Ao20 t430.length co20] 26 (0, 0)) (by (with_reducible repeat (first | refine blk_drewN ?_ _ | refine blk_drew ?_ | refine blk_alloc ?_ _)); exact BK436.out) hb); have n4_ := Aside0.mk (blk_below (g := gb442) (o := .cells #[.slice Ao27 t438.length co27] 26 (0, 0)) (by (with_reducible repeat (first | refine blk_drewN ?_ _ | refine blk_drew ?_ | refine blk_alloc ?_ _)); exact BK442.out) hb); have n5_ := Aside0.mk (blk_below (g := gb443) (o := .cells #[.slice none 0 0] 26 (0, 0)) (by (with_reducible repeat (first | refine blk_drewN ?_ _ | refine blk_drew ?_ | refine blk_alloc ?_ _)); exact BK443.out) hb); have n6_ := Aside0.mk (below_step (by repeat (first | (with_reducible first | exact HB.out | apply below_alloc | apply pw_below_drewN | apply below_drew1 | refine below_set ?_ GE436.out | refine below_set ?_ GE442.out | refine below_set ?_ GE443.out) | exact HB.out)) hb); clear HO432; clear HO435; clear HO440; clear BK436; clear BK442; clear BK443; clear HB; have HO432 := n0_; have HO435 := n1_; have HO440 := n2_; have BK436 := n3_; have BK442 := n4_; have BK443 := n5_; have HB := n6_; clear n0_ n1_ n2_ n3_ n4_ n5_ n6_; (try clear hb); (try clear hb2); (try clear hk); (try clear hi); have hnb35 := NB442_443.out; have hnc35 := NB443_442.out; have hcz36_0 : w34.cell? ⟨gb442, 0, none⟩ = some (.slice Ao27 t438.length co27) := (blk_cell BK442.out 0).trans rfl; have hfz36_0 := blk_frozen BK442.out 0; have hcz37_0 : w34.cell? ⟨gb436, 0, none⟩ = some (.slice Ao20 t430.length co20) := (blk_cell BK436.out 0).trans rfl; have hfz37_0 := blk_frozen BK436.out 0) | (go_at_call 14; (with_reducible refine (nat_Cmp.calls k _ _ t438 _ _ t430 t445 _ ?side1 ?side2 ?side3 ?side4 A12.out).mono ?_); (case side1 => repeat (first | exact (Kd.V_reads' HO440.out).2.2 | (with_reducible refine Kd.C_alloc ?_ _) | (with_reducible refine Kd.C_drewN ?_ _) | (with_reducible refine Kd.C_drew ?_))); (case side2 => exact (Kd.V_reads' HO440.out).2.1); (case side3 => repeat (first | exact (Kd.V_reads' HO432.out).2.2 | (with_reducible refine Kd.C_alloc ?_ _) | (with_reducible refine Kd.C_drewN ?_ _) | (with_reducible refine Kd.C_drew ?_))); (case side4 => exact (Kd.V_reads' HO432.out).2.1); rintro e w38 ⟨rfl, hb⟩; have n0_ := Aside0.mk (Kd.V_below (by (with_reducible repeat (first | apply Kd.V_alloc | apply Kd.V_drewN | apply Kd.V_drew)); exact HO432.out) hb); have n1_ := Aside0.mk (Kd.R_below (by (with_reducible repeat (first | apply Kd.R_alloc | apply Kd.R_drewN | apply Kd.R_drew)); exact HO435.out) hb); have n2_ := Aside0.mk (Kd.V_below (by (with_reducible repeat (first | apply Kd.V_alloc | apply Kd.V_drewN | apply Kd.V_drew)); exact HO440.out) hb); have n3_ := Aside0.mk (blk_below (g := gb436) (o := .cells #[.slice Ao20 t430.length co20] 26 (0, 0)) (by (with_reducible repeat (first | refine blk_drewN ?_ _ | refine blk_drew ?_ | refine blk_alloc ?_ _)); exact BK436.out) hb); have n4_ := Aside0.mk (blk_below (g := gb442) (o := .cells #[.slice Ao27 t438.length co27] 26 (0, 0)) (by (with_reducible repeat (first | refine blk_drewN ?_ _ | refine blk_drew ?_ | refine blk_alloc ?_ _)); exact BK442.out) hb); have n5_ := Aside0.mk (blk_below (g := gb443) (o := .cells #[.slice none 0 0] 26 (0, 0)) (by (with_reducible repeat (first | refine blk_drewN ?_ _ | refine blk_drew ?_ | refine blk_alloc ?_ _)); exact BK443.out) hb); have n6_ := Aside0.mk (below_step (by repeat (first | (with_reducible first | exact HB.out | apply below_alloc | apply pw_below_drewN | apply below_drew1 | refine below_set ?_ GE436.out | refine below_set ?_ GE442.out | refine below_set ?_ GE443.out) | exact HB.out)) hb); clear HO432; clear HO435; clear HO440; clear BK436; clear BK442; clear BK443; clear HB; have HO432 := n0_; have HO435 := n1_; have HO440 := n2_; have BK436 := n3_; have BK442 := n4_; have BK443 := n5_; have HB := n6_; clear n0_ n1_ n2_ n3_ n4_ n5_ n6_; (try clear hb); (try clear hb2); (try clear hk); (try clear hi); have hcz39_0 : w38.cell? ⟨gb443, 0, none⟩ = some (.slice none 0 0) := (blk_cell BK443.out 0).trans rfl; have hfz39_0 := blk_frozen BK443.out 0) | (go_at_call 12; (refine (nat_Text.calls k (fun k_ => False) _ _ ([] : List Int) t446 _ ?side2 ?side1 A14.out).mono ?_); (case side1 => exact Kd.V_nil _ _ _ _ _); (case side2 => first | exact GLw.mono HGl.out (by repeat (first | (with_reducible first | exact HB.out | apply below_alloc | apply pw_below_drewN | apply below_drew1 | refine below_set ?_ GE436.out | refine below_set ?_ GE442.out | refine below_set ?_ GE443.out) | exact HB.out)) | (repeat first | apply GLw.drewN | apply GLw.drew); exact HGl.out); rintro e w40 ⟨rfl, hb⟩; have n0_ := Aside0.mk (Kd.V_below (by (with_reducible repeat (first | apply Kd.V_alloc | apply Kd.V_drewN | apply Kd.V_drew)); exact HO432.out) hb); have n1_ := Aside0.mk (Kd.R_below (by (with_reducible repeat (first | apply Kd.R_alloc | apply Kd.R_drewN | apply Kd.R_drew)); exact HO435.out) hb); have n2_ := Aside0.mk (Kd.V_below (by (with_reducible repeat (first | apply Kd.V_alloc | apply Kd.V_drewN | apply Kd.V_drew)); exact HO440.out) hb); have n3_ := Aside0.mk (blk_below (g := gb436) (o := .cells #[.slice Ao20 t430.length co20] 26 (0, 0)) (by (with_reducible repeat (first | refine blk_drewN ?_ _ | refine blk_drew ?_ | refine blk_alloc ?_ _)); exact BK436.out) hb); have n4_ := Aside0.mk (blk_below (g := gb442) (o := .cells #[.slice Ao27 t438.length co27] 26 (0, 0)) (by (with_reducible repeat (first | refine blk_drewN ?_ _ | refine blk_drew ?_ | refine blk_alloc ?_ _)); exact BK442.out) hb); have n5_ := Aside0.mk (blk_below (g := gb443) (o := .cells #[.slice none 0 0] 26 (0, 0)) (by (with_reducible repeat (first | refine blk_drewN ?_ _ | refine blk_drew ?_ | refine blk_alloc ?_ _)); exact BK443.out) hb); have n6_ := Aside0.mk (below_step (by repeat (first | (with_reducible first | exact HB.out | apply below_alloc | apply pw_below_drewN | apply below_drew1 | refine below_set ?_ GE436.out | refine below_set ?_ GE442.out | refine below_set ?_ GE443.out) | exact HB.out)) hb); clear HO432; clear HO435; clear HO440; clear BK436; clear BK442; clear BK443; clear HB; have HO432 := n0_; have HO435 := n1_; have HO440 := n2_; have BK436 := n3_; have BK442 := n4_; have BK443 := n5_; have HB := n6_; clear n0_ n1_ n2_ n3_ n4_ n5_ n6_; (try clear hb); (try clear hb2); (try clear hk); (try clear hi); have hcz41_0 : w40.cell? ⟨gb443, 0, none⟩ = some (.slice none 0 0) := (blk_cell BK443.out 0).trans rfl; have hfz41_0 := blk_frozen BK443.out 0) | (go_at_call 15; (refine (nat_IsZero.calls _ _ ([] : List Int) t447 _ ?side1 ?side2 A16.out).mono ?_); (case side1 => exact Kd.C_nil _ _); (case side2 => exact Nat.le_refl _); rintro e w42 ⟨rfl, hb⟩; have n0_ := Aside0.mk (Kd.V_below (by (with_reducible repeat (first | apply Kd.V_alloc | apply Kd.V_drewN | apply Kd.V_drew)); exact HO432.out) hb); have n1_ := Aside0.mk (Kd.R_below (by (with_reducible repeat (first | apply Kd.R_alloc | apply Kd.R_drewN | apply Kd.R_drew)); exact HO435.out) hb); have n2_ := Aside0.mk (Kd.V_below (by (with_reducible repeat (first | apply Kd.V_alloc | apply Kd.V_drewN | apply Kd.V_drew)); exact HO440.out) hb); have n3_ := Aside0.mk (blk_below (g := gb436) (o := .cells #[.slice Ao20 t430.length co20] 26 (0, 0)) (by (with_reducible repeat (first | refine blk_drewN ?_ _ | refine blk_drew ?_ | refine blk_alloc ?_ _)); exact BK436.out) hb); have n4_ := Aside0.mk (blk_below (g := gb442) (o := .cells #[.slice Ao27 t438.length co27] 26 (0, 0)) (by (with_reducible repeat (first | refine blk_drewN ?_ _ | refine blk_drew ?_ | refine blk_alloc ?_ _)); exact BK442.out) hb); have n5_ := Aside0.mk (blk_below (g := gb443) (o := .cells #[.slice none 0 0] 26 (0, 0)) (by (with_reducible repeat (first | refine blk_drewN ?_ _ | refine blk_drew ?_ | refine blk_alloc ?_ _)); exact BK443.out) hb); have n6_ := Aside0.mk (below_step (by repeat (first | (with_reducible first | exact HB.out | apply below_alloc | apply pw_below_drewN | apply below_drew1 | refine below_set ?_ GE436.out | refine below_set ?_ GE442.out | refine below_set ?_ GE443.out) | exact HB.out)) hb); clear HO432; clear HO435; clear HO440; clear BK436; clear BK442; clear BK443; clear HB; have HO432 := n0_; have HO435 := n1_; have HO440 := n2_; have BK436 := n3_; have BK442 := n4_; have BK443 := n5_; have HB := n6_; clear n0_ n1_ n2_ n3_ n4_ n5_ n6_; (try clear hb); (try clear hb2); (try clear hk); (try clear hi)))
              go_ret
              exact ⟨by first | rfl | (simp [errW_none, errW_some] <;> rfl) | (simp [*, errW_none, errW_some] <;> rfl), by repeat (first | (with_reducible first | exact HB.out | apply below_alloc | apply pw_below_drewN | apply below_drew1 | refine below_set ?_ GE436.out | refine below_set ?_ GE442.out | refine below_set ?_ GE443.out) | exact HB.out)⟩
            · rw [if_neg c15] at H
              exact absurd H (by simp)
          · rw [if_neg c13] at H
            exact absurd H (by simp)
        · rw [if_neg c11] at H
          exact absurd H (by simp)
      · replace c10 := Bool.eq_false_iff.mpr c10
        subst c10
        have H1 : (none) = some r := by rw [if_neg (show ¬ (false = true) by decide)] at H; exact H
        clear H
        have H := H1
        clear H1
        exact absurd H (by simp)
    · replace c5 := Bool.eq_false_iff.mpr c5
      subst c5
      have H1 : (some true) = some r := by rw [if_neg (show ¬ (false = true) by decide)] at H; exact H
      clear H
      have H := H1
      clear H1
      obtain rfl := Option.some.inj H
      go_enter Tryd.func3, Tryd.ntmps3
      go_wp2_with (first | ((with_reducible refine gate_callee (f := 8) rfl ?_); refine goesL_ (some 8) rfl rfl Tryd.func8 (by kernel_rfl) rfl #[] rfl (by (try simp only [List.map_toArray, List.map_cons, List.map_nil]); first | done | rfl | (simp only [List.length_drop, List.length_take]; rfl)) ?_; (with_reducible refine (waypointlaw01_awake.calls k  true _ ?side1 A2.out).mono ?_); (case side1 => first | exact GLw.mono HGl.out (by repeat (first | (with_reducible first | exact HB.out | apply below_alloc | apply pw_below_drewN | apply below_drew1) | exact HB.out)) | (repeat first | apply GLw.drewN | apply GLw.drew); exact HGl.out); rintro e w43 ⟨rfl, hb⟩; refine ⟨_, rfl, ?_⟩; have n0_ := Aside0.mk (below_step (by repeat (first | (with_reducible first | exact HB.out | apply below_alloc | apply pw_below_drewN | apply below_drew1) | exact HB.out)) hb); clear HB; have HB := n0_; clear n0_; (try clear hb); (try clear hb2); (try clear hk); (try clear hi)) | ((with_reducible refine gate_callee (f := 9) rfl ?_); refine goesL_ (some 11) rfl rfl Tryd.func9 (by kernel_rfl) rfl #[.slice A0 l0.length c0, .slice none 0 0] rfl (by (try simp only [List.map_toArray, List.map_cons, List.map_nil]); first | done | rfl | (simp only [List.length_drop, List.length_take]; rfl)) ?_; (refine (waypointlaw01_small.calls _ _ l0 _ _ ([] : List Int) false _ ?side1 ?side2 ?side3 ?side4 A4.out).mono ?_); (case side1 => repeat (first | exact (Kd.C_below HR0.out HB.out) | (with_reducible refine Kd.C_alloc ?_ _) | (with_reducible refine Kd.C_drewN ?_ _) | (with_reducible refine Kd.C_drew ?_))); (case side2 => exact HC0.out); (case side3 => exact Kd.C_nil _ _); (case side4 => exact Nat.le_refl _); rintro e w' ⟨rfl, ⟨nd, rfl⟩⟩; refine ⟨_, rfl, ?_⟩))
      go_ret
      exact ⟨by first | rfl | (simp [errW_none, errW_some] <;> rfl) | (simp [*, errW_none, errW_some] <;> rfl), by repeat (first | (with_reducible first | exact HB.out | apply below_alloc | apply pw_below_drewN | apply below_drew1) | exact HB.out)⟩
  · replace c3 := Bool.eq_false_iff.mpr c3
    subst c3
    have H1 : (some false) = some r := by rw [if_neg (show ¬ (false = true) by decide)] at H; exact H
    clear H
    have H := H1
    clear H1
    obtain rfl := Option.some.inj H
    go_enter Tryd.func3, Tryd.ntmps3
    go_wp2_with (first | ((with_reducible refine gate_callee (f := 8) rfl ?_); refine goesL_ (some 8) rfl rfl Tryd.func8 (by kernel_rfl) rfl #[] rfl (by (try simp only [List.map_toArray, List.map_cons, List.map_nil]); first | done | rfl | (simp only [List.length_drop, List.length_take]; rfl)) ?_; (with_reducible refine (waypointlaw01_awake.calls k  false _ ?side1 A2.out).mono ?_); (case side1 => first | exact GLw.mono HGl.out (by repeat (first | (with_reducible first | exact HB.out | apply below_alloc | apply pw_below_drewN | apply below_drew1) | exact HB.out)) | (repeat first | apply GLw.drewN | apply GLw.drew); exact HGl.out); rintro e w44 ⟨rfl, hb⟩; refine ⟨_, rfl, ?_⟩; have n0_ := Aside0.mk (below_step (by repeat (first | (with_reducible first | exact HB.out | apply below_alloc | apply pw_below_drewN | apply below_drew1) | exact HB.out)) hb); clear HB; have HB := n0_; clear n0_; (try clear hb); (try clear hb2); (try clear hk); (try clear hi)))
    go_ret
    exact ⟨by first | rfl | (simp [errW_none, errW_some] <;> rfl) | (simp [*, errW_none, errW_some] <;> rfl), by repeat (first | (with_reducible first | exact HB.out | apply below_alloc | apply pw_below_drewN | apply below_drew1) | exact HB.out)⟩
def waypointlaw01_NatText.Pure : Prop := ∀ (l0 : List Int), l0.length ≤ maxLen → l0.length * 4 ≤ 140737488351232 → (∀ x ∈ l0, (Lit.int .u32 x).wf = true) → ∃ k, waypointlaw01_NatText.f k l0 = some true
theorem waypointlaw01_NatText.walk (P : waypointlaw01_NatText.Pure) (a0 : Option Addr) (len0 cap0 : Nat) (z0 : List Int) (w : World) (hGl : GLw w) (w0 : (a0 = none ∧ len0 = 0 ∧ cap0 = 0 ∧ z0 = []) ∨ ∃ x, a0 = some x ∧ len0 ≤ cap0 ∧ cap0 ≤ maxLen ∧ z0.length = cap0 ∧ (∀ i, i < z0.length → w.cell? (x.add i) = some (.int .u32 (z0.getD i 0))) ∧ ∀ n ∈ z0, (Lit.int .u32 n).wf = true) (y0 : len0 * 4 ≤ 140737488351232) :
    Calls Tryd.prog 3 #[.slice a0 len0 cap0] w fun e w' => e = .returned (.bool true) ∧ Below w.heap.size w w' := by
  obtain ⟨l0, rfl, hr0, hm0, hw0, hc0⟩ := ReadsInt.ofRowC w0
  obtain ⟨k, h⟩ := P l0 hm0 y0 hw0
  refine (waypointlaw01_NatText.calls k _ _ l0 true w hGl (Kd.C_of_reads (d := (0 : Int)) (h1 := fun _ => rfl) hr0) hc0 h).mono ?_
  rintro e w' ⟨rfl, hd⟩
  exact ⟨rfl, hd⟩
end Go.Proofs.YtmjkhbjfacfmcaaDoor.PA
end
section
namespace Go.Proofs.YtmjkhbjfacfmcaaDoor.NM
set_option linter.unusedVariables false
set_option linter.unusedSimpArgs false
open Go Go.RowKit Go.Proofs.YtmjkhbjfacfmcaaDoorW.PrintWords
def vl (B : Int) : List Int → Int
  | [] => 0
  | d :: l => d + B * vl B l
def dg (B n : Nat) : List Int :=
  if h : 2 ≤ B ∧ 0 < n then ((n % B : Nat) : Int) :: dg B (n / B) else []
termination_by n
decreasing_by exact Nat.div_lt_self h.2 h.1
def Dig (B : Int) (l : List Int) : Prop := ∀ x ∈ l, 0 ≤ x ∧ x < B
def strip : List Int → List Int
  | [] => []
  | d :: l => if strip l = [] ∧ d = 0 then [] else d :: strip l
theorem dg_zero (B : Nat) : dg B 0 = [] := by unfold dg; simp
theorem dg_pos {B n : Nat} (hB : 2 ≤ B) (hn : 0 < n) : dg B n = ((n % B : Nat) : Int) :: dg B (n / B) := by
  rw [dg, dif_pos ⟨hB, hn⟩]
theorem dg_nil {B n : Nat} (hB : 2 ≤ B) (h : dg B n = []) : n = 0 := by
  rcases Nat.eq_zero_or_pos n with h0 | h0
  · exact h0
  · rw [dg_pos hB h0] at h; cases h
theorem vl_dg {B : Nat} (hB : 2 ≤ B) (n : Nat) : vl B (dg B n) = n := by
  induction n using Nat.strongRecOn with
  | _ n ih =>
    rcases Nat.eq_zero_or_pos n with h0 | h0
    · subst h0; rw [dg_zero]; rfl
    · rw [dg_pos hB h0, vl, ih _ (Nat.div_lt_self h0 hB)]
      have := Nat.mod_add_div n B
      omega
theorem dig_dg {B : Nat} (hB : 2 ≤ B) (n : Nat) : Dig B (dg B n) := by
  induction n using Nat.strongRecOn with
  | _ n ih =>
    rcases Nat.eq_zero_or_pos n with h0 | h0
    · subst h0; rw [dg_zero]; intro x hx; cases hx
    · rw [dg_pos hB h0]
      intro x hx
      rcases List.mem_cons.1 hx with rfl | hx
      · have := Nat.mod_lt n (show 0 < B by omega)
        omega
      · exact ih _ (Nat.div_lt_self h0 hB) x hx
theorem Dig.nil (B : Int) : Dig B [] := fun x hx => by cases hx
theorem Dig.cons {B d : Int} {l : List Int} (h0 : 0 ≤ d) (h1 : d < B) (h : Dig B l) : Dig B (d :: l) := fun x hx => by
  rcases List.mem_cons.1 hx with rfl | hx
  · exact ⟨h0, h1⟩
  · exact h x hx
theorem Dig.append {B : Int} {l r : List Int} (h : Dig B l) (k : Dig B r) : Dig B (l ++ r) := fun x hx => by
  rcases List.mem_append.1 hx with hx | hx
  · exact h x hx
  · exact k x hx
theorem Dig.left {B : Int} {l r : List Int} (h : Dig B (l ++ r)) : Dig B l := fun x hx => h x (List.mem_append_left _ hx)
theorem Dig.take {B : Int} {l : List Int} (h : Dig B l) (n : Nat) : Dig B (l.take n) := fun x hx => h x (List.mem_of_mem_take hx)
theorem Dig.drop {B : Int} {l : List Int} (h : Dig B l) (n : Nat) : Dig B (l.drop n) := fun x hx => h x (List.mem_of_mem_drop hx)
theorem Dig.get {B : Int} {l : List Int} (h : Dig B l) (i : Nat) (hi : i < l.length) : 0 ≤ l[i] ∧ l[i] < B := h _ (List.getElem_mem hi)
theorem Dig.rep {B : Int} (hB : 0 < B) (n : Nat) : Dig B (List.replicate n 0) := fun x hx => by
  rw [List.eq_of_mem_replicate hx]; omega
theorem vl_append (B : Int) (l r : List Int) : vl B (l ++ r) = vl B l + B ^ l.length * vl B r := by
  induction l with
  | nil => simp [vl]
  | cons d l ih => simp only [List.cons_append, vl, ih, List.length_cons]; rw [Int.pow_succ]; grind
theorem vl_rep (B : Int) (n : Nat) : vl B (List.replicate n 0) = 0 := by
  induction n with
  | zero => rfl
  | succ n ih => rw [List.replicate_succ, vl, ih]; omega
theorem vl_nonneg {B : Int} (hB : 0 < B) {l : List Int} (h : Dig B l) : 0 ≤ vl B l := by
  induction l with
  | nil => exact Int.le_refl _
  | cons d l ih =>
    have h1 := h d List.mem_cons_self
    have h2 := ih (fun x hx => h x (List.mem_cons_of_mem _ hx))
    have h3 := Int.mul_nonneg (Int.le_of_lt hB) h2
    simp only [vl]; omega
theorem vl_lt {B : Int} (hB : 0 < B) {l : List Int} (h : Dig B l) : vl B l < B ^ l.length := by
  induction l with
  | nil => simp [vl]
  | cons d l ih =>
    have h1 := h d List.mem_cons_self
    have h2 := ih (fun x hx => h x (List.mem_cons_of_mem _ hx))
    have h3 : B * (vl B l + 1) ≤ B * B ^ l.length := Int.mul_le_mul_of_nonneg_left (by omega) (Int.le_of_lt hB)
    simp only [vl, List.length_cons]
    rw [Int.pow_succ, Int.mul_comm (B ^ _) B]
    rw [Int.mul_add] at h3
    omega
theorem strip_dg {B : Nat} (hB : 2 ≤ B) {l : List Int} (h : Dig B l) : strip l = dg B (vl B l).toNat := by
  induction l with
  | nil => simp only [strip, vl]; exact (dg_zero B).symm
  | cons d l ih =>
    have h1 := h d List.mem_cons_self
    have hl : Dig B l := fun x hx => h x (List.mem_cons_of_mem _ hx)
    have h2 := vl_nonneg (by omega) hl
    have ih := ih hl
    obtain ⟨m, hm⟩ : ∃ m : Nat, vl B l = m := ⟨(vl B l).toNat, by omega⟩
    obtain ⟨e, he⟩ : ∃ e : Nat, d = e := ⟨d.toNat, by omega⟩
    rw [hm, Int.toNat_natCast] at ih
    simp only [strip, vl, ih, hm]
    subst he
    have hv : ((e : Int) + (B : Int) * (m : Int)).toNat = e + B * m := by
      have : ((e : Int) + (B : Int) * (m : Int)) = ((e + B * m : Nat) : Int) := by simp
      rw [this, Int.toNat_natCast]
    rw [hv]
    by_cases hz : e + B * m = 0
    · have e0 : e = 0 := by omega
      have m0 : m = 0 := by
        rcases Nat.eq_zero_or_pos m with h | h
        · exact h
        · have := Nat.mul_pos (show 0 < B by omega) h; omega
      subst e0; subst m0
      rw [if_pos ⟨dg_zero B, rfl⟩]
      simp [dg_zero]
    · rw [dg_pos (n := e + B * m) hB (by omega)]
      have hme : (e + B * m) % B = e := by rw [Nat.add_mul_mod_self_left]; exact Nat.mod_eq_of_lt (by omega)
      have hde : (e + B * m) / B = m := by rw [Nat.add_mul_div_left _ _ (by omega), Nat.div_eq_of_lt (by omega)]; omega
      rw [hme, hde, if_neg]
      rintro ⟨h3, h4⟩
      have m0 := dg_nil hB h3
      subst m0
      omega
theorem strip_snoc_zero (l : List Int) : strip (l ++ [0]) = strip l := by
  induction l with
  | nil => simp [strip]
  | cons d l ih => simp only [List.cons_append, strip, ih]
theorem strip_snoc_ne (l : List Int) {d : Int} (hd : d ≠ 0) : strip (l ++ [d]) = l ++ [d] := by
  induction l with
  | nil => simp [strip, hd]
  | cons e l ih => simp only [List.cons_append, strip, ih]; rw [if_neg]; simp
theorem dg_length {B : Nat} (hB : 2 ≤ B) {n k : Nat} (h : n < B ^ k) : (dg B n).length ≤ k := by
  induction k generalizing n with
  | zero => have : n = 0 := by simpa using h
            subst this; rw [dg_zero]; exact Nat.le_refl _
  | succ k ih =>
    rcases Nat.eq_zero_or_pos n with h0 | h0
    · subst h0; rw [dg_zero]; exact Nat.zero_le _
    · rw [dg_pos hB h0, List.length_cons]
      have := ih (n := n / B) (by rw [Nat.div_lt_iff_lt_mul (by omega)]; rw [Nat.pow_succ] at h; exact h)
      omega
theorem lt_pow_length {B : Nat} (hB : 2 ≤ B) (n : Nat) : n < B ^ (dg B n).length := by
  have h := vl_lt (B := B) (by omega) (dig_dg hB n)
  rw [vl_dg hB] at h
  have : ((B : Int) ^ (dg B n).length) = ((B ^ (dg B n).length : Nat) : Int) := by simp
  rw [this] at h
  omega
theorem rd_nat (l : List Int) (i : Nat) (h : i < l.length) : rd l (i : Int) = l[i] := by
  unfold rd; rw [Int.toNat_natCast, List.getD_eq_getElem?_getD, List.getElem?_eq_getElem h]; rfl
theorem rd_out (l : List Int) (i : Nat) (h : l.length ≤ i) : rd l (i : Int) = 0 := by
  unfold rd; rw [Int.toNat_natCast, List.getD_eq_getElem?_getD, List.getElem?_eq_none h]; rfl
theorem vl_drop (B : Int) (l : List Int) (i : Nat) (h : i < l.length) : vl B (l.drop i) = l[i] + B * vl B (l.drop (i + 1)) := by
  rw [List.drop_eq_getElem_cons h, vl]
theorem vl_set (B : Int) (l : List Int) (i : Nat) (v : Int) (h : i < l.length) : vl B (l.set i v) = vl B l + B ^ i * (v - rd l (i : Int)) := by
  induction l generalizing i with
  | nil => exact absurd h (Nat.not_lt_zero _)
  | cons d l ih =>
    cases i with
    | zero => rw [List.set_cons_zero, vl, vl, rd_nat _ 0 h]; simp only [List.getElem_cons_zero, Int.pow_zero]; omega
    | succ i =>
      have h' : i < l.length := by simpa using h
      rw [List.set_cons_succ, vl, vl, ih i h', rd_nat _ _ h, rd_nat _ _ h', List.getElem_cons_succ, Int.pow_succ]
      grind
theorem vl_take_succ (B : Int) (l : List Int) (i : Nat) : vl B (l.take (i + 1)) = vl B (l.take i) + B ^ i * rd l (i : Int) := by
  rcases Nat.lt_or_ge i l.length with h | h
  · rw [List.take_add_one, vl_append, List.getElem?_eq_getElem h, rd_nat _ _ h, List.length_take, Nat.min_eq_left (Nat.le_of_lt h)]
    simp [vl]
  · rw [List.take_of_length_le (by omega), List.take_of_length_le h, rd_out _ _ h]; simp
theorem vl_take_all (B : Int) (l : List Int) (i : Nat) (h : l.length ≤ i) : vl B (l.take i) = vl B l := by rw [List.take_of_length_le h]
theorem Dig.set {B : Int} {l : List Int} (h : Dig B l) (i : Nat) {v : Int} (h0 : 0 ≤ v) (h1 : v < B) : Dig B (l.set i v) := fun x hx => by
  rcases List.mem_or_eq_of_mem_set hx with hx | rfl
  · exact h x hx
  · exact ⟨h0, h1⟩
theorem Dig.rd {B : Int} {l : List Int} (hB : 0 < B) (h : Dig B l) (i : Nat) : 0 ≤ rd l (i : Int) ∧ rd l (i : Int) < B := by
  rcases Nat.lt_or_ge i l.length with h1 | h1
  · rw [rd_nat _ _ h1]; exact h.get i h1
  · rw [rd_out _ _ h1]; exact ⟨Int.le_refl _, hB⟩
theorem rd_set_ne (l : List Int) (i j : Nat) (v : Int) (h : i ≠ j) : rd (l.set i v) (j : Int) = rd l (j : Int) := by
  unfold rd; rw [Int.toNat_natCast, List.getD_eq_getElem?_getD, List.getD_eq_getElem?_getD, List.getElem?_set_ne h]
theorem rd_set_eq (l : List Int) (i : Nat) (v : Int) (h : i < l.length) : rd (l.set i v) (i : Int) = v := by
  rw [rd_nat _ _ (by simpa using h)]; simp
theorem rd_rep (n i : Nat) : rd (List.replicate n 0) (i : Int) = 0 := by
  rcases Nat.lt_or_ge i n with h | h
  · rw [rd_nat _ _ (by simpa using h)]; simp
  · rw [rd_out _ _ (by simpa using h)]
theorem strip_take_succ (l : List Int) (j : Nat) (h : j < l.length) : strip (l.take (j + 1)) = if rd l (j : Int) = 0 then strip (l.take j) else l.take (j + 1) := by
  have e : l.take (j + 1) = l.take j ++ [rd l (j : Int)] := by rw [List.take_add_one, List.getElem?_eq_getElem h, rd_nat _ _ h]; rfl
  rw [e]
  split
  · rename_i h0; rw [h0, strip_snoc_zero]
  · rename_i h0; rw [strip_snoc_ne _ h0]
theorem pow_cast (B n : Nat) : ((B : Int) ^ n) = ((B ^ n : Nat) : Int) := by simp
theorem alg_add {v P B A C c a b x y s : Int} (hs : a + b + c = s) (e : s = x + B * y) (hv : v + P * c = A + C) : v + P * (x - 0) + P * B * y = A + P * a + (C + P * b) := by
  subst e
  have : x = a + b + c - B * y := by omega
  subst this
  grind
theorem alg_mul {v P Q B V A C c q x y s T : Int} (hs : A * C + q + c = s) (e : s = x + B * y) (hv : v + P * Q * c = V + P * A * T) :
    v + P * Q * (x - q) + P * Q * B * y = V + P * A * (T + Q * C) := by
  have : x = A * C + q + c - B * y := by omega
  subst this
  grind
def Hold (p : Prop) : Prop := p
theorem w64 {x : Int} (h0 : -9223372036854775808 ≤ x) (h1 : x ≤ 9223372036854775807) : wrap64 x = x := by unfold wrap64; omega
theorem wsucc (i : Nat) (h : i < 1152921504606846976) : wrap64 ((i : Int) + 1) = ((i + 1 : Nat) : Int) := by unfold wrap64; omega
theorem wpred (i : Nat) (h : i < 1152921504606846976) : wrap64 (((i + 1 : Nat) : Int) - 1) = (i : Int) := by unfold wrap64; omega
theorem wadd (i j : Nat) (h : i + j < 1152921504606846976) : wrap64 ((i : Int) + (j : Int)) = ((i + j : Nat) : Int) := by unfold wrap64; omega
theorem wsub (i j : Nat) (h : i < 1152921504606846976) (hj : j ≤ i) : wrap64 ((i : Int) - (j : Int)) = ((i - j : Nat) : Int) := by unfold wrap64; omega
theorem wsub1 (i : Nat) (h : i < 1152921504606846976) (hj : 1 ≤ i) : wrap64 ((i : Int) - 1) = ((i - 1 : Nat) : Int) := by unfold wrap64; omega
theorem wu64 {x : Int} (h0 : 0 ≤ x) (h1 : x < 18446744073709551616) : IntKind.u64.wrap x = x := by rw [IntKind.wrap_u64]; omega
end Go.Proofs.YtmjkhbjfacfmcaaDoor.NM
end
section
namespace Go.Proofs.YtmjkhbjfacfmcaaDoor.NV
set_option linter.unusedVariables false
set_option linter.unusedSimpArgs false
open Go Go.RowKit Go.Proofs.YtmjkhbjfacfmcaaDoor.PA Go.Proofs.YtmjkhbjfacfmcaaDoor.NM Go.Proofs.YtmjkhbjfacfmcaaDoorW.PrintWords Go.Proofs.YtmjkhbjfacfmcaaDoorW.PrintLast
theorem strip32 {l : List Int} (h : Dig 4294967296 l) : strip l = dg 4294967296 (vl 4294967296 l).toNat := strip_dg (B := 4294967296) (by omega) h
theorem vl32 (n : Nat) : vl 4294967296 (dg 4294967296 n) = (n : Int) := vl_dg (B := 4294967296) (by omega) n
theorem dig32 (n : Nat) : Dig 4294967296 (dg 4294967296 n) := dig_dg (B := 4294967296) (by omega) n
theorem norm_loop (l : List Int) (hl : l.length ≤ 1099511627776) : ∀ j, j ≤ l.length → Ev (fun k => nat_norm.l0 k l (j : Int)) (strip (l.take j)) := by
  intro j
  induction j with
  | zero =>
    intro _
    refine Ev.step (f := fun _ => some []) (fun k => ?_) (Ev.now _)
    show nat_norm.l0 (k + 1) l ((0 : Nat) : Int) = _
    rw [nat_norm.l0, if_neg (by omega), if_pos (by omega), if_pos (by omega)]
    rfl
  | succ j ih =>
    intro hj
    have hj' : j < l.length := by omega
    have hs := strip_take_succ l j hj'
    by_cases h0 : rd l (j : Int) = 0
    · rw [hs, if_pos h0]
      refine Ev.step (f := fun k => nat_norm.l0 k l (j : Int)) (fun k => ?_) (ih (by omega))
      rw [nat_norm.l0, wpred j (by omega), if_pos (by omega), if_pos (by omega), if_pos (by omega), if_pos h0]
    · rw [hs, if_neg h0]
      refine Ev.step (f := fun k => some (l.take (j + 1))) (fun k => ?_) (Ev.now _)
      rw [nat_norm.l0, wpred j (by omega), if_pos (by omega), if_pos (by omega), if_pos (by omega), if_neg h0, if_pos (by omega), if_pos (by omega), Int.toNat_natCast]
theorem norm_ev {l : List Int} (hl : l.length ≤ 1099511627776) (hd : Dig 4294967296 l) : Ev (fun k => nat_norm.f k l) (dg 4294967296 (vl 4294967296 l).toNat) := by
  have h := norm_loop l hl l.length (Nat.le_refl _)
  rw [List.take_of_length_le (Nat.le_refl _), strip32 hd] at h
  exact h
theorem norm_nat {l : List Int} {n : Nat} (hl : l.length ≤ 1099511627776) (hd : Dig 4294967296 l) (hn : vl 4294967296 l = n) : Ev (fun k => nat_norm.f k l) (dg 4294967296 n) := by
  have h := norm_ev hl hd
  rw [hn, Int.toNat_natCast] at h
  exact h
theorem Of_ev (n : Nat) (h : n < 18446744073709551616) : Ev (fun k => nat_Of.f k (n : Int)) (dg 4294967296 n) := by
  have hd : Dig 4294967296 [(n : Int) % 4294967296, ((n : Int) / 4294967296) % 4294967296] := by
    refine Dig.cons (by omega) (by omega) (Dig.cons (by omega) (by omega) (Dig.nil _))
  have hv : vl 4294967296 [(n : Int) % 4294967296, ((n : Int) / 4294967296) % 4294967296] = (n : Int) := by
    simp only [vl]; omega
  have := norm_nat (by simp) hd hv
  refine Ev.bind (f := fun _ t => some t) this (Ev.now _)
theorem digit_eq (l : List Int) (i : Nat) : nat_digit.f l (i : Int) = some (rd l (i : Int)) := by
  unfold nat_digit.f
  split
  · rw [if_pos (by omega)]
  · rw [rd_out _ _ (by omega)]
theorem Add32_eq (a b c : Int) (ha : 0 ≤ a ∧ a < 4294967296) (hb : 0 ≤ b ∧ b < 4294967296) (hc : 0 ≤ c ∧ c ≤ 1) :
    bits_Add32.f a b c = some ((a + b + c) % 4294967296, (a + b + c) / 4294967296) := by
  unfold bits_Add32.f
  rw [wu64 ha.1 (by omega), wu64 hb.1 (by omega), wu64 hc.1 (by omega), wu64 (x := a + b) (by omega) (by omega), wu64 (x := a + b + c) (by omega) (by omega)]
  have : (a + b + c) / 4294967296 % 4294967296 = (a + b + c) / 4294967296 := by omega
  rw [this]
theorem Add_loop (l r : List Int) (n : Nat) (hn : n ≤ 1099511627776) (hl : Dig 4294967296 l) (hr : Dig 4294967296 r) (hln : l.length < n) (hrn : r.length < n) : ∀ m i (o : List Int) (c : Int), m + i = n → o.length = n → Dig 4294967296 o → 0 ≤ c → c ≤ 1 →
    (∀ p, i ≤ p → rd o (p : Int) = 0) → Hold (vl 4294967296 o + 4294967296 ^ i * c = vl 4294967296 (l.take i) + vl 4294967296 (r.take i)) → (i = n → c = 0) →
    Ev (fun k => nat_Add.l0 k o c (n : Int) (i : Int) l r) (dg 4294967296 (vl 4294967296 l + vl 4294967296 r).toNat) := by
  intro m
  induction m with
  | zero =>
    intro i o c hi ho hd hc0 hc1 hz hv hcn
    have hi' : i = n := by omega
    unfold Hold at hv
    rw [hcn hi', vl_take_all _ _ _ (by omega), vl_take_all _ _ _ (by omega)] at hv
    have hv' : vl 4294967296 o = vl 4294967296 l + vl 4294967296 r := by omega
    have h := norm_ev (by omega) hd
    rw [hv'] at h
    refine Ev.step (f := fun k => (nat_norm.f k o).bind fun t => some t) (fun k => ?_) (Ev.bind (f := fun _ t => some t) h (Ev.now _))
    rw [nat_Add.l0, if_neg (by omega)]
  | succ m ih =>
    intro i o c hi ho hd hc0 hc1 hz hv hcn
    have h1 := hl.rd (by omega) i
    have h2 := hr.rd (by omega) i
    refine Ev.step (f := fun k => nat_Add.l0 k (o.set i ((rd l (i : Int) + rd r (i : Int) + c) % 4294967296)) ((rd l (i : Int) + rd r (i : Int) + c) / 4294967296) (n : Int) ((i + 1 : Nat) : Int) l r) (fun k => ?_) ?_
    · rw [nat_Add.l0, if_pos (by omega), digit_eq, digit_eq, Option.bind_some, Option.bind_some, Add32_eq _ _ _ h1 h2 ⟨hc0, hc1⟩, Option.bind_some, if_pos (by omega), if_pos (by omega), wsucc i (by omega), Int.toNat_natCast]
    · refine ih (i + 1) _ _ (by omega) (by simpa using ho) (hd.set i (by omega) (by omega)) (by omega) (by omega) ?_ ?_ ?_
      · intro p hp
        rw [rd_set_ne _ _ _ _ (by omega)]
        exact hz p (by omega)
      · unfold Hold at hv ⊢
        rw [vl_set _ _ _ _ (by omega), hz i (Nat.le_refl _), vl_take_succ, vl_take_succ, Int.pow_succ]
        exact alg_add rfl (by omega) hv
      · clear hv
        intro hin
        have hil : l.length ≤ i := by omega
        have hir : r.length ≤ i := by omega
        rw [rd_out _ _ hil, rd_out _ _ hir]
        omega
theorem Add_ev {l r : List Int} (hl : Dig 4294967296 l) (hr : Dig 4294967296 r) (hln : l.length < 1099511627776) (hrn : r.length < 1099511627776) : Ev (fun k => nat_Add.f k l r) (dg 4294967296 (vl 4294967296 l + vl 4294967296 r).toNat) := by
  obtain ⟨n, hn, h1, h2, h3⟩ : ∃ n : Nat, wrap64 ((mx (l.length : Int) (r.length : Int)) + 1) = (n : Int) ∧ l.length < n ∧ r.length < n ∧ n ≤ 1099511627776 := by
    refine ⟨max l.length r.length + 1, ?_, by omega, by omega, by omega⟩
    unfold mx
    split <;> (rw [w64 (by omega) (by omega)]; omega)
  refine Ev.congr (f := fun k => nat_Add.l0 k (List.replicate n 0) 0 (n : Int) (0 : Nat) l r) (fun k => ?_) ?_
  · unfold nat_Add.f
    rw [hn, if_pos (by omega), if_pos (by omega), Option.bind_some, Int.toNat_natCast, List.length_replicate]
    rfl
  · refine Add_loop l r n h3 hl hr h1 h2 n 0 _ _ (by omega) (by simp) (Dig.rep (by omega) _) (by omega) (by omega) (fun p _ => rd_rep _ _) ?_ (by omega)
    unfold Hold
    rw [vl_rep]; simp [vl]
theorem Add_nat (a b : Nat) (ha : (dg 4294967296 a).length < 1099511627776) (hb : (dg 4294967296 b).length < 1099511627776) : Ev (fun k => nat_Add.f k (dg 4294967296 a) (dg 4294967296 b)) (dg 4294967296 (a + b)) := by
  have h := Add_ev (dig32 a) (dig32 b) ha hb
  rw [vl32, vl32] at h
  have e : ((a : Int) + (b : Int)).toNat = a + b := by omega
  rw [e] at h
  exact h
theorem Mul_inner (a b : List Int) (i : Nat) (hi : i < a.length) (ha : Dig 4294967296 a) (hb : Dig 4294967296 b) (hn : a.length + b.length ≤ 1099511627776) (V R : Int) (r : List Int → List Int)
    (K : ∀ o : List Int, o.length = a.length + b.length → Dig 4294967296 o → (∀ p, i + 1 + b.length ≤ p → rd o (p : Int) = 0) → Hold (vl 4294967296 o = V + 4294967296 ^ i * rd a (i : Int) * vl 4294967296 b) →
      Ev (fun k => nat_Mul.l0 k o a (a.length : Int) ((i + 1 : Nat) : Int) b) (r b)) :
    ∀ m j (o : List Int) (c : Int), m + j = b.length → o.length = a.length + b.length → Dig 4294967296 o → 0 ≤ c → c < 4294967296 → (∀ p, i + b.length ≤ p → rd o (p : Int) = 0) →
    Hold (vl 4294967296 o + 4294967296 ^ (i + j) * c = V + 4294967296 ^ i * rd a (i : Int) * vl 4294967296 (b.take j)) →
    Ev (fun k => nat_Mul.l1 k o (i : Int) (rd a (i : Int)) c a (a.length : Int) (i : Int) b (b.length : Int) (j : Int) b) (r b) := by
  intro m
  have hx := ha.rd (by omega) i
  induction m with
  | zero =>
    intro j o c hj ho hd hc0 hc1 hz hv
    have hj' : j = b.length := by omega
    subst hj'
    have hc : c % 4294967296 = c := Int.emod_eq_of_lt hc0 hc1
    refine Ev.step (f := fun k => nat_Mul.l0 k (o.set (i + b.length) c) a (a.length : Int) ((i + 1 : Nat) : Int) b) (fun k => ?_) ?_
    · rw [nat_Mul.l1, if_neg (by omega), wadd i b.length (by omega), if_pos (by omega), if_pos (by omega), wsucc i (by omega), Int.toNat_natCast, hc]
    · refine K _ (by simpa using ho) (hd.set _ hc0 hc1) ?_ ?_
      · intro p hp
        rw [rd_set_ne _ _ _ _ (by omega)]
        exact hz p (by omega)
      · unfold Hold at hv ⊢
        rw [vl_set _ _ _ _ (by omega), hz _ (Nat.le_refl _), ← vl_take_all _ b b.length (Nat.le_refl _), ← hv]
        simp
  | succ m ih =>
    intro j o c hj ho hd hc0 hc1 hz hv
    have hy := hb.rd (by omega) j
    have hq := hd.rd (by omega) (i + j)
    have hxy0 : 0 ≤ rd a (i : Int) * rd b (j : Int) := Int.mul_nonneg hx.1 hy.1
    have hxy1 : rd a (i : Int) * rd b (j : Int) ≤ 4294967295 * 4294967295 := Int.mul_le_mul (by omega) (by omega) hy.1 (by omega)
    obtain ⟨s, hs⟩ : ∃ s, rd a (i : Int) * rd b (j : Int) + rd o ((i + j : Nat) : Int) + c = s := ⟨_, rfl⟩
    refine Ev.step (f := fun k => nat_Mul.l1 k (o.set (i + j) (s % 4294967296)) (i : Int) (rd a (i : Int)) (s / 4294967296) a (a.length : Int) (i : Int) b (b.length : Int) ((j + 1 : Nat) : Int) b) (fun k => ?_) ?_
    · rw [nat_Mul.l1, if_pos (by omega), if_pos (by omega), if_pos (by omega), wadd i j (by omega), if_pos (by omega), if_pos (by omega), wsucc j (by omega), Int.toNat_natCast]
      rw [wu64 (x := rd a (i : Int)) (by omega) (by omega), wu64 (x := rd b (j : Int)) (by omega) (by omega), wu64 (x := rd o ((i + j : Nat) : Int)) (by omega) (by omega), wu64 (x := rd a (i : Int) * rd b (j : Int)) (by omega) (by omega), wu64 (x := rd a (i : Int) * rd b (j : Int) + _) (by omega) (by omega), wu64 (by omega) (by omega), hs]
    · refine ih (j + 1) _ _ (by omega) (by simpa using ho) (hd.set _ (by omega) (by omega)) (by omega) (by omega) ?_ ?_
      · intro p hp
        rw [rd_set_ne _ _ _ _ (by omega)]
        exact hz p (by omega)
      · unfold Hold at hv ⊢
        rw [vl_set _ _ _ _ (by omega), vl_take_succ, ← Nat.add_assoc, Int.pow_succ]
        rw [Int.pow_add] at hv ⊢
        exact alg_mul hs (by omega) hv
theorem Mul_loop (a b : List Int) (ha : Dig 4294967296 a) (hb : Dig 4294967296 b) (hn : a.length + b.length ≤ 1099511627776) : ∀ m i (o : List Int), m + i = a.length → o.length = a.length + b.length → Dig 4294967296 o → (∀ p, i + b.length ≤ p → rd o (p : Int) = 0) →
    Hold (vl 4294967296 o = vl 4294967296 (a.take i) * vl 4294967296 b) → Ev (fun k => nat_Mul.l0 k o a (a.length : Int) (i : Int) b) (dg 4294967296 (vl 4294967296 a * vl 4294967296 b).toNat) := by
  intro m
  induction m with
  | zero =>
    intro i o hi ho hd hz hv
    have hi' : i = a.length := by omega
    subst hi'
    unfold Hold at hv
    rw [vl_take_all _ _ _ (Nat.le_refl _)] at hv
    have h := norm_ev (by omega) hd
    rw [hv] at h
    refine Ev.step (f := fun k => (nat_norm.f k o).bind fun t => some t) (fun k => ?_) (Ev.bind (f := fun _ t => some t) h (Ev.now _))
    rw [nat_Mul.l0, if_neg (by omega)]
  | succ m ih =>
    intro i o hi ho hd hz hv
    refine Ev.step (f := fun k => nat_Mul.l1 k o (i : Int) (rd a (i : Int)) 0 a (a.length : Int) (i : Int) b (b.length : Int) ((0 : Nat) : Int) b) (fun k => ?_) ?_
    · rw [nat_Mul.l0, if_pos (by omega), if_pos (by omega), if_pos (by omega)]; rfl
    · refine Mul_inner a b i (by omega) ha hb hn (vl 4294967296 o) 0 (fun b => dg 4294967296 (vl 4294967296 a * vl 4294967296 b).toNat) ?_ b.length 0 o 0 (by omega) ho hd (by omega) (by omega) hz ?_
      · intro o2 ho2 hd2 hz2 hv2
        refine ih (i + 1) o2 (by omega) ho2 hd2 hz2 ?_
        unfold Hold at hv hv2 ⊢
        rw [hv2, hv, vl_take_succ]; grind
      · unfold Hold; simp [vl]
theorem Mul_ev {a b : List Int} (ha : Dig 4294967296 a) (hb : Dig 4294967296 b) (hn : a.length + b.length ≤ 1099511627776) : Ev (fun k => nat_Mul.f k a b) (dg 4294967296 (vl 4294967296 a * vl 4294967296 b).toNat) := by
  refine Ev.congr (f := fun k => nat_Mul.l0 k (List.replicate (a.length + b.length) 0) a (a.length : Int) ((0 : Nat) : Int) b) (fun k => ?_) ?_
  · unfold nat_Mul.f
    rw [wadd a.length b.length (by omega), if_pos (by omega), if_pos (by omega), Int.toNat_natCast]
    rfl
  · refine Mul_loop a b ha hb hn a.length 0 _ (by omega) (by simp) (Dig.rep (by omega) _) (fun p _ => rd_rep _ _) ?_
    unfold Hold; rw [vl_rep]; simp [vl]
theorem Mul_nat (a b : Nat) (h : (dg 4294967296 a).length + (dg 4294967296 b).length ≤ 1099511627776) : Ev (fun k => nat_Mul.f k (dg 4294967296 a) (dg 4294967296 b)) (dg 4294967296 (a * b)) := by
  have h := Mul_ev (dig32 a) (dig32 b) h
  rw [vl32, vl32] at h
  have e : ((a : Int) * (b : Int)).toNat = a * b := by rw [← Int.natCast_mul, Int.toNat_natCast]
  rw [e] at h
  exact h
end Go.Proofs.YtmjkhbjfacfmcaaDoor.NV
end
section
namespace Go.Proofs.YtmjkhbjfacfmcaaDoor.NT
set_option linter.unusedVariables false
set_option linter.unusedSimpArgs false
open Go Go.RowKit Go.Proofs.YtmjkhbjfacfmcaaDoor.NM Go.Proofs.YtmjkhbjfacfmcaaDoorW.PrintWords
theorem strip_append {l r : List Int} (h : strip r = r) (hr : r ≠ []) : strip (l ++ r) = l ++ r := by
  induction l with
  | nil => exact h
  | cons d l ih =>
    simp only [List.cons_append, strip, ih]
    rw [if_neg]
    rintro ⟨h1, _⟩
    exact hr (List.append_eq_nil_iff.1 h1).2
theorem strip_of_dg {B : Nat} (hB : 2 ≤ B) (n : Nat) : strip (dg B n) = dg B n := by
  rw [strip_dg hB (dig_dg hB n), vl_dg hB, Int.toNat_natCast]
theorem dg_ne_nil {B n : Nat} (hB : 2 ≤ B) (hn : 0 < n) : dg B n ≠ [] := fun h => by have := dg_nil hB h; omega
theorem dg_split {B : Nat} (hB : 2 ≤ B) {r q k : Nat} (hq : 0 < q) (hr : r < B ^ k) : dg B (r + B ^ k * q) = dg B r ++ List.replicate (k - (dg B r).length) 0 ++ dg B q := by
  have hl := dg_length hB hr
  have hd : Dig B (dg B r ++ List.replicate (k - (dg B r).length) 0 ++ dg B q) := Dig.append (Dig.append (dig_dg hB r) (Dig.rep (by omega) _)) (dig_dg hB q)
  have h := strip_dg hB hd
  rw [strip_append (strip_of_dg hB q) (dg_ne_nil hB hq)] at h
  rw [h]
  congr 1
  rw [vl_append, vl_append, vl_rep, vl_dg hB, vl_dg hB, List.length_append, List.length_replicate, Nat.add_sub_cancel' hl, pow_cast]
  simp only [Int.mul_zero, Int.add_zero]
  rw [show (r : Int) + ((B : Int) ^ k) * (q : Int) = ((r + B ^ k * q : Nat) : Int) by simp, Int.toNat_natCast]
def chars (l : List Int) : List UInt8 := l.map fun d => UInt8.ofNat (48 + d.toNat)
def dec (n : Nat) : List UInt8 := (chars (dg 10 n)).reverse
def txt (n : Nat) : List UInt8 := Lib.decDigits n
theorem dec_zero : dec 0 = [] := by unfold dec; rw [dg_zero]; rfl
theorem dec_step (n : Nat) (h : 0 < n) : dec n = dec (n / 10) ++ [UInt8.ofNat (48 + n % 10)] := by
  unfold dec
  rw [dg_pos (by omega) h]
  simp only [chars, List.map_cons, List.reverse_cons, Int.toNat_natCast]
theorem txt_zero : txt 0 = [48] := by unfold txt; rw [Lib.decDigits]; rfl
theorem txt_pos (n : Nat) (h : 0 < n) : txt n = dec n := by
  induction n using Nat.strongRecOn with
  | _ n ih =>
    unfold txt
    rw [Lib.decDigits]
    split
    · rename_i h1
      rw [dec_step n h, Nat.div_eq_of_lt h1, dec_zero, Nat.mod_eq_of_lt h1]
      rfl
    · rw [dec_step n h, ← ih (n / 10) (by omega) (by omega)]
      rfl
theorem chars_append (l r : List Int) : chars (l ++ r) = chars l ++ chars r := by simp [chars]
theorem chars_rep (n : Nat) : chars (List.replicate n 0) = List.replicate n 48 := by simp [chars]
theorem dec_length (n : Nat) : (dec n).length = (dg 10 n).length := by simp [dec, chars]
theorem dec_le {n k : Nat} (h : n < 10 ^ k) : (dec n).length ≤ k := by rw [dec_length]; exact dg_length (by omega) h
theorem dec_split {r q k : Nat} (hq : 0 < q) (hr : r < 10 ^ k) : dec (r + 10 ^ k * q) = dec q ++ (List.replicate (k - (dec r).length) 48 ++ dec r) := by
  rw [dec_length]
  unfold dec
  rw [dg_split (by omega) hq hr, chars_append, chars_append, chars_rep, List.reverse_append, List.reverse_append]
  simp
theorem txt_le {n k : Nat} (hk : 1 ≤ k) (h : n < 10 ^ k) : 1 ≤ (txt n).length ∧ (txt n).length ≤ k := by
  rcases Nat.eq_zero_or_pos n with h0 | h0
  · subst h0; rw [txt_zero]; exact ⟨Nat.le_refl _, hk⟩
  · rw [txt_pos n h0]
    refine ⟨?_, dec_le h⟩
    rw [dec_step n h0]; simp
theorem pad_txt (r k : Nat) (hk : 1 ≤ k) (h : r < 10 ^ k) : List.replicate (k - (txt r).length) 48 ++ txt r = List.replicate (k - (dec r).length) 48 ++ dec r := by
  rcases Nat.eq_zero_or_pos r with h0 | h0
  · subst h0
    rw [txt_zero, dec_zero]
    show List.replicate (k - 1) (48 : UInt8) ++ [48] = List.replicate (k - 0) 48 ++ []
    rw [List.append_nil, ← List.replicate_succ', Nat.sub_add_cancel hk, Nat.sub_zero]
  · rw [txt_pos r h0]
theorem rep_one (c n : Nat) : Lib.repeatL [UInt8.ofNat c] n = List.replicate n (UInt8.ofNat c) := by
  have := Lib.repeatL_replicate (UInt8.ofNat c) 1 n
  simpa using this
def dval (c : UInt8) : Nat := c.toNat - 48
def pv (a : Nat) (l : List UInt8) : Nat := l.foldl (fun a c => a * 10 + dval c) a
theorem pv_nil (a : Nat) : pv a [] = a := rfl
theorem pv_cons (a : Nat) (c : UInt8) (l : List UInt8) : pv a (c :: l) = pv (a * 10 + dval c) l := by unfold pv; rw [List.foldl_cons]
def Digits (l : List UInt8) : Prop := ∀ c ∈ l, 48 ≤ c.toNat ∧ c.toNat ≤ 57
theorem pv_append (a : Nat) (l r : List UInt8) : pv a (l ++ r) = pv (pv a l) r := by
  exact List.foldl_append
theorem pv_acc (a : Nat) (l : List UInt8) : pv a l = a * 10 ^ l.length + pv 0 l := by
  induction l generalizing a with
  | nil => simp [pv_nil]
  | cons c l ih =>
    rw [pv_cons, ih, pv_cons, ih (0 * 10 + _), List.length_cons, Nat.pow_succ]
    grind
theorem pv_lt {l : List UInt8} (h : Digits l) : pv 0 l < 10 ^ l.length := by
  induction l with
  | nil => simp [pv_nil]
  | cons c l ih =>
    have h1 := h c List.mem_cons_self
    have hv : dval c = c.toNat - 48 := rfl
    have h2 := ih (fun x hx => h x (List.mem_cons_of_mem _ hx))
    rw [pv_cons, pv_acc, List.length_cons, Nat.pow_succ]
    have h3 : (0 * 10 + dval c) * 10 ^ l.length ≤ 9 * 10 ^ l.length := Nat.mul_le_mul_right _ (by omega)
    omega
theorem Digits.left {l r : List UInt8} (h : Digits (l ++ r)) : Digits l := fun x hx => h x (List.mem_append_left _ hx)
theorem Digits.append {l r : List UInt8} (h : Digits l) (k : Digits r) : Digits (l ++ r) := fun x hx => by
  rcases List.mem_append.1 hx with hx | hx
  · exact h x hx
  · exact k x hx
theorem Digits.take {l : List UInt8} (h : Digits l) (n : Nat) : Digits (l.take n) := fun x hx => h x (List.mem_of_mem_take hx)
theorem Digits.drop {l : List UInt8} (h : Digits l) (n : Nat) : Digits (l.drop n) := fun x hx => h x (List.mem_of_mem_drop hx)
theorem digit_toNat {d : Nat} (h : d < 10) : (UInt8.ofNat (48 + d)).toNat = 48 + d := by
  rw [UInt8.toNat_ofNat']; omega
theorem digits_dec (n : Nat) : Digits (dec n) := by
  induction n using Nat.strongRecOn with
  | _ n ih =>
    rcases Nat.eq_zero_or_pos n with h0 | h0
    · subst h0; rw [dec_zero]; intro x hx; cases hx
    · rw [dec_step n h0]
      refine Digits.append (ih _ (by omega)) ?_
      intro x hx
      rw [List.mem_singleton.1 hx, digit_toNat (by omega)]
      omega
theorem digits_txt (n : Nat) : Digits (txt n) := by
  rcases Nat.eq_zero_or_pos n with h0 | h0
  · subst h0; rw [txt_zero]; intro x hx; rw [List.mem_singleton.1 hx]; exact ⟨by decide, by decide⟩
  · rw [txt_pos n h0]; exact digits_dec n
theorem pv_dec (n : Nat) : pv 0 (dec n) = n := by
  induction n using Nat.strongRecOn with
  | _ n ih =>
    rcases Nat.eq_zero_or_pos n with h0 | h0
    · subst h0; rw [dec_zero]; rfl
    · rw [dec_step n h0, pv_append, ih _ (by omega)]
      rw [pv_cons, pv_nil]; unfold dval; rw [digit_toNat (by omega)]
      omega
theorem pv_txt (n : Nat) : pv 0 (txt n) = n := by
  rcases Nat.eq_zero_or_pos n with h0 | h0
  · subst h0; rw [txt_zero]; rfl
  · rw [txt_pos n h0]; exact pv_dec n
theorem dec_head (n : Nat) (h : 0 < n) : ∃ c l, dec n = c :: l ∧ c.toNat ≠ 48 := by
  induction n using Nat.strongRecOn with
  | _ n ih =>
    rw [dec_step n h]
    rcases Nat.eq_zero_or_pos (n / 10) with h0 | h0
    · rw [h0, dec_zero]
      refine ⟨_, [], rfl, ?_⟩
      rw [digit_toNat (by omega)]
      omega
    · obtain ⟨c, l, e, hc⟩ := ih _ (by omega) h0
      rw [e]
      exact ⟨c, _, rfl, hc⟩
theorem txt_pv {l : List UInt8} (h : Digits l) (h0 : l ≠ []) (h1 : ∀ c r, l = c :: r → c.toNat = 48 → r = []) : txt (pv 0 l) = l := by
  have key : ∀ n, ∀ l : List UInt8, l.length = n → Digits l → l ≠ [] → (∀ c r, l = c :: r → c.toNat ≠ 48) → 0 < pv 0 l ∧ dec (pv 0 l) = l := by
    intro n
    induction n with
    | zero => intro l hl _ h0 _; exact absurd (List.length_eq_zero_iff.1 hl) h0
    | succ n ih =>
      intro l hl h h0 h1
      obtain ⟨r, c, rfl⟩ : ∃ r c, l = r ++ [c] := ⟨l.dropLast, l.getLast h0, (List.dropLast_concat_getLast h0).symm⟩
      have hc := h c (by simp)
      have hv : dval c = c.toNat - 48 := rfl
      have hp : pv 0 (r ++ [c]) = pv 0 r * 10 + dval c := by rw [pv_append]; rfl
      have hcc : UInt8.ofNat (48 + dval c) = c := by rw [hv, Nat.add_sub_cancel' hc.1]; simp
      by_cases hr : r = []
      · subst hr
        have hne := h1 c [] rfl
        have hpos : 0 < pv 0 ([] ++ [c]) := by rw [hp]; rw [pv_nil]; have : dval c = c.toNat - 48 := rfl; omega
        refine ⟨hpos, ?_⟩
        rw [dec_step _ hpos, hp]
        rw [pv_nil]
        have e1 : (0 * 10 + dval c) / 10 = 0 := by omega
        have e2 : (0 * 10 + dval c) % 10 = dval c := by omega
        rw [e1, e2, dec_zero, hcc]
      · obtain ⟨i1, i2⟩ := ih r (by simpa using hl) h.left hr (fun c' r' e => h1 c' (r' ++ [c]) (by rw [e]; rfl))
        have hpos : 0 < pv 0 (r ++ [c]) := by omega
        refine ⟨hpos, ?_⟩
        rw [dec_step _ hpos, hp]
        have e1 : (pv 0 r * 10 + dval c) / 10 = pv 0 r := by omega
        have e2 : (pv 0 r * 10 + dval c) % 10 = dval c := by omega
        rw [e1, e2, i2, hcc]
  cases l with
  | nil => exact absurd rfl h0
  | cons c r =>
    by_cases hc : c.toNat = 48
    · have := h1 c r rfl hc
      subst this
      have : c = 48 := by rw [← UInt8.toNat_inj]; exact hc
      subst this
      exact txt_zero
    · obtain ⟨i1, i2⟩ := key _ (c :: r) rfl h h0 (fun c' r' e => by injection e with e1 e2; rw [← e1]; exact hc)
      rw [txt_pos _ i1, i2]
theorem parse10 (a : Nat) (l : List UInt8) (h : Digits l) (hb : pv a l < 1000000000000000000) : Lib.parseUint10 a l = .ok (pv a l) := by
  induction l generalizing a with
  | nil => rfl
  | cons c l ih =>
    have h1 := h c List.mem_cons_self
    have h2 : a * 10 + dval c ≤ pv (a * 10 + dval c) l := by
      rw [pv_acc]
      have := Nat.mul_le_mul_left (a * 10 + dval c) (Nat.one_le_pow l.length 10 (by omega))
      omega
    rw [pv_cons] at hb
    rw [Lib.parseUint10, if_pos h1, show c.toNat - 48 = dval c from rfl, if_neg (by omega), if_neg (by omega), ih _ (fun x hx => h x (List.mem_cons_of_mem _ hx)) hb]
    rfl
theorem atoi_digits {l : List UInt8} (h : Digits l) (h0 : l ≠ []) (hl : l.length ≤ 18) : Lib.atoiAll l = .ok (pv 0 l : Int) := by
  have hlt : pv 0 l < 1000000000000000000 := Nat.lt_of_lt_of_le (pv_lt h) (Nat.pow_le_pow_right (n := 10) (by omega) hl)
  cases l with
  | nil => exact absurd rfl h0
  | cons c r =>
    have h1 := h c List.mem_cons_self
    have hm : Lib.parseMag (c :: r) = .ok (pv 0 (c :: r)) := by
      unfold Lib.parseMag
      rw [if_neg (by simp), parse10 0 _ h hlt]
    unfold Lib.atoiAll
    have e : ¬ (c.toNat = 43 ∨ c.toNat = 45) := by omega
    simp only [if_neg e, hm]
    rw [if_neg (by omega), if_neg (by omega), if_neg (by omega)]
theorem ten_mem (c : UInt8) : ([48, 49, 50, 51, 52, 53, 54, 55, 56, 57] : List UInt8).contains c = true ↔ 48 ≤ c.toNat ∧ c.toNat ≤ 57 := by
  revert c
  have : ∀ n : Fin 256, (([48, 49, 50, 51, 52, 53, 54, 55, 56, 57] : List UInt8).contains (UInt8.ofNat n.val) = true ↔ 48 ≤ n.val ∧ n.val ≤ 57) := by decide +kernel
  intro c
  have h := this ⟨c.toNat, c.toNat_lt⟩
  simpa using h
theorem dropWhile_nil {p : UInt8 → Bool} {l : List UInt8} : l.dropWhile p = [] ↔ ∀ c ∈ l, p c = true := by
  induction l with
  | nil => simp
  | cons c l ih =>
    rw [List.dropWhile_cons]
    split
    · rename_i h; rw [ih]; simp [h]
    · rename_i h; simp [h]
theorem trim_nil (l : List UInt8) : Lib.trimS l [48, 49, 50, 51, 52, 53, 54, 55, 56, 57] = [] ↔ Digits l := by
  have hp : ∀ r : List UInt8, (∀ c ∈ r, ([48, 49, 50, 51, 52, 53, 54, 55, 56, 57] : List UInt8).contains c = true) ↔ Digits r := fun r => ⟨fun h c hc => (ten_mem c).1 (h c hc), fun h c hc => (ten_mem c).2 (h c hc)⟩
  unfold Lib.trimS Lib.trimLeftS Lib.trimRightS
  rw [dropWhile_nil]
  constructor
  · intro h
    by_cases hd : Digits l
    · exact hd
    · exfalso
      have h2 : ¬ (∀ c ∈ l.reverse, ([48, 49, 50, 51, 52, 53, 54, 55, 56, 57] : List UInt8).contains c = true) := fun hh => hd ((hp l).1 fun c hc => hh c (List.mem_reverse.2 hc))
      rw [← dropWhile_nil] at h2
      obtain ⟨c, r, e⟩ := List.exists_cons_of_ne_nil h2
      have h3 := h c (by rw [e]; simp)
      have h4 := List.head_dropWhile_not (p := fun x => ([48, 49, 50, 51, 52, 53, 54, 55, 56, 57] : List UInt8).contains x) (l := l.reverse) h2
      have h5 : (l.reverse.dropWhile (fun x => ([48, 49, 50, 51, 52, 53, 54, 55, 56, 57] : List UInt8).contains x)).head h2 = c := by
        have : ∀ (t : List UInt8) (ht : t ≠ []), t = c :: r → t.head ht = c := by intro t ht et; subst et; rfl
        exact this _ _ e
      rw [h5, h3] at h4
      cases h4
  · intro h c hc
    rw [List.mem_reverse] at hc
    exact (hp l).2 h c (List.mem_reverse.1 (List.dropWhile_sublist _ |>.mem hc))
end Go.Proofs.YtmjkhbjfacfmcaaDoor.NT
end
section
namespace Go.Proofs.YtmjkhbjfacfmcaaDoor.NV
set_option linter.unusedVariables false
set_option linter.unusedSimpArgs false
open Go Go.RowKit Go.Proofs.YtmjkhbjfacfmcaaDoor Go.Proofs.YtmjkhbjfacfmcaaDoor.PA Go.Proofs.YtmjkhbjfacfmcaaDoor.NM Go.Proofs.YtmjkhbjfacfmcaaDoor.NT Go.Proofs.YtmjkhbjfacfmcaaDoorW.PrintWords Go.Proofs.YtmjkhbjfacfmcaaDoorW.PrintLast
theorem IsZero_nat (n : Nat) : nat_IsZero.f (dg 4294967296 n) = some (decide (n = 0)) := by
  unfold nat_IsZero.f
  rcases Nat.eq_zero_or_pos n with h | h
  · subst h; rw [dg_zero]; rfl
  · rw [dg_pos (by omega) h, List.length_cons]
    have h1 : ¬ n = 0 := by omega
    have h2 : ((((dg 4294967296 (n / 4294967296)).length + 1 : Nat) : Int) == 0) = false := by rw [beq_eq_false_iff_ne]; omega
    rw [h2, decide_eq_false h1]
theorem alg_short {v by' P c V A D q x : Int} (hv : v * by' + P * 4294967296 * c = V - (A + P * D)) (e : c * 4294967296 + D = by' * q + x) : (v + P * (q - 0)) * by' + P * x = V - A := by
  have : x = c * 4294967296 + D - by' * q := by omega
  subst this
  grind
theorem short_loop (d : List Int) (y : Int) (hd : Dig 4294967296 d) (hl : d.length ≤ 1099511627776) (y0 : 0 < y) (y1 : y < 4294967296) : ∀ (j : Nat) (o : List Int) (c e : Int), e = (j : Int) - 1 → j ≤ d.length → o.length = d.length → Dig 4294967296 o → 0 ≤ c → c < y →
    (∀ p, p < j → rd o (p : Int) = 0) → Hold (vl 4294967296 o * y + 4294967296 ^ j * c = vl 4294967296 d - vl 4294967296 (d.take j)) →
    ∃ q, q.length = d.length ∧ Dig 4294967296 q ∧ vl 4294967296 q = vl 4294967296 d / y ∧ Ev (fun k => nat_short.l0 k d y o c e) (q, vl 4294967296 d % y) := by
  intro j
  induction j with
  | zero =>
    intro o c e he hj ho hdo c0 c1 hz hv
    subst he
    unfold Hold at hv
    simp only [List.take_zero, vl, Int.pow_zero, Int.one_mul, Int.sub_zero] at hv
    have hq : vl 4294967296 d / y = vl 4294967296 o := by
      rw [← hv, Int.add_comm, Int.add_mul_ediv_right _ _ (by omega), Int.ediv_eq_zero_of_lt c0 c1]; omega
    have hr : vl 4294967296 d % y = c := by
      rw [← hv, Int.add_comm, Int.add_mul_emod_self_right, Int.emod_eq_of_lt c0 c1]
    refine ⟨o, ho, hdo, hq.symm, ?_⟩
    rw [hr]
    refine Ev.step (f := fun _ => some (o, c)) (fun k => ?_) (Ev.now _)
    rw [nat_short.l0, if_neg (by omega)]
  | succ j ih =>
    intro o c e he hj ho hdo c0 c1 hz hv
    have he' : e = (j : Int) := by omega
    subst he'
    have hx := hd.rd (by omega) j
    obtain ⟨t, ht⟩ : ∃ t, c * 4294967296 + rd d (j : Int) = t := ⟨_, rfl⟩
    have t0 : 0 ≤ t := by omega
    have q0 : 0 ≤ t / y := Int.ediv_nonneg t0 (by omega)
    have q1 : t / y < 4294967296 := Int.ediv_lt_of_lt_mul (by omega) (by omega)
    have m0 : 0 ≤ t % y := Int.emod_nonneg _ (by omega)
    have m1 : t % y < y := Int.emod_lt_of_pos t y0
    have ew : ((j : Int)) - 1 = (j : Int) - 1 := rfl
    obtain ⟨q, h1, h2, h3, h4⟩ := ih (o.set j (t / y)) (t % y) ((j : Int) - 1) rfl (by omega) (by simpa using ho) (hdo.set j q0 q1) m0 m1
      (fun p hp => by rw [rd_set_ne _ _ _ _ (by omega)]; exact hz p (by omega)) (by
        unfold Hold at hv ⊢
        rw [vl_set _ _ _ _ (by omega), hz j (by omega)]
        rw [vl_take_succ, Int.pow_succ] at hv
        exact alg_short hv (by rw [ht]; exact (Int.mul_ediv_add_emod t y).symm))
    refine ⟨q, h1, h2, h3, ?_⟩
    refine Ev.step (f := fun k => nat_short.l0 k d y (o.set j (t / y)) (t % y) ((j : Int) - 1)) (fun k => ?_) h4
    have hw : wrap64 ((j : Int) - 1) = (j : Int) - 1 := w64 (by omega) (by omega)
    have hb : bits_Div32.f c (rd d (j : Int)) y = some (t / y, t % y) := by
      unfold bits_Div32.f
      rw [if_pos ⟨c0, c1, y1, hx.1, hx.2⟩, ht]
    rw [nat_short.l0, if_pos (by omega), if_pos (by omega), if_pos (by omega), hb, Option.bind_some, if_pos (by omega), hw, Int.toNat_natCast]
theorem short_nat (n m : Nat) (hl : (dg 4294967296 n).length ≤ 1099511627776) (h0 : 0 < m) (h1 : m < 4294967296) :
    ∃ q, q.length = (dg 4294967296 n).length ∧ Dig 4294967296 q ∧ vl 4294967296 q = ((n / m : Nat) : Int) ∧ Ev (fun k => nat_short.f k (dg 4294967296 n) (m : Int)) (q, ((n % m : Nat) : Int)) := by
  obtain ⟨q, a, b, c, d⟩ := short_loop (dg 4294967296 n) m (dig32 n) hl (by omega) (by omega) (dg 4294967296 n).length (List.replicate (dg 4294967296 n).length 0) 0 _ rfl (Nat.le_refl _) (by simp) (Dig.rep (by omega) _) (by omega) (by omega) (fun p _ => rd_rep _ _)
    (by unfold Hold; rw [vl_rep, vl_take_all _ _ _ (Nat.le_refl _)]; omega)
  rw [vl32] at c d
  refine ⟨q, a, b, c, ?_⟩
  refine Ev.congr (f := fun k => nat_short.l0 k (dg 4294967296 n) m (List.replicate (dg 4294967296 n).length 0) 0 (((dg 4294967296 n).length : Int) - 1)) (fun k => ?_) d
  unfold nat_short.f
  have hw : wrap64 (((dg 4294967296 n).length : Int) - 1) = ((dg 4294967296 n).length : Int) - 1 := w64 (by omega) (by omega)
  rw [if_pos (by omega), if_pos (by omega), hw, Int.toNat_natCast]
theorem itoa_nat (n : Nat) (h : n < 9223372036854775808) : strconv_Itoa.f (n : Int) = some ⟨(txt n).toArray⟩ := by
  unfold strconv_Itoa.f
  rw [if_pos (by omega), Lib.itoa_nonneg]
  rfl
theorem repeat_nat (n : Nat) (h : n ≤ 1000000) : strings_Repeat.f (⟨#[48]⟩ : ByteArray) (n : Int) = some ⟨(List.replicate n (48 : UInt8)).toArray⟩ := by
  unfold strings_Repeat.f
  rw [if_pos ⟨by omega, by omega, by rw [Int.toNat_natCast]; show 1 * n ≤ _; omega⟩, Int.toNat_natCast]
  exact congrArg (fun l : List UInt8 => some (⟨l.toArray⟩ : ByteArray)) (rep_one 48 n)
theorem len_mul_lt {n : Nat} (h : (dg 4294967296 n).length ≤ 1000000000000) : (dg 4294967296 (n / 1000000000)).length ≤ 1000000000000 := by
  refine Nat.le_trans (dg_length (by omega) (k := (dg 4294967296 n).length) ?_) h
  exact Nat.lt_of_le_of_lt (Nat.div_le_self _ _) (lt_pow_length (by omega) n)
theorem size_mk (l : List UInt8) : (⟨l.toArray⟩ : ByteArray).size = l.length := by simp [ByteArray.size]
theorem mk_append (l r : List UInt8) : (⟨l.toArray⟩ : ByteArray) ++ ⟨r.toArray⟩ = ⟨(l ++ r).toArray⟩ := by
  apply ByteArray.ext
  simp
theorem revcat_snoc (l : List ByteArray) (s : ByteArray) : revcat (l ++ [s]) = s.data.toList ++ revcat l := by simp [revcat]
theorem txt_len_pos (n : Nat) : 1 ≤ (txt n).length := by
  rcases Nat.eq_zero_or_pos n with h0 | h0
  · subst h0; rw [txt_zero]; exact Nat.le_refl _
  · rw [txt_pos n h0, dec_step n h0]; simp
theorem Text_loop : ∀ (n : Nat) (ps : List ByteArray), (dg 4294967296 n).length ≤ 1000000000000 → ps.length + (dg 1000000000 n).length ≤ 8000000000000 → (revcat ps).length + (dec n).length ≤ 100000000000000 →
    Ev (fun k => nat_Text.l0 k ps (dg 4294967296 n)) ⟨(dec n ++ revcat ps).toArray⟩ := by
  intro n
  induction n using Nat.strongRecOn with
  | _ n ih =>
    intro ps hl hp hr
    rcases Nat.eq_zero_or_pos n with h0 | h0
    · subst h0
      refine Ev.step (f := fun _ => some ⟨(revcat ps).toArray⟩) (fun k => ?_) ?_
      · rw [nat_Text.l0, IsZero_nat, Option.bind_some, if_pos (show decide (0 = 0) = true from rfl)]
        unfold joinrev.f
        rw [if_pos (by omega), Option.bind_some]
      · rw [dec_zero]; exact Ev.now _
    · obtain ⟨q, q1, q2, q3, q4⟩ := short_nat n 1000000000 (by omega) (by omega) (by omega)
      have hnq := norm_nat (by omega) q2 q3
      have hz : decide (n = 0) ≠ true := by simp; omega
      have hpl : ps.length < 8796093022208 := by omega
      have hdg : (dg 1000000000 n).length = (dg 1000000000 (n / 1000000000)).length + 1 := by rw [dg_pos (by omega) h0, List.length_cons]
      have hlq : (dg 4294967296 (n / 1000000000)).length ≤ 1000000000000 := len_mul_lt hl
      have hlt : n % 1000000000 < 1000000000 := Nat.mod_lt _ (by omega)
      obtain ⟨htl0, htl⟩ := txt_le (k := 9) (by omega) (show n % 1000000000 < 10 ^ 9 from hlt)
      have hit : strconv_Itoa.f (wrap64 ((n % 1000000000 : Nat) : Int)) = some ⟨(txt (n % 1000000000)).toArray⟩ := by
        rw [w64 (by omega) (by omega)]; exact itoa_nat _ (by omega)
      obtain ⟨s, hs1, hs2, hs3⟩ : ∃ s : ByteArray, (dec n = dec (n / 1000000000) ++ s.data.toList) ∧ (s.size ≤ 9) ∧ (∀ m, ∀ X : Option ByteArray, (if decide (n / 1000000000 = 0) = true then (if ps.length < 8796093022208 then (nat_Text.l0 m (ps ++ [⟨(txt (n % 1000000000)).toArray⟩]) (dg 4294967296 (n / 1000000000))) else (none)) else ((strings_Repeat.f (⟨#[48]⟩ : ByteArray) (wrap64 (9 - ((⟨(txt (n % 1000000000)).toArray⟩ : ByteArray).size : Int)))).bind fun t191 => (if t191.size + (⟨(txt (n % 1000000000)).toArray⟩ : ByteArray).size ≤ 9223372036854775807 then (if ps.length < 8796093022208 then (nat_Text.l0 m (ps ++ [t191 ++ ⟨(txt (n % 1000000000)).toArray⟩]) (dg 4294967296 (n / 1000000000))) else (none)) else (none)))) = X → nat_Text.l0 m (ps ++ [s]) (dg 4294967296 (n / 1000000000)) = X) := by
        rcases Nat.eq_zero_or_pos (n / 1000000000) with h9 | h9
        · have hn9 : n % 1000000000 = n := by omega
          refine ⟨⟨(txt (n % 1000000000)).toArray⟩, ?_, by rw [size_mk]; exact htl, fun m X hX => ?_⟩
          · rw [h9, dec_zero, hn9, txt_pos n h0]; rfl
          · rw [if_pos (decide_eq_true h9), if_pos hpl] at hX; exact hX
        · refine ⟨⟨(List.replicate (9 - (txt (n % 1000000000)).length) 48 ++ txt (n % 1000000000)).toArray⟩, ?_, by rw [size_mk, List.length_append, List.length_replicate]; omega, fun m X hX => ?_⟩
          · have hn : n = n % 1000000000 + 10 ^ 9 * (n / 1000000000) := (Nat.mod_add_div n 1000000000).symm
            have h := dec_split h9 (show n % 1000000000 < 10 ^ 9 from hlt)
            rw [← hn] at h
            rw [h, pad_txt _ 9 (by omega) hlt]
          · have hd9 : ¬ (decide (n / 1000000000 = 0) = true) := by simp; omega
            have hw : wrap64 (9 - ((txt (n % 1000000000)).length : Int)) = ((9 - (txt (n % 1000000000)).length : Nat) : Int) := by rw [w64 (by omega) (by omega)]; omega
            rw [if_neg hd9, size_mk, hw, repeat_nat _ (by omega), Option.bind_some, size_mk, List.length_replicate, if_pos (by clear hw; omega), if_pos hpl, mk_append] at hX
            exact hX
      have hrs : (revcat (ps ++ [s])).length = s.data.toList.length + (revcat ps).length := by rw [revcat_snoc, List.length_append]
      have hdl : (dec n).length = (dec (n / 1000000000)).length + s.data.toList.length := by rw [hs1, List.length_append]
      have hih := ih (n / 1000000000) (by omega) (ps ++ [s]) hlq (by rw [List.length_append, List.length_singleton]; omega) (by omega)
      rw [revcat_snoc, ← List.append_assoc, ← hs1] at hih
      obtain ⟨K1, e1⟩ := q4
      obtain ⟨K2, e2⟩ := hnq
      obtain ⟨K3, e3⟩ := hih
      refine ⟨max K1 (max K2 K3) + 1, fun k hk => ?_⟩
      have hk1 : K1 ≤ k - 1 := by omega
      have hk2 : K2 ≤ k - 1 := by omega
      have hk3 : K3 ≤ k - 1 := by omega
      obtain ⟨m, rfl⟩ : ∃ m, k = m + 1 := ⟨k - 1, by omega⟩
      have e1 := e1 m hk1
      have e2 := e2 m hk2
      have e3 := e3 m hk3
      dsimp only at e1 e2 e3
      show nat_Text.l0 (m + 1) ps (dg 4294967296 n) = _
      rw [nat_Text.l0, IsZero_nat, Option.bind_some, if_neg hz]
      rw [show (1000000000 : Int) = ((1000000000 : Nat) : Int) from rfl, e1, Option.bind_some, e2, Option.bind_some]
      simp only []
      rw [hit, Option.bind_some, IsZero_nat, Option.bind_some, ← e3]
      exact (hs3 m _ rfl).symm
theorem Text_nat (n : Nat) (hl : (dg 4294967296 n).length ≤ 1000000000000) (hl2 : (dg 1000000000 n).length ≤ 8000000000000) (hl3 : (dec n).length ≤ 100000000000000) : Ev (fun k => nat_Text.f k (dg 4294967296 n)) ⟨(txt n).toArray⟩ := by
  rcases Nat.eq_zero_or_pos n with h0 | h0
  · subst h0
    refine Ev.congr (f := fun _ => some ⟨#[48]⟩) (fun k => ?_) ?_
    · unfold nat_Text.f; rw [IsZero_nat, Option.bind_some, if_pos (show decide (0 = 0) = true from rfl)]
    · rw [txt_zero]; exact Ev.now _
  · have hz : ¬ (decide (n = 0) = true) := by simp; omega
    have h := Text_loop n [] hl (by simpa using hl2) (by simpa [revcat] using hl3)
    refine Ev.congr (f := fun k => nat_Text.l0 k [] (dg 4294967296 n)) (fun k => ?_) ?_
    · unfold nat_Text.f; rw [IsZero_nat, Option.bind_some, if_neg hz]
    · rw [txt_pos n h0]
      have e : dec n ++ revcat [] = dec n := by simp [revcat]
      rw [e] at h
      exact h
end Go.Proofs.YtmjkhbjfacfmcaaDoor.NV
end
section
namespace Go.Proofs.YtmjkhbjfacfmcaaDoor.NV
set_option linter.unusedVariables false
set_option linter.unusedSimpArgs false
open Go Go.RowKit Go.Proofs.YtmjkhbjfacfmcaaDoor Go.Proofs.YtmjkhbjfacfmcaaDoor.PA Go.Proofs.YtmjkhbjfacfmcaaDoor.NM Go.Proofs.YtmjkhbjfacfmcaaDoor.NT Go.Proofs.YtmjkhbjfacfmcaaDoorW.PrintWords Go.Proofs.YtmjkhbjfacfmcaaDoorW.PrintLast
def cmp (a b : Int) : Int := if a < b then -1 else if a = b then 0 else 1
theorem vl_parts (B : Int) (l : List Int) (j : Nat) (h : j < l.length) : vl B l = vl B (l.take j) + B ^ j * (rd l (j : Int) + B * vl B (l.drop (j + 1))) := by
  have e : l = l.take j ++ l.drop j := (List.take_append_drop j l).symm
  rw [e, vl_append, List.length_take, Nat.min_eq_left (Nat.le_of_lt h), vl_drop _ _ _ h, ← e, rd_nat _ _ h]
theorem vl_less {B : Int} (hB : 0 < B) {l r : List Int} (hl : Dig B l) (hr : Dig B r) (j : Nat) (h1 : j < l.length) (h2 : j < r.length) (hd : l.drop (j + 1) = r.drop (j + 1)) (hlt : rd l (j : Int) < rd r (j : Int)) : vl B l < vl B r := by
  rw [vl_parts B l j h1, vl_parts B r j h2, hd]
  have a1 := vl_lt hB (hl.take j)
  have a2 := vl_nonneg hB (hr.take j)
  rw [List.length_take, Nat.min_eq_left (Nat.le_of_lt h1)] at a1
  have hp : 0 < B ^ j := Int.pow_pos hB
  have h3 : B ^ j * (rd l (j : Int) + 1) ≤ B ^ j * rd r (j : Int) := Int.mul_le_mul_of_nonneg_left (by omega) (Int.le_of_lt hp)
  generalize B ^ j = P at *
  rw [Int.mul_add, Int.mul_one] at h3
  rw [Int.mul_add, Int.mul_add]
  omega
theorem cmp_lt {a b : Int} (h : a < b) : cmp a b = -1 := by unfold cmp; rw [if_pos h]
theorem cmp_gt {a b : Int} (h : b < a) : cmp a b = 1 := by unfold cmp; rw [if_neg (by omega), if_neg (by omega)]
theorem Cmp_loop (l r : List Int) (hl : Dig 4294967296 l) (hr : Dig 4294967296 r) (hlr : l.length = r.length) (hn : l.length ≤ 1099511627776) : ∀ (j : Nat) (e : Int), e = (j : Int) - 1 → j ≤ l.length → l.drop j = r.drop j →
    Ev (fun k => nat_Cmp.l0 k e l r) (cmp (vl 4294967296 l) (vl 4294967296 r)) := by
  intro j
  induction j with
  | zero =>
    intro e he _ hd
    simp only [List.drop_zero] at hd
    subst hd
    have hc : cmp (vl 4294967296 l) (vl 4294967296 l) = 0 := by unfold cmp; rw [if_neg (by omega), if_pos rfl]
    rw [hc]
    refine Ev.step (f := fun _ => some 0) (fun k => ?_) (Ev.now _)
    rw [nat_Cmp.l0, if_neg (by omega)]
  | succ j ih =>
    intro e he hj hd
    have he' : e = (j : Int) := by omega
    subst he'
    by_cases hx : rd l (j : Int) = rd r (j : Int)
    · have hd' : l.drop j = r.drop j := by
        rw [List.drop_eq_getElem_cons (show j < l.length by omega), List.drop_eq_getElem_cons (show j < r.length by omega), hd, ← rd_nat l j (by omega), ← rd_nat r j (by omega), hx]
      refine Ev.step (f := fun k => nat_Cmp.l0 k ((j : Int) - 1) l r) (fun k => ?_) (ih _ rfl (by omega) hd')
      have hw : wrap64 ((j : Int) - 1) = (j : Int) - 1 := w64 (by omega) (by omega)
      rw [nat_Cmp.l0, if_pos (by omega), if_pos (by omega), if_pos (by omega), if_pos (by omega), if_pos hx, hw]
    · rcases Int.lt_or_gt_of_ne hx with h | h
      · rw [cmp_lt (vl_less (by omega) hl hr j (by omega) (by omega) hd h)]
        refine Ev.step (f := fun _ => some (-1)) (fun k => ?_) (Ev.now _)
        rw [nat_Cmp.l0, if_pos (by omega), if_pos (by omega), if_pos (by omega), if_pos (by omega), if_neg hx, if_pos h]
      · rw [cmp_gt (vl_less (by omega) hr hl j (by omega) (by omega) hd.symm h)]
        refine Ev.step (f := fun _ => some 1) (fun k => ?_) (Ev.now _)
        rw [nat_Cmp.l0, if_pos (by omega), if_pos (by omega), if_pos (by omega), if_pos (by omega), if_neg hx, if_neg (by omega)]
theorem len_lt_of {B : Nat} (hB : 2 ≤ B) {a b : Nat} (h : (dg B a).length < (dg B b).length) : a < b := by
  rcases Nat.lt_or_ge a b with h1 | h1
  · exact h1
  · exfalso
    have := dg_length hB (Nat.lt_of_le_of_lt h1 (lt_pow_length hB a))
    omega
theorem Cmp_nat (a b : Nat) (ha : (dg 4294967296 a).length ≤ 1099511627776) : Ev (fun k => nat_Cmp.f k (dg 4294967296 a) (dg 4294967296 b)) (cmp a b) := by
  rcases Nat.lt_trichotomy (dg 4294967296 a).length (dg 4294967296 b).length with h | h | h
  · have hab := len_lt_of (by omega) h
    rw [cmp_lt (by omega)]
    refine Ev.congr (f := fun _ => some (-1)) (fun k => ?_) (Ev.now _)
    unfold nat_Cmp.f
    rw [if_neg (by omega), if_pos (by omega)]
  · have hw : wrap64 (((dg 4294967296 a).length : Int) - 1) = ((dg 4294967296 a).length : Int) - 1 := w64 (by omega) (by omega)
    have hc := Cmp_loop _ _ (dig32 a) (dig32 b) h ha (dg 4294967296 a).length _ rfl (Nat.le_refl _) (by rw [List.drop_length, h, List.drop_length])
    rw [vl32, vl32] at hc
    refine Ev.congr (fun k => ?_) hc
    unfold nat_Cmp.f
    rw [if_pos (by omega), hw]
  · have hab := len_lt_of (by omega) h
    rw [cmp_gt (by omega)]
    refine Ev.congr (f := fun _ => some 1) (fun k => ?_) (Ev.now _)
    unfold nat_Cmp.f
    rw [if_neg (by omega), if_neg (by omega)]
theorem grow_len {a n : Nat} (hn : n < 1000000000) : (dg 4294967296 (a * 1000000000 + n)).length ≤ (dg 4294967296 a).length + 1 := by
  refine dg_length (by omega) ?_
  have h := lt_pow_length (B := 4294967296) (by omega) a
  rw [Nat.pow_succ]
  generalize 4294967296 ^ (dg 4294967296 a).length = P at *
  omega
theorem atoi_nat {l : List UInt8} (h : Digits l) (h0 : l ≠ []) (hl : l.length ≤ 9) : strconv_Atoi.f ⟨l.toArray⟩ = some (((pv 0 l : Nat) : Int), none) := by
  unfold strconv_Atoi.f
  rw [size_mk, if_pos (by omega)]
  show (match Lib.atoiAll l with | .ok v => some (v, none) | _ => none) = _
  rw [atoi_digits h h0 (by omega)]
theorem pv_two (a : Nat) (l r : List UInt8) : a * 10 ^ (l ++ r).length + pv 0 (l ++ r) = (a * 10 ^ l.length + pv 0 l) * 10 ^ r.length + pv 0 r := by
  rw [← pv_acc a (l ++ r), ← pv_acc a l, pv_append, pv_acc (pv a l) r]
theorem Parse_loop : ∀ (n : Nat) (l : List UInt8) (a : Nat), l.length = n → Digits l → (l.length % 9 = 0 ∨ a = 0) → (dg 4294967296 a).length + l.length ≤ 1000000 →
    Ev (fun k => nat_Parse.l0 k ⟨l.toArray⟩ (dg 4294967296 a)) (dg 4294967296 (a * 10 ^ l.length + pv 0 l), 0) := by
  intro n
  induction n using Nat.strongRecOn with
  | _ n ih =>
    intro l a hn hd hm hb
    rcases Nat.eq_zero_or_pos n with h0 | h0
    · have hl : l = [] := List.length_eq_zero_iff.1 (by omega)
      subst hl
      have e : a * 10 ^ ([] : List UInt8).length + pv 0 [] = a := by simp [pv_nil]
      rw [e]
      refine Ev.step (f := fun _ => some (dg 4294967296 a, 0)) (fun k => ?_) (Ev.now _)
      rw [nat_Parse.l0, size_mk, if_neg (by simp)]
    · obtain ⟨c, hc⟩ : ∃ c, (l.length - 1) % 9 + 1 = c := ⟨_, rfl⟩
      have hc1 : 1 ≤ c := by omega
      have hc9 : c ≤ 9 := by omega
      have hcl : c ≤ l.length := by omega
      have hw : wrap64 ((Int.tmod (wrap64 ((l.length : Int) - 1)) 9) + 1) = (c : Int) := by
        rw [wsub1 l.length (by omega) (by omega), Int.tmod_eq_emod_of_nonneg (by omega), w64 (by omega) (by omega)]
        omega
      have hlt : (l.take c).length = c := by rw [List.length_take]; omega
      have hld : (l.drop c).length = l.length - c := List.length_drop
      have hdt := hd.take c
      have hpv := pv_lt hdt
      rw [hlt] at hpv
      have hpv9 : pv 0 (l.take c) < 1000000000 := Nat.lt_of_lt_of_le hpv (Nat.pow_le_pow_right (n := 10) (j := 9) (by omega) hc9)
      clear hpv
      have hat := atoi_nat hdt (by intro h; rw [h] at hlt; simp at hlt; omega) (by omega)
      have hmul : (dg 4294967296 a).length + (dg 4294967296 1000000000).length ≤ 1099511627776 := by
        have : (dg 4294967296 1000000000).length ≤ 1 := dg_length (by omega) (by omega)
        omega
      have e1 := Of_ev 1000000000 (by omega)
      have e2 := Mul_nat a 1000000000 hmul
      have e3 := Of_ev (pv 0 (l.take c)) (by omega)
      have hlm : (dg 4294967296 (a * 1000000000)).length ≤ (dg 4294967296 a).length + 1 := by have := @grow_len a 0 (by omega); rwa [Nat.add_zero] at this
      have hln : (dg 4294967296 (a * 1000000000 + pv 0 (l.take c))).length ≤ (dg 4294967296 a).length + 1 := grow_len hpv9
      have hlp : (dg 4294967296 (pv 0 (l.take c))).length ≤ 1 := dg_length (by omega) (by omega)
      have e4 := Add_nat (a * 1000000000) (pv 0 (l.take c)) (by omega) (by omega)
      have e5 := ih (l.length - c) (by omega) (l.drop c) (a * 1000000000 + pv 0 (l.take c)) hld (hd.drop c) (by left; rw [hld]; omega) (by rw [hld]; omega)
      have hval : (a * 1000000000 + pv 0 (l.take c)) * 10 ^ (l.drop c).length + pv 0 (l.drop c) = a * 10 ^ l.length + pv 0 l := by
        have h2 := pv_two a (l.take c) (l.drop c)
        rw [List.take_append_drop, hlt] at h2
        rw [h2]
        rcases hm with hm | hm
        · have : c = 9 := by omega
          subst this
          rfl
        · subst hm; simp
      rw [hval] at e5
      obtain ⟨K1, e1⟩ := e1
      obtain ⟨K2, e2⟩ := e2
      obtain ⟨K3, e3⟩ := e3
      obtain ⟨K4, e4⟩ := e4
      obtain ⟨K5, e5⟩ := e5
      clear hval hw
      refine ⟨K1 + K2 + K3 + K4 + K5 + 1, fun k hk => ?_⟩
      obtain ⟨m, rfl⟩ : ∃ m, k = m + 1 := ⟨k - 1, by omega⟩
      have e1 := e1 m (by omega)
      have e2 := e2 m (by omega)
      have e3 := e3 m (by omega)
      have e4 := e4 m (by omega)
      have e5 := e5 m (by omega)
      dsimp only at e1 e2 e3 e4 e5
      have hw : wrap64 ((Int.tmod (wrap64 ((l.length : Int) - 1)) 9) + 1) = (c : Int) := by
        rw [wsub1 l.length (by omega) (by omega), Int.tmod_eq_emod_of_nonneg (by omega), w64 (by omega) (by omega)]
        omega
      have hwu : IntKind.u64.wrap ((pv 0 (l.take c) : Nat) : Int) = ((pv 0 (l.take c) : Nat) : Int) := wu64 (by omega) (by clear hw; omega)
      show nat_Parse.l0 (m + 1) ⟨l.toArray⟩ (dg 4294967296 a) = _
      rw [nat_Parse.l0, size_mk, hw]
      clear hw
      rw [if_pos (by omega), if_pos (by omega), if_pos (by omega), Int.toNat_natCast, Lib.extract_mk, Lib.extract_mk, List.drop_zero, Nat.sub_zero, hat, Option.bind_some, show (1000000000 : Int) = ((1000000000 : Nat) : Int) from rfl, e1, Option.bind_some, e2, Option.bind_some, hwu, e3, Option.bind_some, e4, Option.bind_some]
      rw [List.take_of_length_le (by rw [hld]; exact Nat.le_refl _)]
      exact e5
theorem bt_zero (c : UInt8) (l : List UInt8) : bt ⟨(c :: l).toArray⟩ 0 = (c.toNat : Int) := by
  unfold bt
  rw [dif_pos (by rw [size_mk]; simp)]
  rfl
theorem toList_mk (l : List UInt8) : (⟨l.toArray⟩ : ByteArray).toList = l := by rw [Lib.toList_data]
theorem Parse_j0 (l : List UInt8) (hd : Digits l) (hl : l.length ≤ 1000) : Ev (fun k => nat_Parse.j0 k ⟨l.toArray⟩ false) (dg 4294967296 (pv 0 l), 0) := by
  have h := Parse_loop _ l 0 rfl hd (Or.inr rfl) (by rw [dg_zero]; simp; omega)
  rw [Nat.zero_mul, Nat.zero_add, dg_zero] at h
  refine Ev.step (fun k => ?_) h
  rw [nat_Parse.j0, if_neg (by simp), size_mk, if_neg (by omega)]
theorem Parse_bad (x : ByteArray) : Ev (fun k => nat_Parse.j0 k x true) ([], 3) := by
  refine Ev.step (f := fun _ => some ([], 3)) (fun k => ?_) (Ev.now _)
  rw [nat_Parse.j0, if_pos rfl]
theorem Trim_nat (l : List UInt8) (hl : l.length ≤ 1000000000000) : strings_Trim.f ⟨l.toArray⟩ (⟨#[48, 49, 50, 51, 52, 53, 54, 55, 56, 57]⟩ : ByteArray) = some ⟨(Lib.trimS l [48, 49, 50, 51, 52, 53, 54, 55, 56, 57]).toArray⟩ := by
  unfold strings_Trim.f
  rw [if_pos ⟨rfl, by rw [size_mk]; omega⟩]
theorem Parse_ok {l : List UInt8} (hd : Digits l) (h0 : l ≠ []) (h1 : ∀ c r, l = c :: r → c.toNat = 48 → r = []) (hl : l.length ≤ 1000) : Ev (fun k => nat_Parse.f k ⟨l.toArray⟩) (dg 4294967296 (pv 0 l), 0) := by
  refine Ev.congr (fun k => ?_) (Parse_j0 l hd hl)
  unfold nat_Parse.f
  rw [toList_mk, if_neg h0, size_mk]
  obtain ⟨c, r, rfl⟩ := List.exists_cons_of_ne_nil h0
  rw [bt_zero]
  have ht : ((⟨(Lib.trimS (c :: r) [48, 49, 50, 51, 52, 53, 54, 55, 56, 57]).toArray⟩ : ByteArray).toList != ([] : List UInt8)) = false := by
    rw [toList_mk, (trim_nil _).2 hd]; rfl
  rw [if_pos (by rw [List.length_cons]; omega)]
  by_cases hc : c.toNat = 48
  · have := h1 c r rfl hc
    subst this
    rw [if_pos (by omega), if_neg (by simp), Trim_nat _ (by omega), Option.bind_some, ht]
  · rw [if_neg (by omega), Trim_nat _ (by omega), Option.bind_some, ht]
theorem Parse_txt (n : Nat) (h : (txt n).length ≤ 1000) : Ev (fun k => nat_Parse.f k ⟨(txt n).toArray⟩) (dg 4294967296 n, 0) := by
  have h2 := Parse_ok (digits_txt n) (by have := txt_len_pos n; intro e; rw [e] at this; simp at this) ?_ h
  · rw [pv_txt] at h2; exact h2
  · intro c r e hc
    rcases Nat.eq_zero_or_pos n with h0 | h0
    · subst h0; rw [txt_zero] at e; injection e with _ e; exact e.symm
    · rw [txt_pos n h0] at e
      obtain ⟨c', l', e', hc'⟩ := dec_head n h0
      rw [e'] at e
      injection e with e1 e2
      subst e1
      exact absurd hc hc'
end Go.Proofs.YtmjkhbjfacfmcaaDoor.NV
end
