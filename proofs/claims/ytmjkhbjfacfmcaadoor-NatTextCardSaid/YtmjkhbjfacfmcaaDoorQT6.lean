/- The law NatText returns true for every input and never panics. This is part 6 of the proof: texts joined in order (PA42 RefV RefV2 NatL PureNatText LawNatText). Conditions: each theorem's own. -/
import Derived.Test.YtmjkhbjfacfmcaaDoorQT5
import Derived.Laws.StructEq
import Derived.Laws.BytesArg
import Derived.Test.YtmjkhbjfacfmcaaDoorCards
import Derived.Test.YtmjkhbjfacfmcaaDoorTie
import Derived.WalkKit
import Derived.ProofKit
import Derived.OpenShut
import Derived.ShutString
import Derived.ChangeOld
import Derived.Below
import Derived.SizedLaws
import Derived.Deep.DeepHandedRow
import Derived.Deep.DeepWitnessRowRef
import Derived.Lib.LaidTab
import Derived.Lib.LaidU8
section
namespace Go.Proofs.YtmjkhbjfacfmcaaDoor.PA
open Go.RowKit Go.Proofs.YtmjkhbjfacfmcaaDoorW.PrintWords Go.Proofs.YtmjkhbjfacfmcaaDoorW.PrintLast Go.Proofs.YtmjkhbjfacfmcaaDoorW.PrintMore
attribute [local go_sem] max2_int min2_int max_two min_two max_three min_three max_four min_four
set_option linter.unusedVariables false
set_option linter.unusedSimpArgs false
mutual
def waypointref01_Mul.l0 : Nat → List Int → List Int → List Int → Int → Option (List Int)
  | 0, _, _, _, _ => none
  | k + 1, x0, x1, x5, x6 => if x6 < (x5.length : Int) then (waypointref01_Mul.l1 k x0 x1 x5 x6 0) else ((waypointref01_carried.f k x5).bind fun t451 => (some t451))
def waypointref01_Mul.l1 : Nat → List Int → List Int → List Int → Int → Int → Option (List Int)
  | 0, _, _, _, _, _ => none
  | k + 1, x0, x1, x5, x6, x7 => if x7 ≤ x6 then (waypointref01_Mul.j2 k x0 x1 x5 x6 x7 (decide (x7 < (x0.length : Int)))) else (waypointref01_Mul.j2 k x0 x1 x5 x6 x7 false)
def waypointref01_Mul.j2 : Nat → List Int → List Int → List Int → Int → Int → Bool → Option (List Int)
  | 0, _, _, _, _, _, _ => none
  | k + 1, x0, x1, x5, x6, x7, x28 => if x28 = true then (if (wrap64 (x6 - x7)) < (x1.length : Int) then (if 0 ≤ x6 then (if x6 < (x5.length : Int) then (if 0 ≤ x7 then (if x7 < (x0.length : Int) then (if 0 ≤ (wrap64 (x6 - x7)) then (waypointref01_Mul.l1 k x0 x1 (x5.set (x6 : Int).toNat (wrap64 ((rd x5 x6) + (wrap64 ((rd x0 x7) * (rd x1 (wrap64 (x6 - x7)))))))) x6 (wrap64 (x7 + 1))) else (none)) else (none)) else (none)) else (none)) else (none)) else (waypointref01_Mul.l1 k x0 x1 x5 x6 (wrap64 (x7 + 1)))) else (waypointref01_Mul.l0 k x0 x1 x5 (wrap64 (x6 + 1)))
end
def waypointref01_Mul.f (k : Nat) (l0 : List Int) (l1 : List Int) : Option (List Int) := if 0 ≤ (wrap64 ((l0.length : Int) + (l1.length : Int))) then (if (wrap64 ((l0.length : Int) + (l1.length : Int)) : Int).toNat ≤ 35184372088832 then (waypointref01_Mul.l0 k l0 l1 (List.replicate (wrap64 ((l0.length : Int) + (l1.length : Int)) : Int).toNat 0) 0) else (none)) else (none)
theorem waypointref01_Mul.mono_l : ∀ k, (∀ y0 y1 y2 y3, LeO (waypointref01_Mul.l0 k y0 y1 y2 y3) (waypointref01_Mul.l0 (k + 1) y0 y1 y2 y3)) ∧ (∀ y0 y1 y2 y3 y4, LeO (waypointref01_Mul.l1 k y0 y1 y2 y3 y4) (waypointref01_Mul.l1 (k + 1) y0 y1 y2 y3 y4)) ∧ (∀ y0 y1 y2 y3 y4 y5, LeO (waypointref01_Mul.j2 k y0 y1 y2 y3 y4 y5) (waypointref01_Mul.j2 (k + 1) y0 y1 y2 y3 y4 y5))
  | 0 => ⟨fun _ _ _ _ r h => by simp [waypointref01_Mul.l0] at h, fun _ _ _ _ _ r h => by simp [waypointref01_Mul.l1] at h, fun _ _ _ _ _ _ r h => by simp [waypointref01_Mul.j2] at h⟩
  | k + 1 => by
    obtain ⟨ih0, ih1, ih2⟩ := waypointref01_Mul.mono_l k
    refine ⟨?_, ?_, ?_⟩
    · intro y0 y1 y2 y3
      unfold waypointref01_Mul.l0
      repeat' first
      | (with_reducible exact ih0 _ _ _ _)
      | (with_reducible exact ih1 _ _ _ _ _)
      | (with_reducible exact ih2 _ _ _ _ _ _)
      | (with_reducible exact waypointref01_carried.mono _ _)
      | (with_reducible exact LeO.refl _)
      | (with_reducible exact LeO.none _)
      | (with_reducible refine LeO.ite ?_ ?_)
      | (with_reducible refine LeO.bind ?_ (fun _ => ?_))
      | exact ih0 _ _ _ _
      | exact ih1 _ _ _ _ _
      | exact ih2 _ _ _ _ _ _
      | exact waypointref01_carried.mono _ _
      | exact LeO.none _
      | refine LeO.ite ?_ ?_
      | refine LeO.bind ?_ (fun _ => ?_)
    · intro y0 y1 y2 y3 y4
      unfold waypointref01_Mul.l1
      repeat' first
      | (with_reducible exact ih0 _ _ _ _)
      | (with_reducible exact ih1 _ _ _ _ _)
      | (with_reducible exact ih2 _ _ _ _ _ _)
      | (with_reducible exact waypointref01_carried.mono _ _)
      | (with_reducible exact LeO.refl _)
      | (with_reducible exact LeO.none _)
      | (with_reducible refine LeO.ite ?_ ?_)
      | (with_reducible refine LeO.bind ?_ (fun _ => ?_))
      | exact ih0 _ _ _ _
      | exact ih1 _ _ _ _ _
      | exact ih2 _ _ _ _ _ _
      | exact waypointref01_carried.mono _ _
      | exact LeO.none _
      | refine LeO.ite ?_ ?_
      | refine LeO.bind ?_ (fun _ => ?_)
    · intro y0 y1 y2 y3 y4 y5
      unfold waypointref01_Mul.j2
      repeat' first
      | (with_reducible exact ih0 _ _ _ _)
      | (with_reducible exact ih1 _ _ _ _ _)
      | (with_reducible exact ih2 _ _ _ _ _ _)
      | (with_reducible exact waypointref01_carried.mono _ _)
      | (with_reducible exact LeO.refl _)
      | (with_reducible exact LeO.none _)
      | (with_reducible refine LeO.ite ?_ ?_)
      | (with_reducible refine LeO.bind ?_ (fun _ => ?_))
      | exact ih0 _ _ _ _
      | exact ih1 _ _ _ _ _
      | exact ih2 _ _ _ _ _ _
      | exact waypointref01_carried.mono _ _
      | exact LeO.none _
      | refine LeO.ite ?_ ?_
      | refine LeO.bind ?_ (fun _ => ?_)
theorem waypointref01_Mul.mono : ∀ a0 a1 k, LeO (waypointref01_Mul.f k a0 a1) (waypointref01_Mul.f (k + 1) a0 a1) := by
  intro a0 a1 k
  obtain ⟨ih0, ih1, ih2⟩ := waypointref01_Mul.mono_l k
  unfold waypointref01_Mul.f
  repeat' first
      | (with_reducible exact ih0 _ _ _ _)
      | (with_reducible exact ih1 _ _ _ _ _)
      | (with_reducible exact ih2 _ _ _ _ _ _)
      | (with_reducible exact waypointref01_carried.mono _ _)
      | (with_reducible exact LeO.refl _)
      | (with_reducible exact LeO.none _)
      | (with_reducible refine LeO.ite ?_ ?_)
      | (with_reducible refine LeO.bind ?_ (fun _ => ?_))
      | exact ih0 _ _ _ _
      | exact ih1 _ _ _ _ _
      | exact ih2 _ _ _ _ _ _
      | exact waypointref01_carried.mono _ _
      | exact LeO.none _
      | refine LeO.ite ?_ ?_
      | refine LeO.bind ?_ (fun _ => ?_)
def waypointref01_Mul.T9 : Bool × List (List Nat × List Nat) := (true, [([], []), ([], []), ([0, 1], [0, 1]), ([2], [2]), ([], []), ([], []), ([4, 5], [4, 5]), ([6], [6]), ([], []), ([], []), ([], []), ([9, 10], [9, 10]), ([8, 11], [8, 11]), ([12], [12]), ([7, 13], [7, 13]), ([3, 14], [3, 14]), ([0, 1, 0, 1, 2, 3, 4, 5, 6, 7, 8, 9, 10, 11, 12, 13, 14, 15], [0, 1]), ([16, 15, 0, 1, 2, 3, 4, 5, 6, 7, 8, 9, 10, 11, 12, 13, 14, 15], [15, 16])])
def waypointref01_Mul.B9 : List Nat := [0, 0, 3, 7, 0, 0, 48, 112, 0, 0, 0, 1536, 3840, 7936, 16368, 32767, 65535, 131071]
theorem waypointref01_Mul.tab9 : rtab .any (opsOf Tryd.f18 9) = waypointref01_Mul.T9 := by kernel_rfl
theorem waypointref01_Mul.bits9 : waitsOk waypointref01_Mul.T9.2 waypointref01_Mul.B9 = true := by kernel_rfl
set_option maxHeartbeats 8000000 in
set_option maxRecDepth 100000 in
theorem waypointref01_Mul.calls (k : Nat) (A0 : Option Addr) (c0 : Nat) (l0 : List Int) (A1 : Option Addr) (c1 : Nat) (l1 : List Int) (r : List Int) (w : World) (hr0 : Kd.C (Kd.int .i64) w A0 l0.length l0) (hc0 : l0.length ≤ c0) (hr1 : Kd.C (Kd.int .i64) w A1 l1.length l1) (hc1 : l1.length ≤ c1) (h : waypointref01_Mul.f k l0 l1 = some r) :
    Calls Tryd.prog 18 #[.slice A0 l0.length c0, .slice A1 l1.length c1] w fun e w' => ∃ v0_ : Value, e = .returned (v0_) ∧ Kd.R (Kd.int .i64) 3 w' w.heap.size (fun _ => True) v0_ r ∧ Below w.heap.size w w' := by
  have HR0 := Aside0.mk hr0
  have HC0 := Aside0.mk hc0
  clear hr0 hc0
  have HR1 := Aside0.mk hr1
  have HC1 := Aside0.mk hc1
  clear hr1 hc1
  have HB := Aside0.mk (Below.refl w.heap.size w)
  have H : (if 0 ≤ (wrap64 ((l0.length : Int) + (l1.length : Int))) then (if (wrap64 ((l0.length : Int) + (l1.length : Int)) : Int).toNat ≤ 35184372088832 then (waypointref01_Mul.l0 k l0 l1 (List.replicate (wrap64 ((l0.length : Int) + (l1.length : Int)) : Int).toNat 0) 0) else (none)) else (none)) = some r := h
  clear h
  obtain ⟨ji3, hji3⟩ : ∃ j_ : Int, (wrap64 ((l0.length : Int) + (l1.length : Int))) = j_ := ⟨_, rfl⟩
  replace H : (if 0 ≤ (ji3) then (if (ji3 : Int).toNat ≤ 35184372088832 then (waypointref01_Mul.l0 k l0 l1 (List.replicate (ji3 : Int).toNat 0) 0) else (none)) else (none)) = some r := by first | (rw [hji3] at H; exact H) | (simp only [hji3] at H ⊢; exact H)
  have hji3w : (IntKind.i64.wrap ((l0.length : Int) + (l1.length : Int))) = ji3 := (i64_w _).trans hji3
  by_cases c4 : 0 ≤ (ji3)
  · rw [if_pos c4] at H
    have c4b0 := eq_true c4
    have c4b1 : decide (0 ≤ (ji3)) = true := decide_eq_true c4
    clear c4
    by_cases c5 : (ji3 : Int).toNat ≤ 35184372088832
    · rw [if_pos c5] at H
      have c5b0 := eq_true c5
      have c5b1 : decide ((ji3 : Int).toNat ≤ 35184372088832) = true := decide_eq_true c5
      clear c5
      obtain ⟨y448, hy448⟩ : ∃ y_ : List Int, y_ = (List.replicate (ji3 : Int).toNat 0) := ⟨_, rfl⟩
      replace H : (waypointref01_Mul.l0 k l0 l1 y448 0) = some r := by first | (rw [hy448]; with_reducible exact H) | (have H2_ := (Option.bind_some _ _).symm.trans H; rw [hy448]; with_reducible exact H2_) | (have H2_ := (Option.bind_some _ _).symm.trans H; with_reducible exact H2_) | with_reducible exact H | (rw [hy448]; exact H) | exact H
      have Ny448 := Aside0.mk hy448
      clear hy448
      have H' := Aside0.mk H
      clear H
      go_enter Tryd.func18, Tryd.ntmps18
      go_wp2_with (first | ((with_reducible refine gate_dst (N := 13) rfl ?_); (try (refine gate_guard (by rfl) ?_; dsimp only)); refine Kd.R_make (Kd.int .i64) _ 3 rfl (N := 13) rfl 27 _ _ rfl ji3 rfl rfl Tryd.underlying27 (.int .i64 0) 8 info3 rfl (by decide) (by omega) 0 (ok := fun _ => True) (okp := fun _ => True) rfl (fun _ hk => hk) trivial (of_decide_eq_true (by first | (with_reducible assumption) | assumption)) (Nat.le_trans (Nat.mul_le_mul_right _ (of_decide_eq_true (by first | (with_reducible assumption) | assumption) : ji3.toNat ≤ 35184372088832)) (by omega)) (Below.refl _ _) (Nat.le_refl _) ?_; intro v449 w6 ho7 hb hg_ hnew_; clear hg_ hnew_; (first | rw [← Ny448.out] at ho7 | (simp only [Int.reduceToNat] at ho7; rw [← Ny448.out] at ho7)); have n0_ := Aside0.mk (Kd.R_lower ho7 (below_size (by repeat (first | (with_reducible first | exact HB.out | apply below_alloc | apply pw_below_drewN | apply below_drew1) | exact HB.out)))); have n1_ := Aside0.mk (below_step (by repeat (first | (with_reducible first | exact HB.out | apply below_alloc | apply pw_below_drewN | apply below_drew1) | exact HB.out)) hb); clear HB; have HO450 := n0_; have HB := n1_; clear n0_ n1_; clear hb ho7))
      (try simp only [Act.put, List.setIfInBounds_toArray, List.set_cons_zero, List.set_cons_succ])
      go_loopg [6] k (fun kq v6 w' => ∃ (x5_1 : List Int) (x6_1 : Int), v6 = .int .i64 x6_1 ∧ Aside0 (waypointref01_Mul.l0 kq l0 l1 x5_1 x6_1 = some r) ∧ Aside0 (kq ≤ k) ∧ Aside0 (Kd.R (Kd.int .i64) 3 w' w.heap.size (fun _ => True) v449 x5_1) ∧ Aside0 (Below w.heap.size w w'))
      case atStart => exact ⟨(y448), (0), (by first | rfl | (simp; done) | (simp [*]; done)), H', ⟨Nat.le_refl _⟩, ⟨by (with_reducible repeat (first | apply Kd.R_alloc | apply Kd.R_drewN | apply Kd.R_drew)); exact HO450.out⟩, ⟨by repeat (first | (with_reducible first | exact HB.out | apply below_alloc | apply pw_below_drewN | apply below_drew1) | exact HB.out)⟩⟩
      case round =>
        clear H'
        try clear c1
        try clear p2
        try clear c4
        try clear c4b0
        try clear c4b1
        try clear c5
        try clear c5b0
        try clear c5b1
        try clear p6
        obtain ⟨x5_1, x6_1, rfl, HA, HK1, HO_5, HB⟩ := hrel
        cases gk with
        | zero => exact absurd HA.out (by simp [waypointref01_Mul.l0])
        | succ k1 =>
          have H := HA.out
          clear HA
          simp only [waypointref01_Mul.l0] at H
          by_cases c8 : x6_1 < (x5_1.length : Int)
          · rw [if_pos c8] at H
            have c8b0 : decide (x6_1 < (x5_1.length : Int)) = true := decide_eq_true c8
            clear c8
            have H' := Aside0.mk H
            clear H
            obtain ⟨Ao9, co9, eo9⟩ := Kd.R_slice HO_5.out
            subst eo9
            go_wp2
            (try simp only [Act.put, List.setIfInBounds_toArray, List.set_cons_zero, List.set_cons_succ])
            go_loopg [7] k1 (fun kq v7 w' => ∃ (x5_2 : List Int) (x7_2 : Int), v7 = .int .i64 x7_2 ∧ Aside0 (waypointref01_Mul.l1 kq l0 l1 x5_2 x6_1 x7_2 = some r) ∧ Aside0 (kq ≤ k1) ∧ Aside0 (Kd.R (Kd.int .i64) 3 w' w.heap.size (fun _ => True) (.slice Ao9 x5_1.length co9) x5_2) ∧ Aside0 (Below w.heap.size w w'))
            case atStart => exact ⟨(x5_1), (0), (by first | rfl | (simp; done) | (simp [*]; done)), H', ⟨Nat.le_refl _⟩, ⟨by (with_reducible repeat (first | apply Kd.R_alloc | apply Kd.R_drewN | apply Kd.R_drew)); exact HO_5.out⟩, ⟨by repeat (first | (with_reducible first | exact HB.out | apply below_alloc | apply pw_below_drewN | apply below_drew1) | exact HB.out)⟩⟩
            case round =>
              clear H'
              try clear c1
              try clear p2
              try clear c4
              try clear c4b0
              try clear c4b1
              try clear c5
              try clear c5b0
              try clear c5b1
              try clear p6
              try clear c8
              try clear c8b0
              try clear p2
              try clear p6
              obtain ⟨x5_2, x7_2, rfl, HA, HK2, HO_5, HB⟩ := hrel
              have hl5_2 := (Kd.R_reads' HO_5.out).1
              rw [hl5_2] at HO_5
              (try simp only [hl5_2])
              cases gk with
              | zero => exact absurd HA.out (by simp [waypointref01_Mul.l1])
              | succ k2 =>
                have H := HA.out
                clear HA
                simp only [waypointref01_Mul.l1] at H
                have HC10 := Aside0.mk H
                clear H
                go_upto_region 6 with (fail)
                go_cut [28] (fun v28 wc => ∃ (kq : Nat) (x28_9 : Bool), v28 = .bool x28_9 ∧ Aside0 (waypointref01_Mul.j2 kq l0 l1 x5_2 x6_1 x7_2 x28_9 = some r) ∧ Aside0 (kq ≤ k2) ∧ Aside0 (Kd.R (Kd.int .i64) 3 wc w.heap.size (fun _ => True) (.slice Ao9 x5_2.length co9) x5_2) ∧ Aside0 (Below w.heap.size w wc))
                case first =>
                  have H := HC10.out
                  clear HC10
                  by_cases c11 : x7_2 ≤ x6_1
                  · rw [if_pos c11] at H
                    have c11b0 : decide (x7_2 ≤ x6_1) = true := decide_eq_true c11
                    clear c11
                    (first | rw [c11b0] | (simp only [i64_w, i32_w]; rw [c11b0]) | skip)
                    have H' := Aside0.mk H
                    clear H
                    go_wp2
                    go_meet
                    case rel => exact ⟨_, (decide (x7_2 < (l0.length : Int))), (by first | rfl | (simp; done) | (simp [*]; done)), H', ⟨by have := HK1.out; have := HK2.out; first | omega | exact Nat.le_refl _⟩, ⟨by (try simp only [hl5_2]); (with_reducible repeat (first | apply Kd.R_alloc | apply Kd.R_drewN | apply Kd.R_drew)); exact HO_5.out⟩, ⟨by repeat (first | (with_reducible first | exact HB.out | apply below_alloc | apply pw_below_drewN | apply below_drew1) | exact HB.out)⟩⟩
                  · rw [if_neg c11] at H
                    have c11b0 : decide (x7_2 ≤ x6_1) = false := decide_eq_false c11
                    clear c11
                    (first | rw [c11b0] | (simp only [i64_w, i32_w]; rw [c11b0]) | skip)
                    have H' := Aside0.mk H
                    clear H
                    go_wp2
                    go_meet
                    case rel => exact ⟨_, (false), (by first | rfl | (simp; done) | (simp [*]; done)), H', ⟨by have := HK1.out; have := HK2.out; first | omega | exact Nat.le_refl _⟩, ⟨by (try simp only [hl5_2]); (with_reducible repeat (first | apply Kd.R_alloc | apply Kd.R_drewN | apply Kd.R_drew)); exact HO_5.out⟩, ⟨by repeat (first | (with_reducible first | exact HB.out | apply below_alloc | apply pw_below_drewN | apply below_drew1) | exact HB.out)⟩⟩
                case rest =>
                  clear HC10
                  try clear c1
                  try clear p2
                  try clear c4
                  try clear c4b0
                  try clear c4b1
                  try clear c5
                  try clear c5b0
                  try clear c5b1
                  try clear p6
                  try clear c8
                  try clear c8b0
                  try clear c11
                  try clear c11b0
                  try clear p2
                  try clear p6
                  obtain ⟨kq, x28_9, rfl, HA, HJ9, HO_5, HB⟩ := hcut
                  cases kq with
                  | zero => exact absurd HA.out (by simp [waypointref01_Mul.j2])
                  | succ kj9 =>
                    have H := HA.out
                    clear HA
                    simp only [waypointref01_Mul.j2] at H
                    by_cases c12 : x28_9 = true
                    · subst c12
                      have H1 : (if (wrap64 (x6_1 - x7_2)) < (l1.length : Int) then (if 0 ≤ x6_1 then (if x6_1 < (x5_2.length : Int) then (if 0 ≤ x7_2 then (if x7_2 < (l0.length : Int) then (if 0 ≤ (wrap64 (x6_1 - x7_2)) then (waypointref01_Mul.l1 kj9 l0 l1 (x5_2.set (x6_1 : Int).toNat (wrap64 ((rd x5_2 x6_1) + (wrap64 ((rd l0 x7_2) * (rd l1 (wrap64 (x6_1 - x7_2)))))))) x6_1 (wrap64 (x7_2 + 1))) else (none)) else (none)) else (none)) else (none)) else (none)) else (waypointref01_Mul.l1 kj9 l0 l1 x5_2 x6_1 (wrap64 (x7_2 + 1)))) = some r := by rw [if_pos rfl] at H; exact H
                      clear H
                      have H := H1
                      clear H1
                      by_cases c13 : (wrap64 (x6_1 - x7_2)) < (l1.length : Int)
                      · rw [if_pos c13] at H
                        have c13b0 : decide ((wrap64 (x6_1 - x7_2)) < (l1.length : Int)) = true := decide_eq_true c13
                        (try (have c13bl := c13b0; simp only [hl5_2] at c13bl))
                        clear c13
                        by_cases c14 : 0 ≤ x6_1
                        · rw [if_pos c14] at H
                          have c14b0 : decide (0 ≤ x6_1) = true := decide_eq_true c14
                          clear c14
                          by_cases c15 : x6_1 < (x5_2.length : Int)
                          · rw [if_pos c15] at H
                            have c15b0 : decide (x6_1 < (x5_2.length : Int)) = true := decide_eq_true c15
                            (try (have c15bl := c15b0; simp only [hl5_2] at c15bl))
                            clear c15
                            by_cases c16 : 0 ≤ x7_2
                            · rw [if_pos c16] at H
                              have c16b0 : decide (0 ≤ x7_2) = true := decide_eq_true c16
                              clear c16
                              by_cases c17 : x7_2 < (l0.length : Int)
                              · rw [if_pos c17] at H
                                have c17b0 : decide (x7_2 < (l0.length : Int)) = true := decide_eq_true c17
                                (try (have c17bl := c17b0; simp only [hl5_2] at c17bl))
                                clear c17
                                obtain ⟨ji18, hji18⟩ : ∃ j_ : Int, (wrap64 (x6_1 - x7_2)) = j_ := ⟨_, rfl⟩
                                replace H : (if 0 ≤ (ji18) then (waypointref01_Mul.l1 kj9 l0 l1 (x5_2.set (x6_1 : Int).toNat (wrap64 ((rd x5_2 x6_1) + (wrap64 ((rd l0 x7_2) * (rd l1 (ji18))))))) x6_1 (wrap64 (x7_2 + 1))) else (none)) = some r := by first | (rw [hji18] at H; exact H) | (simp only [hji18] at H ⊢; exact H)
                                (try rw [hji18] at c13b0)
                                have hji18w : (IntKind.i64.wrap (x6_1 - x7_2)) = ji18 := (i64_w _).trans hji18
                                by_cases c19 : 0 ≤ (ji18)
                                · rw [if_pos c19] at H
                                  have c19b0 : decide (0 ≤ (ji18)) = true := decide_eq_true c19
                                  clear c19
                                  obtain ⟨y457, hy457⟩ : ∃ y_ : List Int, y_ = (x5_2.set (x6_1 : Int).toNat (wrap64 ((rd x5_2 x6_1) + (wrap64 ((rd l0 x7_2) * (rd l1 (ji18))))))) := ⟨_, rfl⟩
                                  replace H : (waypointref01_Mul.l1 kj9 l0 l1 y457 x6_1 (wrap64 (x7_2 + 1))) = some r := by first | (rw [hy457]; with_reducible exact H) | (have H2_ := (Option.bind_some _ _).symm.trans H; rw [hy457]; with_reducible exact H2_) | (have H2_ := (Option.bind_some _ _).symm.trans H; with_reducible exact H2_) | with_reducible exact H | (rw [hy457]; exact H) | exact H
                                  have Ny457 := Aside0.mk hy457
                                  clear hy457
                                  have H' := Aside0.mk H
                                  clear H
                                  try go_wp2
                                  have n0_ := Aside0.mk (Kd.R_drew HO_5.out)
                                  have n1_ := Aside0.mk (below_drew1 HB.out)
                                  clear HO_5
                                  clear HB
                                  have HO_5 := n0_
                                  have HB := n1_
                                  clear n0_ n1_
                                  have p454 : 0 ≤ (x6_1 : Int) := of_decide_eq_true (by first | (with_reducible assumption) | assumption)
                                  have q454 : x6_1 < (x5_2.length : Int) := of_decide_eq_true (by first | (with_reducible assumption) | assumption)
                                  obtain ⟨ad454, e454, hx454_0⟩ := Kd.at_int (Kd.R_reads' HO_5.out).2.2 x6_1 p454 q454
                                  cases e454
                                  replace p454 := eq_true p454
                                  replace q454 := eq_true q454
                                  have p455 : 0 ≤ (x7_2 : Int) := of_decide_eq_true (by first | (with_reducible assumption) | assumption)
                                  have q455 : x7_2 < (l0.length : Int) := of_decide_eq_true (by first | (with_reducible assumption) | assumption)
                                  obtain ⟨ad455, e455, hx455_0⟩ := Kd.at_int HR0.out x7_2 p455 q455
                                  have hw455_0 := hx455_0
                                  cases e455
                                  replace hx455_0 := (HB.out.cell (World.block_lt_of_cell? w _ hx455_0)).trans hx455_0
                                  replace p455 := eq_true p455
                                  replace q455 := eq_true q455
                                  have p456 : 0 ≤ ((ji18) : Int) := of_decide_eq_true (by first | (with_reducible assumption) | assumption)
                                  have q456 : (ji18) < (l1.length : Int) := of_decide_eq_true (by first | (with_reducible assumption) | assumption)
                                  obtain ⟨ad456, e456, hx456_0⟩ := Kd.at_int HR1.out (ji18) p456 q456
                                  have hw456_0 := hx456_0
                                  cases e456
                                  replace hx456_0 := (HB.out.cell (World.block_lt_of_cell? w _ hx456_0)).trans hx456_0
                                  replace p456 := eq_true p456
                                  replace q456 := eq_true q456
                                  have p20 : 0 ≤ (x6_1 : Int) := of_decide_eq_true (by first | (with_reducible assumption) | assumption)
                                  have q20 : (x6_1 : Int) < ((x5_2.length : Int) : Int) := of_decide_eq_true (by first | (with_reducible assumption) | assumption)
                                  obtain ⟨go20, co20, eo20, gb20, gl20, cl20, HG20⟩ := Kd.R_form HO_5.out (by omega)
                                  (first | cases eo20 | (injection eo20 with ea_ en_ ec_; (first | subst ea_ | (injection ea_ with ea_; subst ea_)); subst ec_; clear en_))
                                  have GB20 := Aside0.mk gb20
                                  have GG20 := Aside0.mk HG20
                                  clear gb20 gl20 HG20
                                  (first | simp only [add_plain] at hx454_0 | skip)
                                  obtain ⟨hx20_0, hf20_0⟩ := Kd.R_celln 0 HO_5.out (x6_1 : Int) p20 q20
                                  replace p20 := eq_true p20
                                  replace q20 := eq_true q20
                                  have HP22 := Kd.R_putn HO_5.out (x6_1 : Int) (wrap64 ((rd x5_2 x6_1) + (wrap64 ((rd l0 x7_2) * (rd l1 (ji18))))))
                                  rw [← Ny457.out] at HP22
                                  have HQ22 := Aside0.mk HP22
                                  clear HP22
                                  refine start_ (n := 18) (S := fun w' => w'.cell? ⟨go20, (x6_1).toNat, none⟩ = some (.int .i64 (rd x5_2 x6_1)) ∧ w'.cell? (ad455.add (x7_2).toNat) = some (.int .i64 (rd l0 x7_2)) ∧ w'.cell? (ad456.add ((ji18)).toNat) = some (.int .i64 (rd l1 (ji18)))) (ds := [17]) #[false, false, false, false, false, false, false, false, false, false, false, false, false, false, false, false, false, false] (by kernel_rfl) rfl rfl ⟨hx454_0, ((HB.out.cell (World.block_lt_of_cell? w _ hw455_0)).trans hw455_0), ((HB.out.cell (World.block_lt_of_cell? w _ hw456_0)).trans hw456_0)⟩ (fun hHeld => ?_); refine with_tabW waypointref01_Mul.tab9 waypointref01_Mul.bits9 (fun HT_ HW_ => ?_)
                                  generalize wc.drew = w21 at HO_5 HB GG20 HQ22 hf20_0 hx20_0 hx454_0 hx455_0 hx456_0 hHeld ⊢
                                  refine pure_ (i := 0) (N := some 37) (v := ?_) (a' := ?_) #[true, false, false, false, false, false, false, false, false, false, false, false, false, false, false, false, false, false] rfl rfl (any_of HT_.out (by kernel_rfl)) (fun _ _ _ h => h) (Or.inl ⟨by rfl, ?_⟩) ?_ ?_
                                  rotate_left
                                  · intro w'
                                    go_simp
                                    with_reducible rfl
                                  rotate_left
                                  · simp only [Act.put, List.setIfInBounds_toArray, List.set_cons_zero, List.set_cons_succ, i64_w, i32_w]
                                    rfl
                                  refine pure_ (i := 1) (N := some 38) (v := ?_) (a' := ?_) #[true, true, false, false, false, false, false, false, false, false, false, false, false, false, false, false, false, false] rfl rfl (any_of HT_.out (by kernel_rfl)) (fun _ _ _ h => h) (Or.inl ⟨by rfl, ?_⟩) ?_ ?_
                                  rotate_left
                                  · intro w'
                                    go_simp
                                    with_reducible rfl
                                  rotate_left
                                  · simp only [Act.put, List.setIfInBounds_toArray, List.set_cons_zero, List.set_cons_succ, i64_w, i32_w]
                                    rfl
                                  refine pure_ (i := 2) (N := some 39) (v := ?_) (a' := ?_) #[true, true, true, false, false, false, false, false, false, false, false, false, false, false, false, false, false, false] rfl rfl (any_of HT_.out (by kernel_rfl)) (fun _ _ _ h => h) (Or.inl ⟨by rfl, ?_⟩) ?_ ?_
                                  rotate_left
                                  · intro w'
                                    go_simp
                                    with_reducible rfl
                                  rotate_left
                                  · simp only [Act.put, List.setIfInBounds_toArray, List.set_cons_zero, List.set_cons_succ, i64_w, i32_w]
                                    rfl
                                  refine pure_ (i := 4) (N := some 41) (v := ?_) (a' := ?_) #[true, true, true, false, true, false, false, false, false, false, false, false, false, false, false, false, false, false] rfl rfl (any_of HT_.out (by kernel_rfl)) (fun _ _ _ h => h) (Or.inl ⟨by rfl, ?_⟩) ?_ ?_
                                  rotate_left
                                  · intro w'
                                    go_simp
                                    with_reducible rfl
                                  rotate_left
                                  · simp only [Act.put, List.setIfInBounds_toArray, List.set_cons_zero, List.set_cons_succ, i64_w, i32_w]
                                    rfl
                                  refine pure_ (i := 5) (N := some 42) (v := ?_) (a' := ?_) #[true, true, true, false, true, true, false, false, false, false, false, false, false, false, false, false, false, false] rfl rfl (any_of HT_.out (by kernel_rfl)) (fun _ _ _ h => h) (Or.inl ⟨by rfl, ?_⟩) ?_ ?_
                                  rotate_left
                                  · intro w'
                                    go_simp
                                    with_reducible rfl
                                  rotate_left
                                  · simp only [Act.put, List.setIfInBounds_toArray, List.set_cons_zero, List.set_cons_succ, i64_w, i32_w]
                                    rfl
                                  refine pure_ (i := 6) (N := some 43) (v := ?_) (a' := ?_) #[true, true, true, false, true, true, true, false, false, false, false, false, false, false, false, false, false, false] rfl rfl (any_of HT_.out (by kernel_rfl)) (fun _ _ _ h => h) (Or.inl ⟨by rfl, ?_⟩) ?_ ?_
                                  rotate_left
                                  · intro w'
                                    go_simp
                                    with_reducible rfl
                                  rotate_left
                                  · simp only [Act.put, List.setIfInBounds_toArray, List.set_cons_zero, List.set_cons_succ, i64_w, i32_w]
                                    rfl
                                  refine pure_ (i := 8) (N := some 45) (v := ?_) (a' := ?_) #[true, true, true, false, true, true, true, false, true, false, false, false, false, false, false, false, false, false] rfl rfl (any_of HT_.out (by kernel_rfl)) (fun _ _ _ h => h) (Or.inl ⟨by rfl, ?_⟩) ?_ ?_
                                  rotate_left
                                  · intro w'
                                    go_simp
                                    with_reducible rfl
                                  rotate_left
                                  · simp only [Act.put, List.setIfInBounds_toArray, List.set_cons_zero, List.set_cons_succ, i64_w, i32_w]
                                    rfl
                                  refine pure_ (i := 9) (N := some 46) (v := ?_) (a' := ?_) #[true, true, true, false, true, true, true, false, true, true, false, false, false, false, false, false, false, false] rfl rfl (any_of HT_.out (by kernel_rfl)) (fun _ _ _ h => h) (Or.inl ⟨by rfl, ?_⟩) ?_ ?_
                                  rotate_left
                                  · intro w'
                                    go_simp
                                    with_reducible rfl
                                  rotate_left
                                  · simp only [Act.put, List.setIfInBounds_toArray, List.set_cons_zero, List.set_cons_succ, i64_w, i32_w]
                                    rfl
                                  refine pure_ (i := 10) (N := some 47) (v := ?_) (a' := ?_) #[true, true, true, false, true, true, true, false, true, true, true, false, false, false, false, false, false, false] rfl rfl (any_of HT_.out (by kernel_rfl)) (fun _ _ _ h => h) (Or.inl ⟨by rfl, ?_⟩) ?_ ?_
                                  rotate_left
                                  · intro w'
                                    go_simp
                                    with_reducible rfl
                                  rotate_left
                                  · simp only [Act.put, List.setIfInBounds_toArray, List.set_cons_zero, List.set_cons_succ, i64_w, i32_w]
                                    rfl
                                  refine pure_ (i := 11) (N := some 48) (v := ?_) (a' := ?_) #[true, true, true, false, true, true, true, false, true, true, true, true, false, false, false, false, false, false] rfl rfl (any_of HT_.out (by kernel_rfl)) (fun _ _ _ h => h) (Or.inl ⟨by rfl, ?_⟩) ?_ ?_
                                  rotate_left
                                  · intro w'
                                    go_simp
                                    with_reducible rfl
                                  rotate_left
                                  · simp only [Act.put, List.setIfInBounds_toArray, List.set_cons_zero, List.set_cons_succ, i64_w, i32_w]
                                    rfl
                                  refine pure_ (i := 12) (N := some 49) (v := ?_) (a' := ?_) #[true, true, true, false, true, true, true, false, true, true, true, true, true, false, false, false, false, false] rfl rfl (any_of HT_.out (by kernel_rfl)) (fun _ _ _ h => h) (Or.inl ⟨by rfl, ?_⟩) ?_ ?_
                                  rotate_left
                                  · intro w'
                                    go_simp
                                    with_reducible rfl
                                  rotate_left
                                  · simp only [Act.put, List.setIfInBounds_toArray, List.set_cons_zero, List.set_cons_succ, i64_w, i32_w]
                                    rfl
                                  refine take_ (i := 3) (N := some 40) (v := ?_) (a' := ?_) #[true, true, true, true, true, true, true, false, true, true, true, true, true, false, false, false, false, false] rfl rfl (take_ofW HT_.out HW_.out (by kernel_rfl)) (fun _ _ _ h => h) (Or.inl ⟨by rfl, ?_⟩) hHeld ?_ ?_
                                  rotate_left
                                  · rintro w' ⟨s0, s1, s2⟩
                                    go_simp
                                    with_reducible rfl
                                  rotate_left
                                  · simp only [Act.put, List.setIfInBounds_toArray, List.set_cons_zero, List.set_cons_succ, i64_w, i32_w]
                                    rfl
                                  refine take_ (i := 7) (N := some 44) (v := ?_) (a' := ?_) #[true, true, true, true, true, true, true, true, true, true, true, true, true, false, false, false, false, false] rfl rfl (take_ofW HT_.out HW_.out (by kernel_rfl)) (fun _ _ _ h => h) (Or.inl ⟨by rfl, ?_⟩) hHeld ?_ ?_
                                  rotate_left
                                  · rintro w' ⟨s0, s1, s2⟩
                                    go_simp
                                    with_reducible rfl
                                  rotate_left
                                  · simp only [Act.put, List.setIfInBounds_toArray, List.set_cons_zero, List.set_cons_succ, i64_w, i32_w]
                                    rfl
                                  refine take_ (i := 13) (N := some 50) (v := ?_) (a' := ?_) #[true, true, true, true, true, true, true, true, true, true, true, true, true, true, false, false, false, false] rfl rfl (take_ofW HT_.out HW_.out (by kernel_rfl)) (fun _ _ _ h => h) (Or.inl ⟨by rfl, ?_⟩) hHeld ?_ ?_
                                  rotate_left
                                  · rintro w' ⟨s0, s1, s2⟩
                                    go_simp
                                    with_reducible rfl
                                  rotate_left
                                  · simp only [Act.put, List.setIfInBounds_toArray, List.set_cons_zero, List.set_cons_succ, i64_w, i32_w]
                                    rfl
                                  refine pure_ (i := 14) (N := some 51) (v := ?_) (a' := ?_) #[true, true, true, true, true, true, true, true, true, true, true, true, true, true, true, false, false, false] rfl rfl (any_of HT_.out (by kernel_rfl)) (fun _ _ _ h => h) (Or.inl ⟨by rfl, ?_⟩) ?_ ?_
                                  rotate_left
                                  · intro w'
                                    go_simp
                                    with_reducible rfl
                                  rotate_left
                                  · simp only [Act.put, List.setIfInBounds_toArray, List.set_cons_zero, List.set_cons_succ, i64_w, i32_w]
                                    rfl
                                  refine pure_ (i := 15) (N := some 52) (v := ?_) (a' := ?_) #[true, true, true, true, true, true, true, true, true, true, true, true, true, true, true, true, false, false] rfl rfl (any_of HT_.out (by kernel_rfl)) (fun _ _ _ h => h) (Or.inl ⟨by rfl, ?_⟩) ?_ ?_
                                  rotate_left
                                  · intro w'
                                    go_simp
                                    with_reducible rfl
                                  rotate_left
                                  · simp only [Act.put, List.setIfInBounds_toArray, List.set_cons_zero, List.set_cons_succ, i64_w, i32_w]
                                    rfl
                                  refine pure_ (i := 16) (N := some 53) (v := ?_) (a' := ?_) #[true, true, true, true, true, true, true, true, true, true, true, true, true, true, true, true, true, false] rfl rfl (any_of HT_.out (by kernel_rfl)) (fun _ _ _ h => h) (Or.inl ⟨by rfl, ?_⟩) ?_ ?_
                                  rotate_left
                                  · intro w'
                                    go_simp
                                    with_reducible rfl
                                  rotate_left
                                  · simp only [Act.put, List.setIfInBounds_toArray, List.set_cons_zero, List.set_cons_succ, i64_w, i32_w]
                                    rfl
                                  refine last_ (i := 17) (N := none) #[true, true, true, true, true, true, true, true, true, true, true, true, true, true, true, true, true, true] rfl rfl (one_of HT_.out (by kernel_rfl)) (by decide) (fun K hK => ?_)
                                  refine skip_ (w1 := ?_) (by rfl) rfl ?_ ?_
                                  rotate_left
                                  · go_simp
                                    rfl
                                  refine hK.out _ _ ?_
                                  clear hK K
                                  refine done_ (done_of HT_.out (by kernel_rfl)) ?_
                                  try go_wp2
                                  (try simp only [← hl5_2])
                                  go_roundg kj9
                                  case measure => have := HK1.out; have := HK2.out; have := HJ9.out; omega
                                  case rel => exact ⟨(y457), (wrap64 (x7_2 + 1)), (by first | rfl | (simp; done) | (simp [*]; done)), H', ⟨by have := HK1.out; have := HK2.out; have := HJ9.out; omega⟩, ⟨by (try simp only [hl5_2]); (with_reducible repeat (first | apply Kd.R_alloc | apply Kd.R_drewN | apply Kd.R_drew)); exact HQ22.out⟩, ⟨by repeat (first | (with_reducible first | exact HB.out | apply below_alloc | apply pw_below_drewN | apply below_drew1 | refine below_set ?_ GB20.out) | exact HB.out)⟩⟩
                                · rw [if_neg c19] at H
                                  exact absurd H (by simp)
                              · rw [if_neg c17] at H
                                exact absurd H (by simp)
                            · rw [if_neg c16] at H
                              exact absurd H (by simp)
                          · rw [if_neg c15] at H
                            exact absurd H (by simp)
                        · rw [if_neg c14] at H
                          exact absurd H (by simp)
                      · rw [if_neg c13] at H
                        have c13b0 : decide ((wrap64 (x6_1 - x7_2)) < (l1.length : Int)) = false := decide_eq_false c13
                        (try (have c13bl := c13b0; simp only [hl5_2] at c13bl))
                        clear c13
                        have H' := Aside0.mk H
                        clear H
                        go_wp2
                        (try simp only [← hl5_2])
                        go_roundg kj9
                        case measure => have := HK1.out; have := HK2.out; have := HJ9.out; omega
                        case rel => exact ⟨(x5_2), (wrap64 (x7_2 + 1)), (by first | rfl | (simp; done) | (simp [*]; done)), H', ⟨by have := HK1.out; have := HK2.out; have := HJ9.out; omega⟩, ⟨by (try simp only [hl5_2]); (with_reducible repeat (first | apply Kd.R_alloc | apply Kd.R_drewN | apply Kd.R_drew)); exact HO_5.out⟩, ⟨by repeat (first | (with_reducible first | exact HB.out | apply below_alloc | apply pw_below_drewN | apply below_drew1) | exact HB.out)⟩⟩
                    · replace c12 := Bool.eq_false_iff.mpr c12
                      subst c12
                      have H1 : (waypointref01_Mul.l0 kj9 l0 l1 x5_2 (wrap64 (x6_1 + 1))) = some r := by rw [if_neg (show ¬ (false = true) by decide)] at H; exact H
                      clear H
                      have H := H1
                      clear H1
                      have H' := Aside0.mk H
                      clear H
                      go_wp2
                      (try simp only [← hl5_2])
                      go_roundg kj9
                      case measure => have := HK1.out; have := HK2.out; have := HJ9.out; omega
                      case rel => exact ⟨(x5_2), (wrap64 (x6_1 + 1)), (by first | rfl | (simp; done) | (simp [*]; done)), H', ⟨by have := HK1.out; have := HK2.out; have := HJ9.out; omega⟩, ⟨by (try simp only [hl5_2]); (with_reducible repeat (first | apply Kd.R_alloc | apply Kd.R_drewN | apply Kd.R_drew)); exact HO_5.out⟩, ⟨by repeat (first | (with_reducible first | exact HB.out | apply below_alloc | apply pw_below_drewN | apply below_drew1) | exact HB.out)⟩⟩
          · rw [if_neg c8] at H
            have c8b0 : decide (x6_1 < (x5_1.length : Int)) = false := decide_eq_false c8
            (try (have c8bl := c8b0; simp only [hl5_2] at c8bl))
            clear c8
            replace H := Option.bind_eq_some_iff.mp H
            obtain ⟨t451, A230, H⟩ := H
            replace H : (some t451) = some r := H
            have A23 := Aside0.mk A230
            clear A230
            obtain rfl := Option.some.inj H
            obtain ⟨Ao24, co24, eo24⟩ := Kd.R_slice HO_5.out
            subst eo24
            go_wp2_with (first | ((with_reducible refine gate_callee (f := 37) rfl ?_); refine goesL_ (some 55) rfl rfl Tryd.func37 (by kernel_rfl) rfl #[.slice Ao24 x5_1.length co24] rfl (by (try simp only [List.map_toArray, List.map_cons, List.map_nil]); first | done | rfl | (simp only [List.length_drop, List.length_take]; rfl)) ?_; (with_reducible refine (waypointref01_carried.calls k1 _ _ x5_1 t451 _ ?side1 ?side2 A23.out).mono ?_); (case side1 => repeat (first | exact (Kd.R_reads' HO_5.out).2.2 | (with_reducible refine Kd.C_alloc ?_ _) | (with_reducible refine Kd.C_drewN ?_ _) | (with_reducible refine Kd.C_drew ?_))); (case side2 => exact (Kd.R_reads' HO_5.out).2.1); rintro e w25 ⟨v452, rfl, ho0, hb⟩; refine ⟨_, rfl, ?_⟩; have n0_ := Aside0.mk (Kd.R_elder' (by (with_reducible repeat (first | apply Kd.R_alloc | apply Kd.R_drewN | apply Kd.R_drew)); exact HO_5.out) (Kd.R_base ho0) hb); have n1_ := Aside0.mk (Kd.R_lower (Kd.R_new' ho0 (Kd.R_lt (by (with_reducible repeat (first | apply Kd.R_alloc | apply Kd.R_drewN | apply Kd.R_drew)); exact HO_5.out))) (below_size (by repeat (first | (with_reducible first | exact HB.out | apply below_alloc | apply pw_below_drewN | apply below_drew1) | exact HB.out)))); have n2_ := Aside0.mk (below_step (by repeat (first | (with_reducible first | exact HB.out | apply below_alloc | apply pw_below_drewN | apply below_drew1) | exact HB.out)) hb); clear HO_5; clear HB; have HO_5 := n0_; have HO453 := n1_; have HB := n2_; clear n0_ n1_ n2_; (try clear hb); (try clear hb2); (try clear hk); (try clear hi); (try clear ho0)))
            go_ret
            exact ⟨_, by first | rfl | (simp [errW_none, errW_some] <;> rfl) | (simp only [← hji3]; first | rfl | (simp [errW_none, errW_some] <;> rfl)) | (simp [*, errW_none, errW_some] <;> rfl), by (with_reducible repeat (first | apply Kd.R_alloc | apply Kd.R_drewN | apply Kd.R_drew)); exact Kd.R_mono HO453.out (fun _ hk => trivial), by repeat (first | (with_reducible first | exact HB.out | apply below_alloc | apply pw_below_drewN | apply below_drew1) | exact HB.out)⟩
    · rw [if_neg c5] at H
      exact absurd H (by simp)
  · rw [if_neg c4] at H
    exact absurd H (by simp)
end Go.Proofs.YtmjkhbjfacfmcaaDoor.PA
end
section
namespace Go.Proofs.YtmjkhbjfacfmcaaDoor.RV
set_option linter.unusedVariables false
set_option linter.unusedSimpArgs false
open Go Go.RowKit Go.Proofs.YtmjkhbjfacfmcaaDoor.PA Go.Proofs.YtmjkhbjfacfmcaaDoor.NM Go.Proofs.YtmjkhbjfacfmcaaDoorW.PrintWords Go.Proofs.YtmjkhbjfacfmcaaDoorW.PrintLast
theorem asc (a b : Int) : a + b - a = b := by omega
theorem strip6 {l : List Int} (h : Dig 1000000 l) : strip l = dg 1000000 (vl 1000000 l).toNat := strip_dg (B := 1000000) (by omega) h
theorem vl6 (n : Nat) : vl 1000000 (dg 1000000 n) = (n : Int) := vl_dg (B := 1000000) (by omega) n
theorem dig6 (n : Nat) : Dig 1000000 (dg 1000000 n) := dig_dg (B := 1000000) (by omega) n
theorem without_loop : ∀ (n : Nat) (l : List Int), l.length = n → n ≤ 1000000000000 → Ev (fun k => waypointref01_without.l0 k l) (strip l) := by
  intro n
  induction n with
  | zero =>
    intro l hl _
    have := List.length_eq_zero_iff.1 hl
    subst this
    refine Ev.step (f := fun _ => some []) (fun k => ?_) (Ev.now _)
    rw [waypointref01_without.l0, if_neg (by simp), Option.bind_some, if_pos (by simp)]
    rfl
  | succ n ih =>
    intro l hl hn
    have hw : wrap64 ((l.length : Int) - 1) = (n : Int) := by rw [wsub1 l.length (by omega) (by omega)]; omega
    have hs := strip_take_succ l n (by omega)
    rw [List.take_of_length_le (by omega)] at hs
    by_cases h0 : rd l (n : Int) = 0
    · rw [hs, if_pos h0]
      refine Ev.step (f := fun k => waypointref01_without.l0 k (l.take n)) (fun k => ?_) (ih (l.take n) (by rw [List.length_take]; omega) (by omega))
      rw [waypointref01_without.l0, hw]
      clear hw
      rw [if_pos (by omega), if_pos (by omega), if_pos (by omega), if_pos h0, if_pos (by omega), Int.toNat_natCast]
    · rw [hs, if_neg h0]
      refine Ev.step (f := fun _ => some l) (fun k => ?_) (Ev.now _)
      rw [waypointref01_without.l0, hw]
      clear hw
      rw [if_pos (by omega), if_pos (by omega), if_pos (by omega), if_neg h0, Option.bind_some, if_pos (by rw [List.length_nil]; omega), List.nil_append]
theorem without_ev {l : List Int} (hl : l.length ≤ 1000000000000) (hd : Dig 1000000 l) : Ev (fun k => waypointref01_without.f k l) (dg 1000000 (vl 1000000 l).toNat) := by
  rw [← strip6 hd]
  exact without_loop _ l rfl hl
theorem without_nat {l : List Int} {n : Nat} (hl : l.length ≤ 1000000000000) (hd : Dig 1000000 l) (hn : vl 1000000 l = n) : Ev (fun k => waypointref01_without.f k l) (dg 1000000 n) := by
  have h := without_ev hl hd
  rw [hn, Int.toNat_natCast] at h
  exact h
def Big (l : List Int) : Prop := ∀ x ∈ l, 0 ≤ x ∧ x ≤ 9000000000000000000
theorem Big.rd {l : List Int} (h : Big l) (i : Nat) : 0 ≤ rd l (i : Int) ∧ rd l (i : Int) ≤ 9000000000000000000 := by
  rcases Nat.lt_or_ge i l.length with h1 | h1
  · rw [rd_nat _ _ h1]; exact h _ (List.getElem_mem h1)
  · rw [rd_out _ _ h1]; omega
theorem alg_carry {P s q x : Int} (e : s = x + 1000000 * q) : P * x + P * 1000000 * q = P * s := by
  subst e
  grind
theorem vl_snoc (B : Int) (l : List Int) (x : Int) : vl B (l ++ [x]) = vl B l + B ^ l.length * x := by rw [vl_append]; simp [vl]
theorem carried_end (l : List Int) : ∀ (m : Nat) (o : List Int) (c : Int), 0 ≤ c → c ≤ 5000000000000000 → c.toNat = m → l.length ≤ o.length → Dig 1000000 o → (o.length : Int) + (dg 1000000 c.toNat).length ≤ 1000000000000 →
    Ev (fun k => waypointref01_carried.l0 k l o c (o.length : Int)) (dg 1000000 (vl 1000000 o + 1000000 ^ o.length * c).toNat) := by
  intro m
  induction m using Nat.strongRecOn with
  | _ m ih =>
    intro o c c0 c1 cm hlo hd hb
    by_cases h0 : c = 0
    · subst h0
      have h := without_ev (by omega) hd
      rw [Int.mul_zero, Int.add_zero]
      refine Ev.step (f := fun k => waypointref01_carried.j1 k l o 0 (o.length : Int) false) (fun k => ?_) (Ev.step (f := fun k => (waypointref01_without.f k o).bind fun t => some t) (fun k => ?_) (Ev.bind (f := fun _ t => some t) h (Ev.now _)))
      · rw [waypointref01_carried.l0, if_neg (by omega)]
        rfl
      · rw [waypointref01_carried.j1, if_neg (by simp)]
    · have hcn : 0 < c.toNat := by omega
      have hdg : (dg 1000000 c.toNat).length = (dg 1000000 (c.toNat / 1000000)).length + 1 := by rw [dg_pos (by omega) hcn, List.length_cons]
      have e1 : c.toNat / 1000000 = (c / 1000000).toNat := by omega
      rw [e1] at hdg
      have hd2 : Dig 1000000 (o ++ [c % 1000000]) := Dig.append hd (Dig.cons (by omega) (by omega) (Dig.nil _))
      have hlen' : (o ++ [c % 1000000]).length = o.length + 1 := by simp
      have h := ih (c / 1000000).toNat (by omega) (o ++ [c % 1000000]) (c / 1000000) (by omega) (by omega) rfl (by omega) hd2 (by omega)
      have hv : vl 1000000 (o ++ [c % 1000000]) + 1000000 ^ (o ++ [c % 1000000]).length * (c / 1000000) = vl 1000000 o + 1000000 ^ o.length * c := by
        rw [hlen', vl_snoc, Int.pow_succ]
        have e : c = c % 1000000 + 1000000 * (c / 1000000) := by omega
        rw [Int.add_assoc, alg_carry e]
      rw [hv, hlen'] at h
      clear hv
      have hw1 : Int.tmod c 1000000 = c % 1000000 := Int.tmod_eq_emod_of_nonneg c0
      have hw2 : wrap64 (Int.tdiv c 1000000) = c / 1000000 := by rw [Int.tdiv_eq_ediv_of_nonneg c0, w64 (by omega) (by omega)]
      have hol : o.length < 1000000000000 := by omega
      refine Ev.step (f := fun k => waypointref01_carried.j1 k l o c (o.length : Int) true) (fun k => ?_) (Ev.step (fun k => ?_) h)
      · rw [waypointref01_carried.l0, if_neg (by clear hw2; omega), show decide (c > 0) = true from decide_eq_true (by clear hw2; omega)]
      · rw [waypointref01_carried.j1, if_pos rfl, if_neg (by clear hw2; omega), hw1, hw2, if_pos (by omega), wsucc o.length (by omega)]
theorem dg6_len {c : Int} (c1 : c ≤ 5000000000000000) : (dg 1000000 c.toNat).length ≤ 3 := dg_length (by omega) (by omega)
theorem carried_loop (l : List Int) (hl : Big l) (hn : l.length ≤ 100000000000) : ∀ (m : Nat) (o : List Int) (c : Int), m + o.length = l.length → 0 ≤ c → c ≤ 10000000000000 → Dig 1000000 o → Hold (vl 1000000 o + 1000000 ^ o.length * c = vl 1000000 (l.take o.length)) →
    Ev (fun k => waypointref01_carried.l0 k l o c (o.length : Int)) (dg 1000000 (vl 1000000 l).toNat) := by
  intro m
  induction m with
  | zero =>
    intro o c hi c0 c1 hd hv
    unfold Hold at hv
    have h := carried_end l _ o c c0 (by clear hv; omega) rfl (by clear hv; omega) hd (by have := dg6_len (c := c) (by clear hv; omega); clear hv; omega)
    rw [hv, vl_take_all _ _ _ (by clear hv; omega)] at h
    exact h
  | succ m ih =>
    intro o c hi c0 c1 hd hv
    have hx := hl.rd o.length
    obtain ⟨s, hs⟩ : ∃ s, c + rd l (o.length : Int) = s := ⟨_, rfl⟩
    have s0 : 0 ≤ s := by omega
    have s1 : s ≤ 9000010000000000000 := by omega
    have hlen' : (o ++ [s % 1000000]).length = o.length + 1 := by simp
    have h := ih (o ++ [s % 1000000]) (s / 1000000) (by omega) (by omega) (by omega) (Dig.append hd (Dig.cons (by omega) (by omega) (Dig.nil _))) (by
      unfold Hold at hv ⊢
      rw [hlen', vl_snoc, Int.pow_succ, vl_take_succ, ← hv, Int.add_assoc, alg_carry (s := s) (by clear hv; omega), ← hs, Int.mul_add, Int.add_assoc])
    rw [hlen'] at h
    refine Ev.step (f := fun k => waypointref01_carried.j1 k l o c (o.length : Int) true) (fun k => ?_) (Ev.step (fun k => ?_) h)
    · rw [waypointref01_carried.l0, if_pos (by omega)]
    · have hw0 : wrap64 (c + rd l (o.length : Int)) = s := by rw [hs, w64 (by omega) (by omega)]
      have hw1 : Int.tmod s 1000000 = s % 1000000 := Int.tmod_eq_emod_of_nonneg s0
      have hw2 : wrap64 (Int.tdiv s 1000000) = s / 1000000 := by clear hw0; rw [Int.tdiv_eq_ediv_of_nonneg s0, w64 (by omega) (by omega)]
      rw [waypointref01_carried.j1, hw0, hw1, hw2]
      clear hw0 hw1 hw2
      rw [if_pos rfl, if_pos (by omega), if_pos (by omega), if_pos (by omega), wsucc o.length (by omega)]
theorem carried_ev {l : List Int} (hl : Big l) (hn : l.length ≤ 100000000000) : Ev (fun k => waypointref01_carried.f k l) (dg 1000000 (vl 1000000 l).toNat) :=
  carried_loop l hl hn l.length [] 0 (by simp) (by omega) (by omega) (Dig.nil _) (by unfold Hold; simp [vl])
theorem times_loop (l : List Int) (x : Int) (hl : Dig 1000000 l) (hn : l.length ≤ 100000000000) (x0 : 0 ≤ x) (x1 : x ≤ 9000000000000) : ∀ (m : Nat) (o : List Int), m + o.length = l.length → Big o → Hold (vl 1000000 o = vl 1000000 (l.take o.length) * x) →
    Ev (fun k => waypointref01_times.l0 k l x o (o.length : Int)) (dg 1000000 (vl 1000000 l * x).toNat) := by
  intro m
  induction m with
  | zero =>
    intro o hi hb hv
    unfold Hold at hv
    rw [vl_take_all _ _ _ (by omega)] at hv
    have h := carried_ev hb (by omega)
    rw [hv] at h
    refine Ev.step (f := fun k => (waypointref01_carried.f k o).bind fun t => some t) (fun k => ?_) (Ev.bind (f := fun _ t => some t) h (Ev.now _))
    rw [waypointref01_times.l0, if_neg (by omega)]
  | succ m ih =>
    intro o hi hb hv
    have hx := hl.rd (by omega) o.length
    have p0 : 0 ≤ rd l (o.length : Int) * x := Int.mul_nonneg hx.1 x0
    have p1 : rd l (o.length : Int) * x ≤ 999999 * 9000000000000 := Int.mul_le_mul (by omega) x1 x0 (by omega)
    have hlen' : (o ++ [rd l (o.length : Int) * x]).length = o.length + 1 := by simp
    have h := ih (o ++ [rd l (o.length : Int) * x]) (by omega) (fun y hy => by
        rcases List.mem_append.1 hy with hy | hy
        · exact hb y hy
        · rw [List.mem_singleton.1 hy]; exact ⟨p0, by omega⟩) (by
      unfold Hold at hv ⊢
      rw [hlen', vl_snoc, vl_take_succ, hv, Int.add_mul, Int.mul_assoc])
    rw [hlen'] at h
    refine Ev.step (fun k => ?_) h
    rw [waypointref01_times.l0, if_pos (by omega), if_pos (by omega), if_pos (by omega), w64 (by omega) (by omega), wsucc o.length (by omega)]
theorem times_nat (a : Nat) (x : Nat) (hn : (dg 1000000 a).length ≤ 100000000000) (x1 : x ≤ 9000000000000) : Ev (fun k => waypointref01_times.f k (dg 1000000 a) (x : Int)) (dg 1000000 (a * x)) := by
  have h := times_loop (dg 1000000 a) x (dig6 a) hn (by omega) (by omega) (dg 1000000 a).length [] (by simp) (by intro y hy; cases hy) (by unfold Hold; simp [vl])
  rw [vl6, ← Int.natCast_mul, Int.toNat_natCast] at h
  exact h
theorem Of_loop (N : Nat) : ∀ (n : Nat) (o : List Int), n < 18446744073709551616 → Dig 1000000 o → o.length + (dg 1000000 n).length ≤ 100 → Hold (vl 1000000 o + 1000000 ^ o.length * n = N) → Ev (fun k => waypointref01_Of.l0 k (n : Int) o) (dg 1000000 N) := by
  intro n
  induction n using Nat.strongRecOn with
  | _ n ih =>
    intro o hn hd hlen hv
    rcases Nat.eq_zero_or_pos n with h0 | h0
    · subst h0
      unfold Hold at hv
      have h := without_nat (n := N) (by omega) hd (by rw [← hv]; simp)
      refine Ev.step (f := fun k => (waypointref01_without.f k o).bind fun t => some t) (fun k => ?_) (Ev.bind (f := fun _ t => some t) h (Ev.now _))
      rw [waypointref01_Of.l0, if_neg (by simp)]
    · have hdg : (dg 1000000 n).length = (dg 1000000 (n / 1000000)).length + 1 := by rw [dg_pos (by omega) h0, List.length_cons]
      have hlen' : (o ++ [((n % 1000000 : Nat) : Int)]).length = o.length + 1 := by simp
      have h := ih (n / 1000000) (by omega) (o ++ [((n % 1000000 : Nat) : Int)]) (by omega) (Dig.append hd (Dig.cons (by omega) (by omega) (Dig.nil _))) (by omega) (by
        unfold Hold at hv ⊢
        rw [hlen', vl_snoc, Int.pow_succ, Int.add_assoc, alg_carry (s := (n : Int)) (by clear hv; omega), hv])
      refine Ev.step (fun k => ?_) h
      have e1 : Int.tdiv (n : Int) 1000000 = ((n / 1000000 : Nat) : Int) := by rw [Int.tdiv_eq_ediv_of_nonneg (by omega)]; omega
      have e2 : Int.tmod (n : Int) 1000000 = ((n % 1000000 : Nat) : Int) := by rw [Int.tmod_eq_emod_of_nonneg (by omega)]; omega
      rw [waypointref01_Of.l0, if_pos (by omega), if_pos (by omega), e1, e2, wu64 (by omega) (by omega), w64 (by omega) (by omega)]
theorem Of_nat (n : Nat) (h : n < 18446744073709551616) : Ev (fun k => waypointref01_Of.f k (n : Int)) (dg 1000000 n) := by
  have hl : (dg 1000000 n).length ≤ 4 := dg_length (by omega) (by omega)
  exact Of_loop n n [] h (Dig.nil _) (by simp; omega) (by unfold Hold; simp [vl])
theorem Add_l1 (r : List Int) (V : Int) (hr : Dig 1000000 r) : ∀ (m i : Nat) (o : List Int), m + i = r.length → r.length ≤ o.length → o.length ≤ 100000000000 → (∀ p : Nat, 0 ≤ rd o (p : Int) ∧ rd o (p : Int) ≤ 2000000) → (∀ p : Nat, i ≤ p → rd o (p : Int) ≤ 1000000) → Hold (vl 1000000 o = V + vl 1000000 (r.take i)) →
    Ev (fun k => waypointref01_Add.l1 k r o (i : Int)) (dg 1000000 (V + vl 1000000 r).toNat) := by
  intro m
  induction m with
  | zero =>
    intro i o hi hro ho hb _ hv
    unfold Hold at hv
    rw [vl_take_all _ _ _ (by omega)] at hv
    have hB : Big o := fun x hx => by
      obtain ⟨p, hp, rfl⟩ := List.getElem_of_mem hx
      have := hb p
      rw [rd_nat _ _ hp] at this
      omega
    have h := carried_ev hB ho
    rw [hv] at h
    refine Ev.step (f := fun k => (waypointref01_carried.f k o).bind fun t => some t) (fun k => ?_) (Ev.bind (f := fun _ t => some t) h (Ev.now _))
    rw [waypointref01_Add.l1, if_neg (by omega)]
  | succ m ih =>
    intro i o hi hro ho hb hb2 hv
    have hx := hr.rd (by omega) i
    have hy := hb i
    have hz := hb2 i (Nat.le_refl _)
    have h := ih (i + 1) (o.set i (rd o (i : Int) + rd r (i : Int))) (by omega) (by simpa using hro) (by simpa using ho) (fun p => by
        by_cases hp : i = p
        · subst hp; rw [rd_set_eq _ _ _ (by omega)]; omega
        · rw [rd_set_ne _ _ _ _ hp]; exact hb p) (fun p hp => by rw [rd_set_ne _ _ _ _ (by omega)]; exact hb2 p (by omega)) (by
      unfold Hold at hv ⊢
      rw [vl_set _ _ _ _ (by omega), vl_take_succ, hv, asc, Int.add_assoc])
    refine Ev.step (fun k => ?_) h
    rw [waypointref01_Add.l1, if_pos (by omega), if_pos (by omega), if_pos (by omega), w64 (by omega) (by omega), wsucc i (by omega), Int.toNat_natCast]
theorem Add_l0 (l r : List Int) (hl : Dig 1000000 l) (hr : Dig 1000000 r) : ∀ (m i : Nat) (o : List Int), m + i = l.length → l.length ≤ o.length → r.length ≤ o.length → o.length ≤ 100000000000 → (∀ p : Nat, 0 ≤ rd o (p : Int) ∧ rd o (p : Int) ≤ 1000000) → (∀ p : Nat, i ≤ p → rd o (p : Int) = 0) → Hold (vl 1000000 o = vl 1000000 (l.take i)) →
    Ev (fun k => waypointref01_Add.l0 k l r o (i : Int)) (dg 1000000 (vl 1000000 l + vl 1000000 r).toNat) := by
  intro m
  induction m with
  | zero =>
    intro i o hi hlo hro ho hb hb2 hv
    unfold Hold at hv
    rw [vl_take_all _ _ _ (by omega)] at hv
    have h := Add_l1 r (vl 1000000 l) hr r.length 0 o (by omega) hro ho (fun p => ⟨(hb p).1, by have := (hb p).2; omega⟩) (fun p _ => (hb p).2) (by unfold Hold; rw [hv]; simp [vl])
    refine Ev.step (fun k => ?_) h
    rw [waypointref01_Add.l0, if_neg (by omega)]
    rfl
  | succ m ih =>
    intro i o hi hlo hro ho hb hb2 hv
    have hx := hl.rd (by omega) i
    have hz := hb2 i (Nat.le_refl _)
    have h := ih (i + 1) (o.set i (rd o (i : Int) + rd l (i : Int))) (by omega) (by simpa using hlo) (by simpa using hro) (by simpa using ho) (fun p => by
        by_cases hp : i = p
        · subst hp; rw [rd_set_eq _ _ _ (by omega)]; omega
        · rw [rd_set_ne _ _ _ _ hp]; exact hb p) (fun p hp => by rw [rd_set_ne _ _ _ _ (by omega)]; exact hb2 p (by omega)) (by
      unfold Hold at hv ⊢
      rw [vl_set _ _ _ _ (by omega), vl_take_succ, hv, asc])
    refine Ev.step (fun k => ?_) h
    rw [waypointref01_Add.l0, if_pos (by omega), if_pos (by omega), if_pos (by omega), w64 (by omega) (by omega), wsucc i (by omega), Int.toNat_natCast]
theorem Add_nat (a b : Nat) (ha : (dg 1000000 a).length ≤ 100000000000) (hb : (dg 1000000 b).length ≤ 100000000000) : Ev (fun k => waypointref01_Add.f k (dg 1000000 a) (dg 1000000 b)) (dg 1000000 (a + b)) := by
  obtain ⟨n, hn, h1, h2, h3⟩ : ∃ n : Nat, mx ((dg 1000000 a).length : Int) ((dg 1000000 b).length : Int) = (n : Int) ∧ (dg 1000000 a).length ≤ n ∧ (dg 1000000 b).length ≤ n ∧ n ≤ 100000000000 := by
    refine ⟨max (dg 1000000 a).length (dg 1000000 b).length, ?_, by omega, by omega, by omega⟩
    unfold mx
    split <;> omega
  have h := Add_l0 (dg 1000000 a) (dg 1000000 b) (dig6 a) (dig6 b) (dg 1000000 a).length 0 (List.replicate n 0) (by omega) (by simpa using h1) (by simpa using h2) (by simpa using h3) (fun p => by rw [rd_rep]; omega) (fun p _ => rd_rep _ _) (by unfold Hold; rw [vl_rep]; simp [vl])
  rw [vl6, vl6, ← Int.natCast_add, Int.toNat_natCast] at h
  refine Ev.congr (fun k => ?_) h
  unfold waypointref01_Add.f
  rw [hn, if_pos (by omega), if_pos (by omega), Int.toNat_natCast]
  rfl
theorem Make_loop (l : List Int) (hl : Dig 4294967296 l) (hn : l.length ≤ 1000000) : ∀ (m i a : Nat), m + i = l.length → (a : Int) = vl 4294967296 (l.drop m) → Hold (a < 1000000 ^ (2 * i)) →
    Ev (fun k => waypointref01_Make.l0 k l (dg 1000000 a) (i : Int)) (dg 1000000 (vl 4294967296 l).toNat) := by
  intro m
  induction m with
  | zero =>
    intro i a hi ha _
    rw [List.drop_zero] at ha
    rw [← ha, Int.toNat_natCast]
    refine Ev.step (f := fun _ => some (dg 1000000 a)) (fun k => ?_) (Ev.now _)
    rw [waypointref01_Make.l0, if_neg (by omega)]
  | succ m ih =>
    intro i a hi ha hb
    have hx := hl.rd (by omega) m
    obtain ⟨x, hxx⟩ : ∃ x : Nat, rd l (m : Int) = (x : Int) := ⟨(rd l (m : Int)).toNat, by omega⟩
    have hal : (dg 1000000 a).length ≤ 2 * i := dg_length (by omega) hb
    have ha2 : a * 4294967296 + x < 1000000 ^ (2 * (i + 1)) := by
      unfold Hold at hb
      rw [show 2 * (i + 1) = 2 * i + 1 + 1 from by omega, Nat.pow_succ, Nat.pow_succ]
      generalize 1000000 ^ (2 * i) = P at hb ⊢
      omega
    have hml : (dg 1000000 (a * 4294967296)).length ≤ 2 * (i + 1) := dg_length (by omega) (Nat.lt_of_le_of_lt (Nat.le_add_right _ _) ha2)
    have hxl : (dg 1000000 x).length ≤ 2 := dg_length (by omega) (by omega)
    have e1 := times_nat a 4294967296 (by omega) (by omega)
    have e2 := Of_nat x (by omega)
    have e3 := Add_nat (a * 4294967296) x (by omega) (by omega)
    have e4 := ih (i + 1) (a * 4294967296 + x) (by omega) (by
      rw [vl_drop _ _ _ (by omega), ← ha, ← rd_nat l m (by omega), hxx]; omega) ha2
    obtain ⟨K1, e1⟩ := e1
    obtain ⟨K2, e2⟩ := e2
    obtain ⟨K3, e3⟩ := e3
    obtain ⟨K4, e4⟩ := e4
    clear ha2 hb
    refine ⟨K1 + K2 + K3 + K4 + 1, fun k hk => ?_⟩
    obtain ⟨q, rfl⟩ : ∃ q, k = q + 1 := ⟨k - 1, by omega⟩
    have e1 := e1 q (by omega)
    have e2 := e2 q (by omega)
    have e3 := e3 q (by omega)
    have e4 := e4 q (by omega)
    dsimp only at e1 e2 e3 e4
    have hw : wrap64 (wrap64 ((l.length : Int) - 1) - (i : Int)) = (m : Int) := by
      rw [wsub1 l.length (by omega) (by omega), wsub _ _ (by omega) (by omega)]; omega
    show waypointref01_Make.l0 (q + 1) l (dg 1000000 a) (i : Int) = _
    rw [waypointref01_Make.l0, hw, hxx]
    clear hw
    rw [if_pos (by omega), show (4294967296 : Int) = ((4294967296 : Nat) : Int) from rfl, e1, Option.bind_some, if_pos (by omega), if_pos (by omega), wu64 (by omega) (by omega), e2, Option.bind_some, e3, Option.bind_some, wsucc i (by omega)]
    exact e4
def num (l : List Int) : Nat := (vl 4294967296 l).toNat
theorem Make_ev {l : List Int} (hl : Dig 4294967296 l) (hn : l.length ≤ 1000000) : Ev (fun k => waypointref01_Make.f k l) (dg 1000000 (num l)) := by
  have h := Make_loop l hl hn l.length 0 0 (by omega) (by rw [List.drop_length]; rfl) (by unfold Hold; simp)
  rw [dg_zero] at h
  exact h
theorem num_lt {l : List Int} (hl : Dig 4294967296 l) : num l < 4294967296 ^ l.length := by
  have h := vl_lt (by omega) hl
  have h0 := vl_nonneg (by omega) hl
  have e : ((4294967296 : Int) ^ l.length) = ((4294967296 ^ l.length : Nat) : Int) := pow_cast 4294967296 _
  unfold num
  rw [e] at h
  omega
end Go.Proofs.YtmjkhbjfacfmcaaDoor.RV
end
section
namespace Go.Proofs.YtmjkhbjfacfmcaaDoor.RV
set_option linter.unusedVariables false
set_option linter.unusedSimpArgs false
open Go Go.RowKit Go.Proofs.YtmjkhbjfacfmcaaDoor.PA Go.Proofs.YtmjkhbjfacfmcaaDoor.NM Go.Proofs.YtmjkhbjfacfmcaaDoor.NT Go.Proofs.YtmjkhbjfacfmcaaDoorW.PrintWords Go.Proofs.YtmjkhbjfacfmcaaDoorW.PrintLast
def sh (f : Nat → Int) : Nat → Int
  | 0 => 0
  | k + 1 => f k
def cv : List Int → List Int → Nat → Int
  | [], _ => fun _ => 0
  | x :: a, b => fun k => x * rd b (k : Int) + sh (cv a b) k
theorem cv_nil (b : List Int) (k : Nat) : cv [] b k = 0 := rfl
theorem cv_cons (x : Int) (a b : List Int) (k : Nat) : cv (x :: a) b k = x * rd b (k : Int) + sh (cv a b) k := rfl
theorem sh_zero (f : Nat → Int) : sh f 0 = 0 := rfl
theorem sh_succ (f : Nat → Int) (k : Nat) : sh f (k + 1) = f k := rfl
def vf (B : Int) : Nat → (Nat → Int) → Int
  | 0, _ => 0
  | n + 1, f => f 0 + B * vf B n (fun k => f (k + 1))
theorem vf_congr {B : Int} : ∀ {n : Nat} {f g : Nat → Int}, (∀ k, k < n → f k = g k) → vf B n f = vf B n g
  | 0, _, _, _ => rfl
  | n + 1, f, g, h => by
    rw [vf, vf, h 0 (by omega), vf_congr (n := n) (fun k hk => h (k + 1) (by omega))]
theorem vf_zero {B : Int} : ∀ (n : Nat), vf B n (fun _ => 0) = 0
  | 0 => rfl
  | n + 1 => by rw [vf, vf_zero n]; omega
theorem vf_add {B : Int} : ∀ (n : Nat) (f g : Nat → Int), vf B n (fun k => f k + g k) = vf B n f + vf B n g
  | 0, _, _ => rfl
  | n + 1, f, g => by rw [vf, vf, vf, vf_add n]; grind
theorem vf_mul {B : Int} (x : Int) : ∀ (n : Nat) (f : Nat → Int), vf B n (fun k => x * f k) = x * vf B n f
  | 0, _ => by rw [vf, vf]; omega
  | n + 1, f => by rw [vf, vf, vf_mul x n]; grind
theorem rd_cons_succ (x : Int) (l : List Int) (k : Nat) : rd (x :: l) ((k + 1 : Nat) : Int) = rd l (k : Int) := by
  unfold rd; rw [Int.toNat_natCast, Int.toNat_natCast, List.getD_cons_succ]
theorem rd_cons_zero (x : Int) (l : List Int) : rd (x :: l) ((0 : Nat) : Int) = x := rfl
theorem vf_list {B : Int} : ∀ (l : List Int) (n : Nat), l.length ≤ n → vf B n (fun k => rd l (k : Int)) = vl B l
  | [], n, _ => by
    rw [vf_congr (g := fun _ => 0) (fun k _ => rd_out [] k (by simp)), vf_zero]; rfl
  | x :: l, 0, h => by simp at h
  | x :: l, n + 1, h => by
    rw [vf, vl, rd_cons_zero, vf_congr (g := fun k => rd l (k : Int)) (fun k _ => rd_cons_succ x l k), vf_list l n (by simpa using h)]
theorem vf_cv {B : Int} (b : List Int) : ∀ (a : List Int), vf B (a.length + b.length) (cv a b) = vl B a * vl B b
  | [] => by
    rw [vf_congr (f := cv [] b) (g := fun _ => 0) (fun k _ => rfl), vf_zero, vl]; omega
  | x :: a => by
    rw [List.length_cons, Nat.add_right_comm, vf_congr (f := cv (x :: a) b) (g := fun k => x * rd b (k : Int) + sh (cv a b) k) (fun k _ => rfl), vf_add, vf_mul, vf_list b _ (by omega)]
    have h : vf B (a.length + b.length + 1) (sh (cv a b)) = B * (vl B a * vl B b) := by
      rw [vf, ← vf_cv b a, sh_zero, Int.zero_add]; rfl
    rw [h, vl]; grind
theorem cv_take (b : List Int) : ∀ (a : List Int) (i k : Nat), i < a.length → cv (a.take (i + 1)) b k = cv (a.take i) b k + (if i ≤ k then rd a (i : Int) * rd b ((k - i : Nat) : Int) else 0)
  | [], i, k, h => by simp at h
  | x :: a, 0, k, _ => by
    rw [List.take_succ_cons, List.take_zero, List.take_zero, cv_cons, cv_nil, if_pos (Nat.zero_le _), rd_cons_zero, Nat.sub_zero]
    cases k with
    | zero => rw [sh_zero]; omega
    | succ k => rw [sh_succ, cv_nil]; omega
  | x :: a, i + 1, k, h => by
    rw [List.take_succ_cons, List.take_succ_cons, cv_cons, cv_cons, rd_cons_succ]
    cases k with
    | zero => rw [sh_zero, sh_zero, if_neg (by omega)]; omega
    | succ k =>
      rw [sh_succ, sh_succ, cv_take b a i k (by simpa using h), Nat.add_sub_add_right]
      by_cases hik : i ≤ k
      · rw [if_pos hik, if_pos (by omega)]; omega
      · rw [if_neg hik, if_neg (by omega)]; omega
theorem cv_past (b : List Int) (a : List Int) (k : Nat) : ∀ (m i : Nat), m + i = a.length → k < i → cv (a.take i) b k = cv a b k := by
  intro m
  induction m with
  | zero => intro i hi _; rw [List.take_of_length_le (by omega)]
  | succ m ih =>
    intro i hi hk
    rw [← ih (i + 1) (by omega) (by omega), cv_take b a i k (by omega), if_neg (by omega)]; omega
theorem cv_bound {a b : List Int} (ha : Dig 1000000 a) (hb : Dig 1000000 b) (k : Nat) : ∀ i, i ≤ a.length → 0 ≤ cv (a.take i) b k ∧ cv (a.take i) b k ≤ i * 1000000000000 := by
  intro i
  induction i with
  | zero => intro _; rw [List.take_zero, cv_nil]; omega
  | succ i ih =>
    intro hi
    have h := ih (by omega)
    rw [cv_take b a i k (by omega)]
    have h1 := ha.rd (by omega) i
    have h2 := hb.rd (by omega) (k - i)
    have p0 : 0 ≤ rd a (i : Int) * rd b ((k - i : Nat) : Int) := Int.mul_nonneg h1.1 h2.1
    have p1 : rd a (i : Int) * rd b ((k - i : Nat) : Int) ≤ 999999 * 999999 := Int.mul_le_mul (by omega) (by omega) h2.1 (by omega)
    split <;> omega
theorem Mul_l1 (a b : List Int) (ha : Dig 1000000 a) (hb : Dig 1000000 b) (hla : a.length ≤ 9000000) (hlb : b.length ≤ 1000000000) (k : Nat) (R : List Int)
    (K : ∀ o : List Int, o.length = a.length + b.length → (∀ p : Nat, p < k + 1 → rd o (p : Int) = cv a b p) → (∀ p : Nat, k + 1 ≤ p → rd o (p : Int) = 0) → Ev (fun f => waypointref01_Mul.l0 f a b o ((k + 1 : Nat) : Int)) R) :
    ∀ (m i : Nat) (o : List Int), m + i = a.length → i ≤ k + 1 → k < o.length → o.length = a.length + b.length → (∀ p : Nat, p < k → rd o (p : Int) = cv a b p) → rd o (k : Int) = cv (a.take i) b k → (∀ p : Nat, k + 1 ≤ p → rd o (p : Int) = 0) →
    Ev (fun f => waypointref01_Mul.l1 f a b o (k : Int) (i : Int)) R := by
  intro m
  induction m with
  | zero =>
    intro i o hi hik hk ho h1 h2 h3
    have hK := K o ho (fun p hp => by
      by_cases hpk : p = k
      · subst hpk; rw [h2, List.take_of_length_le (by omega)]
      · exact h1 p (by omega)) h3
    refine Ev.step (f := fun f => waypointref01_Mul.j2 f a b o (k : Int) (i : Int) false) (fun f => ?_) (Ev.step (fun f => ?_) hK)
    · rw [waypointref01_Mul.l1]
      split
      · rw [show decide ((i : Int) < (a.length : Int)) = false from decide_eq_false (by omega)]
      · rfl
    · rw [waypointref01_Mul.j2, if_neg (by simp), wsucc k (by omega)]
  | succ m ih =>
    intro i o hi hik hk ho h1 h2 h3
    by_cases hle : i ≤ k
    · have hct := cv_take b a i k (by omega)
      rw [if_pos hle] at hct
      have hwk : wrap64 ((k : Int) - (i : Int)) = ((k - i : Nat) : Int) := wsub _ _ (by omega) hle
      by_cases hb2 : k - i < b.length
      · have hbd := cv_bound ha hb k i (by omega)
        have hbd2 := cv_bound ha hb k (i + 1) (by omega)
        have q1 := ha.rd (by omega) i
        have q2 := hb.rd (by omega) (k - i)
        have p0 : 0 ≤ rd a (i : Int) * rd b ((k - i : Nat) : Int) := Int.mul_nonneg q1.1 q2.1
        have p1 : rd a (i : Int) * rd b ((k - i : Nat) : Int) ≤ 999999 * 999999 := Int.mul_le_mul (by omega) (by omega) q2.1 (by omega)
        have h := ih (i + 1) (o.set k (cv (a.take (i + 1)) b k)) (by omega) (by omega) (by simpa using hk) (by simpa using ho) (fun p hp => by rw [rd_set_ne _ _ _ _ (by omega)]; exact h1 p hp) (by rw [rd_set_eq _ _ _ hk]) (fun p hp => by rw [rd_set_ne _ _ _ _ (by omega)]; exact h3 p hp)
        refine Ev.step (f := fun f => waypointref01_Mul.j2 f a b o (k : Int) (i : Int) true) (fun f => ?_) (Ev.step (fun f => ?_) h)
        · rw [waypointref01_Mul.l1, if_pos (by clear hwk; omega), show decide ((i : Int) < (a.length : Int)) = true from decide_eq_true (by clear hwk; omega)]
        · rw [waypointref01_Mul.j2, hwk]
          clear hwk
          rw [w64 (x := rd a (i : Int) * rd b ((k - i : Nat) : Int)) (by omega) (by omega), h2, ← hct, w64 (x := cv (a.take (i + 1)) b k) (by omega) (by omega)]
          clear hct
          rw [if_pos rfl, if_pos (by omega), if_pos (by omega), if_pos (by omega), if_pos (by omega), if_pos (by omega), if_pos (by omega), wsucc i (by omega), Int.toNat_natCast]
      · have hz : rd b ((k - i : Nat) : Int) = 0 := rd_out _ _ (by omega)
        rw [hz, Int.mul_zero, Int.add_zero] at hct
        have h := ih (i + 1) o (by omega) (by omega) hk ho h1 (by rw [hct]; exact h2) h3
        refine Ev.step (f := fun f => waypointref01_Mul.j2 f a b o (k : Int) (i : Int) true) (fun f => ?_) (Ev.step (fun f => ?_) h)
        · rw [waypointref01_Mul.l1, if_pos (by clear hwk; omega), show decide ((i : Int) < (a.length : Int)) = true from decide_eq_true (by clear hwk; omega)]
        · rw [waypointref01_Mul.j2, hwk]
          clear hwk
          rw [if_pos rfl, if_neg (by omega), wsucc i (by omega)]
    · have hik' : i = k + 1 := by omega
      have hK := K o ho (fun p hp => by
        by_cases hpk : p = k
        · subst hpk; rw [h2]; exact cv_past b a p (m + 1) i hi (by omega)
        · exact h1 p (by omega)) h3
      refine Ev.step (f := fun f => waypointref01_Mul.j2 f a b o (k : Int) (i : Int) false) (fun f => ?_) (Ev.step (fun f => ?_) hK)
      · rw [waypointref01_Mul.l1, if_neg (by omega)]
      · rw [waypointref01_Mul.j2, if_neg (by simp), wsucc k (by omega)]
theorem Mul_l0 (a b : List Int) (ha : Dig 1000000 a) (hb : Dig 1000000 b) (hla : a.length ≤ 9000000) (hlb : b.length ≤ 1000000000) :
    ∀ (m k : Nat) (o : List Int), m + k = a.length + b.length → o.length = a.length + b.length → (∀ p : Nat, p < k → rd o (p : Int) = cv a b p) → (∀ p : Nat, k ≤ p → rd o (p : Int) = 0) →
    Ev (fun f => waypointref01_Mul.l0 f a b o (k : Int)) (dg 1000000 (vl 1000000 a * vl 1000000 b).toNat) := by
  intro m
  induction m with
  | zero =>
    intro k o hk ho h1 h2
    have hv : vl 1000000 o = vl 1000000 a * vl 1000000 b := by
      rw [← vf_list o (a.length + b.length) (by omega), vf_congr (g := cv a b) (fun p hp => h1 p (by omega)), vf_cv]
    have hB : Big o := fun x hx => by
      obtain ⟨p, hp, rfl⟩ := List.getElem_of_mem hx
      have h3 := h1 p (by omega)
      have h4 := cv_bound ha hb p a.length (Nat.le_refl _)
      rw [List.take_of_length_le (Nat.le_refl _)] at h4
      rw [rd_nat _ _ hp] at h3
      omega
    have h := carried_ev hB (by omega)
    rw [hv] at h
    refine Ev.step (f := fun f => (waypointref01_carried.f f o).bind fun t => some t) (fun f => ?_) (Ev.bind (f := fun _ t => some t) h (Ev.now _))
    rw [waypointref01_Mul.l0, if_neg (by omega)]
  | succ m ih =>
    intro k o hk ho h1 h2
    have h := Mul_l1 a b ha hb hla hlb k _ (fun o2 h3 h4 h5 => ih (k + 1) o2 (by omega) h3 h4 h5) a.length 0 o (by omega) (by omega) (by omega) ho h1 (by rw [List.take_zero, cv_nil]; exact h2 k (Nat.le_refl _)) (fun p hp => h2 p (by omega))
    refine Ev.step (fun f => ?_) h
    rw [waypointref01_Mul.l0, if_pos (by omega)]
    rfl
theorem Mul_nat (a b : Nat) (ha : (dg 1000000 a).length ≤ 9000000) (hb : (dg 1000000 b).length ≤ 1000000000) : Ev (fun k => waypointref01_Mul.f k (dg 1000000 a) (dg 1000000 b)) (dg 1000000 (a * b)) := by
  have h := Mul_l0 (dg 1000000 a) (dg 1000000 b) (dig6 a) (dig6 b) ha hb ((dg 1000000 a).length + (dg 1000000 b).length) 0 (List.replicate ((dg 1000000 a).length + (dg 1000000 b).length) 0) (by omega) (by simp) (fun p hp => by omega) (fun p _ => rd_rep _ _)
  rw [vl6, vl6, ← Int.natCast_mul, Int.toNat_natCast] at h
  refine Ev.congr (fun k => ?_) h
  unfold waypointref01_Mul.f
  rw [wadd _ _ (by omega), if_pos (by omega), if_pos (by omega), Int.toNat_natCast]
  rfl
theorem chr_eq (g : Nat) (h : g < 1000000000) : strOfNums [(wrap64 (48 + (Int.tmod (g : Int) 10))) % 256] = ⟨[UInt8.ofNat (48 + g % 10)].toArray⟩ := by
  rw [Int.tmod_eq_emod_of_nonneg (by omega), w64 (by omega) (by omega)]
  have e : (48 + (g : Int) % 10) % 256 = ((48 + g % 10 : Nat) : Int) := by omega
  rw [e]
  rfl
theorem tdiv10 (g : Nat) (h : g < 1000000000) : wrap64 (Int.tdiv (g : Int) 10) = ((g / 10 : Nat) : Int) := by
  rw [Int.tdiv_eq_ediv_of_nonneg (by omega), w64 (by omega) (by omega)]; omega
theorem mk_append' (l r : List UInt8) : (⟨l.toArray⟩ : ByteArray) ++ ⟨r.toArray⟩ = ⟨(l ++ r).toArray⟩ := by
  apply ByteArray.ext
  simp
theorem size_mk' (l : List UInt8) : (⟨l.toArray⟩ : ByteArray).size = l.length := by simp [ByteArray.size]
def padr : Nat → Nat → List UInt8
  | 0, _ => []
  | r + 1, g => padr r (g / 10) ++ [UInt8.ofNat (48 + g % 10)]
theorem padr_eq : ∀ (k g : Nat), g < 10 ^ k → padr k g = List.replicate (k - (dec g).length) 48 ++ dec g
  | 0, g, h => by
    have : g = 0 := by simpa using h
    subst this
    rw [dec_zero]; rfl
  | k + 1, g, h => by
    have hk : g / 10 < 10 ^ k := by rw [Nat.pow_succ] at h; omega
    rw [padr, padr_eq k (g / 10) hk]
    rcases Nat.eq_zero_or_pos g with h0 | h0
    · subst h0
      rw [show 0 / 10 = 0 from rfl, dec_zero]
      simp only [List.length_nil, Nat.sub_zero, List.append_nil]
      rw [List.replicate_succ']
      rfl
    · rw [dec_step g h0, List.length_append, List.length_singleton, Nat.add_sub_add_right, List.append_assoc]
theorem Text_mid (L : List Int) (i : Nat) (hi : i + 1 < L.length) (hL : L.length ≤ 100000000000) (R : ByteArray) : ∀ (r g k : Nat) (s : List UInt8), r + k = 6 → g < 1000000 → s.length ≤ 1000000000000000 + k →
    Ev (fun f => waypointref01_Text.l0 f L ⟨(padr r g ++ s).toArray⟩ ((i + 1 : Nat) : Int)) R → Ev (fun f => waypointref01_Text.l1 f L ⟨s.toArray⟩ (i : Int) (g : Int) (k : Int)) R := by
  intro r
  induction r with
  | zero =>
    intro g k s hk hg hs h
    refine Ev.step (fun f => ?_) h
    rw [waypointref01_Text.l1, if_neg (by omega), wsucc i (by omega)]
    rfl
  | succ r ih =>
    intro g k s hk hg hs h
    rw [padr, List.append_assoc] at h
    have h2 := ih (g / 10) (k + 1) ([UInt8.ofNat (48 + g % 10)] ++ s) (by omega) (by omega) (by rw [List.length_append, List.length_singleton]; omega) h
    refine Ev.step (fun f => ?_) h2
    have hw : wrap64 ((L.length : Int) - 1) = ((L.length - 1 : Nat) : Int) := wsub1 _ (by omega) (by omega)
    rw [waypointref01_Text.l1, hw]
    clear hw
    rw [if_pos (by omega), if_pos (by omega), Option.bind_some, chr_eq g (by omega), size_mk', size_mk', List.length_singleton, if_pos (by omega), mk_append', tdiv10 g (by omega), wsucc k (by omega)]
theorem Text_last (L : List Int) (i : Nat) (hi : i + 1 = L.length) (hL : L.length ≤ 100000000000) : ∀ (r g k : Nat) (s : List UInt8), r + k = 6 → g < 10 ^ r → s.length ≤ 1000000000000000 + k →
    Ev (fun f => waypointref01_Text.l1 f L ⟨s.toArray⟩ (i : Int) (g : Int) (k : Int)) ⟨(dec g ++ s).toArray⟩ := by
  intro r
  induction r with
  | zero =>
    intro g k s hk hg hs
    have : g = 0 := by simpa using hg
    subst this
    refine Ev.step (f := fun f => waypointref01_Text.l0 f L ⟨s.toArray⟩ ((i + 1 : Nat) : Int)) (fun f => ?_) (Ev.step (f := fun _ => some ⟨s.toArray⟩) (fun f => ?_) ?_)
    · rw [waypointref01_Text.l1, if_neg (by omega), wsucc i (by omega)]
    · rw [waypointref01_Text.l0, if_neg (by omega)]
    · rw [dec_zero]; exact Ev.now _
  | succ r ih =>
    intro g k s hk hg hs
    have hw : wrap64 ((L.length : Int) - 1) = (i : Int) := by rw [wsub1 _ (by omega) (by omega)]; omega
    rcases Nat.eq_zero_or_pos g with h0 | h0
    · subst h0
      refine Ev.step (f := fun f => waypointref01_Text.l0 f L ⟨s.toArray⟩ ((i + 1 : Nat) : Int)) (fun f => ?_) (Ev.step (f := fun _ => some ⟨s.toArray⟩) (fun f => ?_) ?_)
      · rw [waypointref01_Text.l1, hw]
        clear hw
        rw [if_pos (by omega), if_neg (by omega), if_neg (by omega), wsucc i (by omega)]
      · clear hw; rw [waypointref01_Text.l0, if_neg (by omega)]
      · rw [dec_zero]; exact Ev.now _
    · have hg6 : g < 1000000 := Nat.lt_of_lt_of_le hg (Nat.pow_le_pow_right (n := 10) (j := 6) (by omega) (by omega))
      have h2 := ih (g / 10) (k + 1) ([UInt8.ofNat (48 + g % 10)] ++ s) (by clear hw; omega) (by clear hw; rw [Nat.pow_succ] at hg; omega) (by clear hw; rw [List.length_append, List.length_singleton]; omega)
      rw [← List.append_assoc, ← dec_step g h0] at h2
      refine Ev.step (fun f => ?_) h2
      rw [waypointref01_Text.l1, hw]
      clear hw hg
      rw [if_pos (by omega), if_neg (by omega), if_pos (by omega), Option.bind_some, chr_eq g (by omega), size_mk', size_mk', List.length_singleton, if_pos (by omega), mk_append', tdiv10 g (by omega), wsucc k (by omega)]
theorem Text_l0 (L : List Int) (hL : L.length ≤ 100000000000) : ∀ (m i : Nat) (s : List UInt8), 0 < m → i < L.length → L.drop i = dg 1000000 m → s.length ≤ 6 * i →
    Ev (fun f => waypointref01_Text.l0 f L ⟨s.toArray⟩ (i : Int)) ⟨(dec m ++ s).toArray⟩ := by
  intro m
  induction m using Nat.strongRecOn with
  | _ m ih =>
    intro i s hm hi hd hs
    rw [List.drop_eq_getElem_cons hi, dg_pos (by omega) hm] at hd
    injection hd with hd1 hd2
    rw [← rd_nat L i hi] at hd1
    have hstep : ∀ f, waypointref01_Text.l0 (f + 1) L ⟨s.toArray⟩ (i : Int) = waypointref01_Text.l1 f L ⟨s.toArray⟩ (i : Int) ((m % 1000000 : Nat) : Int) ((0 : Nat) : Int) := fun f => by
      rw [waypointref01_Text.l0, if_pos (by omega), if_pos (by omega), hd1]; rfl
    have hlen : (L.drop (i + 1)).length = (dg 1000000 (m / 1000000)).length := by rw [hd2]
    rw [List.length_drop] at hlen
    rcases Nat.eq_zero_or_pos (m / 1000000) with h0 | h0
    · have hmm : m % 1000000 = m := by omega
      rw [h0, dg_zero, List.length_nil] at hlen
      have h := Text_last L i (by omega) hL 6 m 0 s (by omega) (by omega) (by omega)
      rw [hmm] at hstep
      exact Ev.step hstep h
    · have hne : 0 < (dg 1000000 (m / 1000000)).length := by rw [dg_pos (by omega) h0]; simp
      have hmod : m % 1000000 < 10 ^ 6 := Nat.mod_lt _ (by omega)
      have hpl : (padr 6 (m % 1000000)).length ≤ 6 := by
        rw [padr_eq 6 _ hmod, List.length_append, List.length_replicate]
        have := dec_le hmod
        omega
      have h := ih (m / 1000000) (by omega) (i + 1) (padr 6 (m % 1000000) ++ s) h0 (by omega) hd2 (by rw [List.length_append]; omega)
      have hsplit : dec m = dec (m / 1000000) ++ padr 6 (m % 1000000) := by
        have e : m = m % 1000000 + 10 ^ 6 * (m / 1000000) := (Nat.mod_add_div m 1000000).symm
        have h2 := dec_split h0 hmod
        rw [← e] at h2
        rw [h2, padr_eq 6 _ hmod]
      rw [← List.append_assoc, ← hsplit] at h
      exact Ev.step hstep (Text_mid L i (by omega) hL _ 6 (m % 1000000) 0 s (by omega) (by omega) (by omega) h)
theorem Text_nat (n : Nat) (hl : (dg 1000000 n).length ≤ 100000000000) : Ev (fun k => waypointref01_Text.f k (dg 1000000 n)) ⟨(txt n).toArray⟩ := by
  rcases Nat.eq_zero_or_pos n with h0 | h0
  · subst h0
    refine Ev.congr (f := fun _ => some ⟨#[48]⟩) (fun k => ?_) ?_
    · unfold waypointref01_Text.f; rw [dg_zero, if_pos (by simp)]
    · rw [txt_zero]; exact Ev.now _
  · have hp : 0 < (dg 1000000 n).length := by rw [dg_pos (by omega) h0]; simp
    have h := Text_l0 (dg 1000000 n) hl n 0 [] h0 hp rfl (by simp)
    rw [txt_pos n h0]
    rw [List.append_nil] at h
    refine Ev.congr (fun k => ?_) h
    unfold waypointref01_Text.f
    rw [if_neg (by omega)]
    rfl
end Go.Proofs.YtmjkhbjfacfmcaaDoor.RV
end
section
namespace Go.Proofs.YtmjkhbjfacfmcaaDoor.NL
set_option linter.unusedVariables false
set_option linter.unusedSimpArgs false
open Go Go.RowKit Go.Proofs.YtmjkhbjfacfmcaaDoor Go.Proofs.YtmjkhbjfacfmcaaDoor.PA Go.Proofs.YtmjkhbjfacfmcaaDoor.NM Go.Proofs.YtmjkhbjfacfmcaaDoor.NT Go.Proofs.YtmjkhbjfacfmcaaDoor.NV Go.Proofs.YtmjkhbjfacfmcaaDoorW.PrintWords Go.Proofs.YtmjkhbjfacfmcaaDoorW.PrintLast
theorem pow_grow {a b : Nat} (c k : Nat) (h : a ≤ b ^ c) : a ^ k ≤ b ^ (c * k) := by
  rw [Nat.pow_mul]; exact Nat.pow_le_pow_left h k
def Sz (k n : Nat) : Prop := n < 4294967296 ^ k
theorem Sz.d32 {k n : Nat} (h : Sz k n) : (dg 4294967296 n).length ≤ k := dg_length (by omega) h
theorem Sz.d6 {k n : Nat} (h : Sz k n) : (dg 1000000 n).length ≤ 2 * k := dg_length (by omega) (Nat.lt_of_lt_of_le h (pow_grow 2 k (by omega)))
theorem Sz.d9 {k n : Nat} (h : Sz k n) : (dg 1000000000 n).length ≤ 2 * k := dg_length (by omega) (Nat.lt_of_lt_of_le h (pow_grow 2 k (by omega)))
theorem Sz.dec {k n : Nat} (h : Sz k n) : (dec n).length ≤ 10 * k := dec_le (Nat.lt_of_lt_of_le h (pow_grow 10 k (by omega)))
theorem Sz.txt {k n : Nat} (h : Sz k n) (hk : 1 ≤ k) : (txt n).length ≤ 10 * k := (txt_le (by omega) (Nat.lt_of_lt_of_le h (pow_grow 10 k (by omega)))).2
theorem Sz.mono {k m n : Nat} (h : Sz k n) (hkm : k ≤ m) : Sz m n := Nat.lt_of_lt_of_le h (Nat.pow_le_pow_right (by omega) hkm)
theorem Sz.add {k a b : Nat} (h : Sz k a) (g : Sz k b) : Sz (k + 1) (a + b) := by
  unfold Sz at *
  rw [Nat.pow_succ]
  generalize 4294967296 ^ k = P at *
  omega
theorem Sz.small {n : Nat} (h : n < 18446744073709551616) : Sz 2 n := h
theorem Text_sz {n k : Nat} (h : Sz k n) (hk : k ≤ 100000) : Ev (fun k => nat_Text.f k (dg 4294967296 n)) ⟨(txt n).toArray⟩ := by
  have h1 := h.d32
  have h2 := h.d9
  have h3 := h.dec
  exact Text_nat n (by omega) (by omega) (by omega)
theorem RText_sz {n k : Nat} (h : Sz k n) (hk : k ≤ 100000) : Ev (fun k => waypointref01_Text.f k (dg 1000000 n)) ⟨(txt n).toArray⟩ := by
  have h1 := h.d6
  exact RV.Text_nat n (by omega)
theorem Parse_sz {n k : Nat} (h : Sz k n) (hk0 : 1 ≤ k) (hk : k ≤ 100) : Ev (fun k => nat_Parse.f k ⟨(txt n).toArray⟩) (dg 4294967296 n, 0) := by
  have h1 := h.txt hk0
  exact Parse_txt n (by omega)
theorem dig_of_wf {l : List Int} (h : ∀ x ∈ l, (Lit.int .u32 x).wf = true) : Dig 4294967296 l := fun x hx => by
  have := h x hx
  simp [Lit.wf, IntKind.min, IntKind.max, IntKind.signed, IntKind.bits] at this
  omega
theorem num_sz {l : List Int} (hl : Dig 4294967296 l) {k : Nat} (hk : l.length ≤ k) : Sz k (RV.num l) := Sz.mono (RV.num_lt hl) hk
theorem number_ev {l : List Int} (hl : Dig 4294967296 l) (hn : l.length ≤ 12) : Ev (fun k => waypointlaw01_number.f k l) (dg 4294967296 (RV.num l), dg 1000000 (RV.num l)) := by
  have hs := num_sz hl hn
  obtain ⟨K1, e1⟩ := RV.Make_ev hl (by omega)
  obtain ⟨K2, e2⟩ := RText_sz hs (by omega)
  obtain ⟨K3, e3⟩ := Parse_sz hs (by omega) (by omega)
  refine ⟨K1 + K2 + K3, fun k hk => ?_⟩
  have e1 := e1 k (by omega)
  have e2 := e2 k (by omega)
  have e3 := e3 k (by omega)
  dsimp only at e1 e2 e3 ⊢
  unfold waypointlaw01_number.f
  rw [e1, Option.bind_some, e2, Option.bind_some, e3, Option.bind_some]
theorem is_ev {n k : Nat} (h : Sz k n) (hk : k ≤ 100000) : Ev (fun k => waypointlaw01_is.f k (dg 4294967296 n) (dg 1000000 n)) true := by
  obtain ⟨K1, e1⟩ := Text_sz h hk
  obtain ⟨K2, e2⟩ := RText_sz h hk
  refine ⟨K1 + K2, fun k hk => ?_⟩
  have e1 := e1 k (by omega)
  have e2 := e2 k (by omega)
  dsimp only at e1 e2 ⊢
  unfold waypointlaw01_is.f
  rw [e1, Option.bind_some, e2, Option.bind_some, beq_self_eq_true]
theorem cmp_neg {a b : Int} : cmp a b < 0 ↔ a < b := by
  unfold cmp
  split
  · omega
  · split <;> omega
theorem DivMod_one (a b : Nat) (hb0 : 0 < b) (hb : b < 4294967296) (ha : (dg 4294967296 a).length ≤ 1000000000) : Ev (fun k => nat_DivMod.f k (dg 4294967296 a) (dg 4294967296 b)) (dg 4294967296 (a / b), dg 4294967296 (a % b), 0) := by
  have hbz : ¬ (decide (b = 0) = true) := by simp; omega
  have hdb : dg 4294967296 b = [(b : Int)] := by
    rw [dg_pos (by omega) hb0, Nat.div_eq_of_lt hb, dg_zero, Nat.mod_eq_of_lt hb]
  obtain ⟨K1, e1⟩ := Cmp_nat a b (by omega)
  by_cases hab : a < b
  · refine ⟨K1, fun k hk => ?_⟩
    have e1 := e1 k hk
    dsimp only at e1 ⊢
    unfold nat_DivMod.f
    rw [IsZero_nat, Option.bind_some, if_neg hbz, e1, Option.bind_some, if_pos (cmp_neg.2 (by omega)), Nat.div_eq_of_lt hab, Nat.mod_eq_of_lt hab, dg_zero]
  · obtain ⟨q, q1, q2, q3, K2, e2⟩ := short_nat a b (by omega) hb0 hb
    obtain ⟨K3, e3⟩ := norm_nat (by omega) q2 q3
    have hr : a % b < 4294967296 := Nat.lt_trans (Nat.mod_lt _ hb0) hb
    have hdr : Dig 4294967296 [((a % b : Nat) : Int)] := Dig.cons (by omega) (by omega) (Dig.nil _)
    obtain ⟨K4, e4⟩ := norm_nat (l := [((a % b : Nat) : Int)]) (n := a % b) (by simp) hdr (by simp [vl])
    refine ⟨K1 + K2 + K3 + K4, fun k hk => ?_⟩
    have e1 := e1 k (by omega)
    have e2 := e2 k (by omega)
    have e3 := e3 k (by omega)
    have e4 := e4 k (by omega)
    dsimp only at e1 e2 e3 e4 ⊢
    have hl1 : (([(b : Int)] : List Int).length : Int) = 1 := rfl
    have hr0 : rd [(b : Int)] 0 = (b : Int) := rfl
    unfold nat_DivMod.f
    rw [IsZero_nat, Option.bind_some, if_neg hbz, e1, Option.bind_some, if_neg (by rw [cmp_neg]; omega), hdb, hl1, if_pos rfl, if_pos (by omega), hr0, e2, Option.bind_some, e3, Option.bind_some, e4, Option.bind_some]
theorem lit_txt (l : List UInt8) (n : Nat) (hv : pv 0 l = n) (hd : Digits l) (h0 : l ≠ []) (h1 : ∀ c r, l = c :: r → c.toNat = 48 → r = []) : txt n = l := by rw [← hv]; exact txt_pv hd h0 h1
theorem one_txt (c : UInt8) (h : 48 ≤ c.toNat ∧ c.toNat ≤ 57) : txt (dval c) = [c] := by
  have := txt_pv (l := [c]) (fun x hx => by rw [List.mem_singleton.1 hx]; exact h) (by simp) (fun c' r e _ => by injection e with _ e; exact e.symm)
  rw [pv_cons, pv_nil] at this
  rw [← this]; simp
theorem txt_big : txt 18446744073709551616 = [49, 56, 52, 52, 54, 55, 52, 52, 48, 55, 51, 55, 48, 57, 53, 53, 49, 54, 49, 54] := by
  refine lit_txt _ _ (by decide +kernel) ?_ (by simp) ?_
  · have : ∀ c ∈ ([49, 56, 52, 52, 54, 55, 52, 52, 48, 55, 51, 55, 48, 57, 53, 53, 49, 54, 49, 54] : List UInt8), 48 ≤ c.toNat ∧ c.toNat ≤ 57 := by decide +kernel
    exact this
  · intro c r e hc
    injection e with e1 e2
    subst e1
    exact absurd hc (by decide)
theorem len_one : bits_Len32.f 1 = some 1 := by
  unfold bits_Len32.f
  rw [if_pos ⟨by omega, by omega⟩]
  rfl
theorem Bits_big (k : Nat) : nat_Bits.f (dg 4294967296 18446744073709551616) = some 65 := by
  have e : dg 4294967296 18446744073709551616 = [0, 0, 1] := by
    rw [dg_pos (by omega) (by omega), dg_pos (by omega) (by omega), dg_pos (by omega) (by omega)]
    have : (18446744073709551616 / 4294967296 / 4294967296 / 4294967296 : Nat) = 0 := by decide
    rw [this, dg_zero]
    rfl
  unfold nat_Bits.f
  rw [IsZero_nat, e]
  have hr : rd [0, 0, 1] 2 = 1 := rfl
  have hw : wrap64 ((([0, 0, 1] : List Int).length : Int) - 1) = 2 := by
    have : (([0, 0, 1] : List Int).length : Int) = 3 := rfl
    rw [this, w64 (by omega) (by omega)]; omega
  rw [Option.bind_some, if_neg (by simp), hw, if_pos (by omega), if_pos (by decide), hr, len_one, Option.bind_some, w64 (x := 32 * 2) (by omega) (by omega), w64 (by omega) (by omega)]
  rfl
theorem GCD_ex : Ev (fun k => nat_GCD.f k (dg 4294967296 12) (dg 4294967296 18)) (dg 4294967296 6) := by
  have hz : ∀ n : Nat, 0 < n → ¬ (decide (n = 0) = true) := fun n h => by simp; omega
  have hs : ∀ n : Nat, n < 18446744073709551616 → (dg 4294967296 n).length ≤ 1000000000 := fun n h => by have := (Sz.small h).d32; omega
  obtain ⟨K1, e1⟩ := DivMod_one 12 18 (by omega) (by omega) (hs _ (by omega))
  obtain ⟨K2, e2⟩ := DivMod_one 18 12 (by omega) (by omega) (hs _ (by omega))
  obtain ⟨K3, e3⟩ := DivMod_one 12 6 (by omega) (by omega) (hs _ (by omega))
  refine ⟨K1 + K2 + K3 + 4, fun k hk => ?_⟩
  obtain ⟨m, rfl⟩ : ∃ m, k = m + 4 := ⟨k - 4, by omega⟩
  have e1 := e1 (m + 3) (by omega)
  have e2 := e2 (m + 2) (by omega)
  have e3 := e3 (m + 1) (by omega)
  dsimp only at e1 e2 e3 ⊢
  unfold nat_GCD.f
  rw [nat_GCD.l0, IsZero_nat, Option.bind_some, if_neg (hz 18 (by omega)), e1, Option.bind_some]
  rw [nat_GCD.l0, IsZero_nat, Option.bind_some, if_neg (hz _ (by omega)), show 12 % 18 = 12 from rfl, e2, Option.bind_some]
  rw [nat_GCD.l0, IsZero_nat, Option.bind_some, if_neg (hz _ (by omega)), show 18 % 12 = 6 from rfl, e3, Option.bind_some]
  rw [nat_GCD.l0, IsZero_nat, Option.bind_some, if_pos (by rfl)]
theorem Parse_007 : Ev (fun k => nat_Parse.f k (⟨#[48, 48, 55]⟩ : ByteArray)) ([], 3) := by
  refine Ev.congr (fun k => ?_) (Parse_bad ⟨#[48, 48, 55]⟩)
  unfold nat_Parse.f
  have h1 : (⟨#[48, 48, 55]⟩ : ByteArray).toList = [48, 48, 55] := toList_mk [48, 48, 55]
  have h2 : bt (⟨#[48, 48, 55]⟩ : ByteArray) 0 = 48 := bt_zero 48 [48, 55]
  have h3 : (⟨#[48, 48, 55]⟩ : ByteArray).size = 3 := rfl
  rw [h1, if_neg (by simp), h3, if_pos (by omega), h2, if_pos rfl, if_pos (by omega)]
theorem awake_ev : Ev (fun k => waypointlaw01_awake.f k) true := by
  have hs : ∀ n : Nat, n < 18446744073709551616 → (dg 4294967296 n).length ≤ 2 := fun n h => (Sz.small h).d32
  obtain ⟨K1, e1⟩ := Of_ev 4294967296 (by omega)
  obtain ⟨K2, e2⟩ := Of_ev 17 (by omega)
  obtain ⟨K3, e3⟩ := Of_ev 5 (by omega)
  obtain ⟨K4, e4⟩ := DivMod_one 17 5 (by omega) (by omega) (by have := hs 17 (by omega); omega)
  obtain ⟨K5, e5⟩ := Parse_007
  obtain ⟨K6, e6⟩ := Mul_nat 4294967296 4294967296 (by have := hs 4294967296 (by omega); omega)
  obtain ⟨K7, e7⟩ := Text_sz (n := 4294967296 * 4294967296) (k := 3) (by unfold Sz; omega) (by omega)
  obtain ⟨K8, e8⟩ := Text_sz (n := 17 / 5) (Sz.small (by omega)) (by omega)
  obtain ⟨K9, e9⟩ := Text_sz (n := 17 % 5) (Sz.small (by omega)) (by omega)
  obtain ⟨K10, e10⟩ := Of_ev 12 (by omega)
  obtain ⟨K11, e11⟩ := Of_ev 18 (by omega)
  obtain ⟨K12, e12⟩ := GCD_ex
  obtain ⟨K13, e13⟩ := Text_sz (n := 6) (Sz.small (by omega)) (by omega)
  refine ⟨K1 + K2 + K3 + K4 + K5 + K6 + K7 + K8 + K9 + K10 + K11 + K12 + K13, fun k hk => ?_⟩
  have e1 : nat_Of.f k 4294967296 = _ := e1 k (by omega)
  have e2 : nat_Of.f k 17 = _ := e2 k (by omega)
  have e3 : nat_Of.f k 5 = _ := e3 k (by omega)
  have e4 := e4 k (by omega)
  have e5 := e5 k (by omega)
  have e6 := e6 k (by omega)
  have e7 := e7 k (by omega)
  have e8 := e8 k (by omega)
  have e9 := e9 k (by omega)
  have e10 : nat_Of.f k 12 = _ := e10 k (by omega)
  have e11 : nat_Of.f k 18 = _ := e11 k (by omega)
  have e12 := e12 k (by omega)
  have e13 := e13 k (by omega)
  dsimp only at e4 e5 e6 e7 e8 e9 e12 e13
  have t7 : (⟨(txt (4294967296 * 4294967296)).toArray⟩ : ByteArray).toList = [49, 56, 52, 52, 54, 55, 52, 52, 48, 55, 51, 55, 48, 57, 53, 53, 49, 54, 49, 54] := by rw [toList_mk]; exact txt_big
  have t8 : (⟨(txt (17 / 5)).toArray⟩ : ByteArray).toList = [51] := by rw [toList_mk]; exact one_txt 51 (by decide)
  have t9 : (⟨(txt (17 % 5)).toArray⟩ : ByteArray).toList = [50] := by rw [toList_mk]; exact one_txt 50 (by decide)
  have t13 : (⟨(txt 6).toArray⟩ : ByteArray).toList = [54] := by rw [toList_mk]; exact one_txt 54 (by decide)
  have hb : nat_Bits.f (dg 4294967296 (4294967296 * 4294967296)) = some 65 := Bits_big 0
  show waypointlaw01_awake.f k = some true
  unfold waypointlaw01_awake.f
  rw [e1, Option.bind_some, e2, Option.bind_some, e3, Option.bind_some, e4, Option.bind_some, e5, Option.bind_some, e6, Option.bind_some, e7, Option.bind_some, if_pos t7, Option.bind_some, hb, Option.bind_some, if_pos rfl, if_pos rfl, e8, Option.bind_some, if_pos t8, e9, Option.bind_some, if_pos t9, e10, Option.bind_some, e11, Option.bind_some, e12, Option.bind_some, e13, Option.bind_some, if_pos t13]
  rfl
theorem small_yes {l r : List Int} (hl : l.length ≤ 12) (hr : r.length ≤ 12) : waypointlaw01_small.f l r = some true := by
  unfold waypointlaw01_small.f
  rw [if_pos (by omega), decide_eq_true (by omega)]
theorem small_no {l r : List Int} (h : ¬ (l.length ≤ 12 ∧ r.length ≤ 12)) : waypointlaw01_small.f l r = some false := by
  unfold waypointlaw01_small.f
  split
  · rw [decide_eq_false (by omega)]
  · rfl
end Go.Proofs.YtmjkhbjfacfmcaaDoor.NL
end
section
namespace Go.Proofs.YtmjkhbjfacfmcaaDoor.Pure
set_option linter.unusedVariables false
set_option linter.unusedSimpArgs false
open Go Go.RowKit Go.Proofs.YtmjkhbjfacfmcaaDoor Go.Proofs.YtmjkhbjfacfmcaaDoor.PA Go.Proofs.YtmjkhbjfacfmcaaDoor.NM Go.Proofs.YtmjkhbjfacfmcaaDoor.NT Go.Proofs.YtmjkhbjfacfmcaaDoor.NV Go.Proofs.YtmjkhbjfacfmcaaDoor.NL Go.Proofs.YtmjkhbjfacfmcaaDoorW.PrintWords Go.Proofs.YtmjkhbjfacfmcaaDoorW.PrintLast
theorem cmp_self (a : Int) : cmp a a = 0 := by unfold cmp; rw [if_neg (by omega), if_pos rfl]
theorem NatText : waypointlaw01_NatText.Pure := by
  intro l hl hl2 hlw
  have dl := dig_of_wf hlw
  refine Ev.rounds ?_
  obtain ⟨K0, e0⟩ := awake_ev
  by_cases hs : l.length ≤ 12
  · obtain ⟨K1, e1⟩ := number_ev dl hs
    have s1 := num_sz dl hs
    obtain ⟨K2, e2⟩ := Text_sz s1 (by omega)
    obtain ⟨K3, e3⟩ := Parse_sz s1 (by omega) (by omega)
    obtain ⟨K4, e4⟩ := is_ev s1 (by omega)
    obtain ⟨K5, e5⟩ := Cmp_nat (RV.num l) (RV.num l) (by have := s1.d32; omega)
    obtain ⟨K6, e6⟩ := Text_sz (n := 0) (k := 2) (Sz.small (by omega)) (by omega)
    rw [dg_zero, txt_zero] at e6
    rw [cmp_self] at e5
    refine ⟨K0 + K1 + K2 + K3 + K4 + K5 + K6, fun k hk => ?_⟩
    have e0 := e0 k (by omega)
    have e1 := e1 k (by omega)
    have e2 := e2 k (by omega)
    have e3 := e3 k (by omega)
    have e4 := e4 k (by omega)
    have e5 := e5 k (by omega)
    have e6 := e6 k (by omega)
    dsimp only at e0 e1 e2 e3 e4 e5 e6
    have t6 : (⟨([48] : List UInt8).toArray⟩ : ByteArray).toList = [48] := toList_mk [48]
    show waypointlaw01_NatText.f k l = some true
    unfold waypointlaw01_NatText.f
    rw [e0, Option.bind_some, if_pos rfl, small_yes hs (by simp), Option.bind_some, if_pos rfl, e1, Option.bind_some]
    dsimp only
    rw [e2, Option.bind_some, e3, Option.bind_some, e4, Option.bind_some, if_pos rfl]
    dsimp only
    rw [if_pos rfl, e5, Option.bind_some, if_pos rfl, e6, Option.bind_some, if_pos t6]
    rfl
  · refine ⟨K0, fun k hk => ?_⟩
    have e0 := e0 k hk
    dsimp only at e0
    show waypointlaw01_NatText.f k l = some true
    unfold waypointlaw01_NatText.f
    rw [e0, Option.bind_some, if_pos rfl, small_no (fun h => hs h.1), Option.bind_some, if_neg (by simp)]
end Go.Proofs.YtmjkhbjfacfmcaaDoor.Pure
end
section
namespace Go.Proofs.YtmjkhbjfacfmcaaDoor.natText
open Go.ChangeShapes Go.WideShapes Go.ChangeAt Go.RowKit
open Go.ChangeMaps (open_string shut_string)
set_option linter.unusedVariables false
set_option linter.unusedSimpArgs false
theorem own : ownKnob Tryd.prog.godebug = none := by kernel_rfl
theorem laidOut : laidOutB Tryd.prog = true := by kernel_rfl
def IsRow (k : IntKind) (w : World) (a : Option Addr) (len cap : Nat) (zs : List Int) : Prop :=
  (a = none ∧ len = 0 ∧ cap = 0 ∧ zs = []) ∨
  ∃ x, a = some x ∧ len ≤ cap ∧ cap ≤ maxLen ∧ zs.length = cap ∧ (∀ i, i < zs.length → w.cell? (x.add i) = some (.int k (zs.getD i 0))) ∧ ∀ n ∈ zs, (Lit.int k n).wf = true
theorem gTab : Tryd.prog.globalNamed "internal/strconv.uint64pow10" = some 5 := by kernel_rfl
theorem gTy : (Tryd.prog.globals[5]?).map (·.type) = some 140 := by kernel_rfl
theorem cellsA : Tryd.prog.cellsOf 140 = 20 := by kernel_rfl
theorem cellsE : Tryd.prog.cellsOf 52 = 1 := by kernel_rfl
theorem pwData : (Rows.laid_internal_strconv_uint64pow10 : DataW Unit) = Lib.tabData .u64 Lib.pow10Tab := by simp [Rows.laid_internal_strconv_uint64pow10, Lib.tabData, Lib.pow10Tab, List.range, List.range.loop]
theorem glw {W : World} (h : laidMetH Tryd.prog Rows.natTextRow.laid W) : GLw W := by
  obtain ⟨g', t', cs, fuel, p, hg', ht', hvar, hd⟩ := Lib.laidMet.reads h (n := "internal/strconv.uint64pow10") (d := Rows.laid_internal_strconv_uint64pow10) (by simp [Rows.natTextRow])
  obtain rfl := Option.some.inj (gTab.symm.trans hg')
  obtain rfl := Option.some.inj (gTy.symm.trans ht')
  rw [pwData] at hd
  have hcs := Lib.cells_of_tab Tryd.underlying140 Tryd.underlying52 cellsE cellsA hd
  exact ⟨by unfold Lib.TabIs; rw [hvar, ← hcs]⟩
noncomputable def laidWorld (os : Os) : World :=
  let w0 := World.holding Tryd.prog os ⟨#[.cells #[.string ⟨#[118, 97, 108, 117, 101, 32, 111, 117, 116, 32, 111, 102, 32, 114, 97, 110, 103, 101]⟩] 138, .cells #[.string ⟨#[105, 110, 118, 97, 108, 105, 100, 32, 115, 121, 110, 116, 97, 120]⟩] 138], #[], []⟩
  let put (h : Array Obj) (g : Nat) (cs : Array Value) : Array Obj := h.modify g fun
    | .cells _ t frozen => .cells cs t frozen
    | o => o
  let h0 := put w0.heap 7 #[.int .u8 0, .int .u8 1, .int .u8 28, .int .u8 2, .int .u8 29, .int .u8 14, .int .u8 24, .int .u8 3, .int .u8 30, .int .u8 22, .int .u8 20, .int .u8 15, .int .u8 25, .int .u8 17, .int .u8 4, .int .u8 8, .int .u8 31, .int .u8 27, .int .u8 13, .int .u8 23, .int .u8 21, .int .u8 19, .int .u8 16, .int .u8 7, .int .u8 26, .int .u8 12, .int .u8 18, .int .u8 6, .int .u8 11, .int .u8 5, .int .u8 10, .int .u8 9]
  let h1 := put h0 8 #[.int .u8 0, .int .u8 1, .int .u8 56, .int .u8 2, .int .u8 57, .int .u8 49, .int .u8 28, .int .u8 3, .int .u8 61, .int .u8 58, .int .u8 42, .int .u8 50, .int .u8 38, .int .u8 29, .int .u8 17, .int .u8 4, .int .u8 62, .int .u8 47, .int .u8 59, .int .u8 36, .int .u8 45, .int .u8 43, .int .u8 51, .int .u8 22, .int .u8 53, .int .u8 39, .int .u8 33, .int .u8 30, .int .u8 24, .int .u8 18, .int .u8 12, .int .u8 5, .int .u8 63, .int .u8 55, .int .u8 48, .int .u8 27, .int .u8 60, .int .u8 41, .int .u8 37, .int .u8 16, .int .u8 46, .int .u8 35, .int .u8 44, .int .u8 21, .int .u8 52, .int .u8 32, .int .u8 23, .int .u8 11, .int .u8 54, .int .u8 26, .int .u8 40, .int .u8 15, .int .u8 34, .int .u8 20, .int .u8 31, .int .u8 10, .int .u8 25, .int .u8 14, .int .u8 19, .int .u8 9, .int .u8 13, .int .u8 8, .int .u8 7, .int .u8 6]
  let h2 := put h1 5 #[.int .u64 1, .int .u64 10, .int .u64 100, .int .u64 1000, .int .u64 10000, .int .u64 100000, .int .u64 1000000, .int .u64 10000000, .int .u64 100000000, .int .u64 1000000000, .int .u64 10000000000, .int .u64 100000000000, .int .u64 1000000000000, .int .u64 10000000000000, .int .u64 100000000000000, .int .u64 1000000000000000, .int .u64 10000000000000000, .int .u64 100000000000000000, .int .u64 1000000000000000000, .int .u64 10000000000000000000]
  let h3 := put h2 4 #[.int .u8 128, .int .u8 191, .int .u8 160, .int .u8 191, .int .u8 128, .int .u8 159, .int .u8 144, .int .u8 191, .int .u8 128, .int .u8 143, .int .u8 0, .int .u8 0, .int .u8 0, .int .u8 0, .int .u8 0, .int .u8 0, .int .u8 0, .int .u8 0, .int .u8 0, .int .u8 0, .int .u8 0, .int .u8 0, .int .u8 0, .int .u8 0, .int .u8 0, .int .u8 0, .int .u8 0, .int .u8 0, .int .u8 0, .int .u8 0, .int .u8 0, .int .u8 0]
  let h4 := put h3 2 #[.iface 136 (.pointer (some ⟨(World.settled Tryd.prog os).heap.size + 0, 0, none⟩))]
  let h5 := put h4 1 #[.iface 136 (.pointer (some ⟨(World.settled Tryd.prog os).heap.size + 1, 0, none⟩))]
  let h6 := put h5 3 (Lib.firstTab.map fun z => Value.int .u8 z).toArray
  { w0 with heap := h6 }
set_option maxRecDepth 100000 in
theorem laid_met (os : Os) (args : Array Value) : laidMet Tryd.prog Rows.natTextRow.laid ((laidWorld os).forCall (fun _ _ => 0) ⟨#[], args, []⟩).memory :=
  laidMet_of_run' 8 (by kernel_rfl) (by kernel_rfl)
set_option maxRecDepth 100000 in
theorem witness_row (os : Os) {H : Type} (enc : TypeId × Value → H) :
    (OpenSpec.ofChange Rows.natTextSpec).preRow enc Tryd.prog Tryd.f3 Rows.natTextRow.domain false Rows.natTextRow.laid ((laidWorld os).forCall (fun _ _ => 0) ⟨#[], #[.slice none 0 0], []⟩).memory #[.slice none 0 0] := by
  have hw : (DataW.whole enc Tryd.prog ((laidWorld os).forCall (fun _ _ => 0) ⟨#[], #[.slice none 0 0], []⟩).memory Tryd.f3.params.toList Rows.natTextSpec.vars false (#[.slice none 0 0] : Array Value).toList 8).map (fun x => (x.1, x.2.1)) =
      some ([.nil], []) := by kernel_rfl
  obtain ⟨⟨x1, x2, x3⟩, hx, hx1⟩ := Option.map_eq_some_iff.1 hw
  simp only [Prod.mk.injEq] at hx1
  obtain ⟨rfl, rfl⟩ := hx1
  exact OpenSpec.preRow_of_cond 8 hx (by kernel_rfl) (fun k hk => by cases hk) (by kernel_rfl) (laid_met os _)
set_option maxRecDepth 100000 in
set_option maxHeartbeats 2000000 in
theorem lifted (os : Os) (started : os.Started) (H : Type) (enc : TypeId × Value → H) (F : Stop.Interp) :
    ReturnsInHanded {} Tryd.checked os 3 .any ((OpenSpec.ofChange Rows.natTextSpec).preRow enc Tryd.prog Tryd.f3 Rows.natTextRow.domain false Rows.natTextRow.laid) (((OpenSpec.ofChange Rows.natTextSpec).at F).post enc Tryd.prog Tryd.f3 false true false false) := by
  refine returnsInHanded_of_row (C := Tryd.checked) (s := OpenSpec.ofChange Rows.natTextSpec) own started (by kernel_rfl) Tryd.func3
    (witness_row_atRef (enc := enc) (C := Tryd.checked) false (laidWorld os) #[.slice none 0 0] rfl (by kernel_rfl) (by kernel_rfl) (by kernel_rfl) (witness_row os enc)) ?_
  intro W base args ds gs before hval0 hW _ _ hsz0 hL _ _
  have hsz : (DataW.weightsEach Tryd.prog (Tryd.f3.params.toList ++ Rows.natTextSpec.plain.varTypes Tryd.prog) (ds ++ gs)).all (· ≤ reachBytes) = true := hsz0
  have hval : ∀ (j : Nat) t v, Tryd.f3.params[j]? = some t → args[j]? = some v → Value.okWide Tryd.prog W .any base t v := hval0
  have hW' := hW
  obtain ⟨p, q, hA0, hV, rfl, hfz, hnd⟩ := hW
  have hA : DataW.TrodAll enc Tryd.prog W 0 (fun _ => true) true Tryd.f3.params.toList args.toList ds p := hA0
  rw [Tryd.params3] at hA hval hsz
  obtain ⟨v0, vs0, d0, ds0, p0, q0, hargs, rfl, rfl, h0, r0⟩ := trodAll_cons hA
  obtain ⟨rfl, rfl, rfl⟩ := trodAll_nil r0
  obtain rfl : args = #[v0] := by cases args; simp_all
  obtain ⟨rfl, rfl⟩ := trodVars_none hV
  obtain ⟨a0, len0, cap0, rfl⟩ := okWide_slice Tryd.underlying22 (hval 0 22 v0 rfl rfl)
  have k0 := h0
  have lt0 : ∀ x ∈ p0, x.block < W.heap.size := by obtain ⟨m, hm⟩ := k0; exact DataW.trod_lt m _ _ _ hm
  obtain ⟨z0, w0⟩ : ∃ zs, IsRow .u32 W a0 len0 cap0 zs := by
    obtain ⟨fuel, hf⟩ := h0
    rcases open_ints Tryd.underlying22 Tryd.underlying62 (by kernel_rfl) hf with ⟨hcs, _⟩ | ⟨x, l, c, zs, hcs, _, hl, hm, hz, _, hcell, hwz⟩
    · simp [Value.cells] at hcs
      obtain ⟨rfl, rfl, rfl⟩ := hcs
      exact ⟨[], .inl ⟨rfl, rfl, rfl, rfl⟩⟩
    · simp [Value.cells] at hcs
      obtain ⟨rfl, rfl, rfl⟩ := hcs
      exact ⟨zs, .inr ⟨_, rfl, hl, hm, by simpa using hz, hcell, hwz⟩⟩
  have y0 : len0 * 4 ≤ 140737488351232 := Go.Proofs.YtmjkhbjfacfmcaaDoorW.PrintWords.sized_ints hsz (j := 0) (t := 22) rfl rfl Tryd.underlying22 Tryd.underlying62 (by kernel_rfl) (by kernel_rfl) h0
  clear hA0 hval0 hsz0 hsz
  refine (PA.waypointlaw01_NatText.walk Pure.NatText a0 len0 cap0 z0 W (glw hL) w0 y0).mono fun e W' ⟨he, bel⟩ => ?_
  subst he
  exact ⟨_, rfl, _, _, _, [], _, [], hW', trodAll_mk1 (shut_bool Tryd.underlying4 _), (trodAll_cons_mk (Below.trod laidOut (by kernel_rfl) (of_decide_eq_true (by kernel_rfl)) k0 bel lt0) trodAll_mk0), rfl, bel.frame _, fun h => by cases h⟩
theorem said : Rows.NatTextSaid :=
  OpenClaim.holds_of_cond 3 Tryd.f3 rfl rfl rfl rfl rfl rfl rfl ⟨rfl, rfl, rfl, rfl, rfl⟩ rfl rfl rfl rfl rfl (by kernel_rfl) Tryd.func3 (by kernel_rfl)
    (of_decide_eq_true (by kernel_rfl)) (by unfold Func.isWrapper; first | (rw [if_pos (by decide +kernel)]; kernel_rfl) | (rw [if_neg (by decide +kernel)]; exact ⟨rfl, rfl⟩))
    (fun os started H enc _ F => by rw [OpenClaim.pre_eq_preRow]; exact lifted os started H enc F)
theorem plain (f : FuncId) (fn : Func) (hf : Tryd.pinned.checked.prog.funcNamed "waypoint/waypointlaw01.NatText" = some f) (hfn : Tryd.pinned.checked.prog.funcs[f]? = some fn) :
    true = Tryd.pinned.checked.prog.looks [] ∧ ∀ (j : Nat) t, fn.params[j]? = some t → Tryd.pinned.checked.prog.wantsStandIn t = false := by
  obtain rfl : f = 3 := Option.some.inj ((show Tryd.prog.funcNamed "waypoint/waypointlaw01.NatText" = some 3 by kernel_rfl).symm.trans hf) |>.symm
  obtain rfl : fn = Tryd.f3 := (Option.some.inj (Tryd.func3.symm.trans hfn)).symm
  refine ⟨by kernel_rfl, fun j t ht => ?_⟩
  rw [Tryd.params3] at ht
  have hm := Array.mem_of_getElem? ht
  simp only [List.mem_toArray, List.mem_cons, List.mem_nil_iff, or_false] at hm
  obtain rfl := hm
  exact (show Tryd.prog.wantsStandIn 22 = false by kernel_rfl)
theorem card : Rows.NatTextCardSaid :=
  Claim7.holds_tied_plain_at .later [] _ _ _ _ said (fun _ h => by cases h) (by kernel_rfl) (fun _ h => by cases h) natText_row_tie rfl ⟨rfl, rfl⟩ (by kernel_rfl) rfl plain (by kernel_rfl)
end Go.Proofs.YtmjkhbjfacfmcaaDoor.natText
namespace Go.Proofs.YtmjkhbjfacfmcaaDoor
theorem natText_card : Rows.NatTextCardSaid := natText.card
end Go.Proofs.YtmjkhbjfacfmcaaDoor
end
