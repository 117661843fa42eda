/- The law NatText returns true for every input and never panics. This is part 2 of the proof: texts joined in order (PA19 PA20 PA22 PA24 PA25). Conditions: each theorem's own. -/
import Derived.Test.YtmjkhbjfacfmcaaDoorQT1
import Derived.Laws.StructEq
section
namespace Go.Proofs.YtmjkhbjfacfmcaaDoor.PA
open Go.RowKit Go.Proofs.YtmjkhbjfacfmcaaDoorW.PrintWords Go.Proofs.YtmjkhbjfacfmcaaDoorW.PrintLast Go.Proofs.YtmjkhbjfacfmcaaDoorW.PrintMore
attribute [local go_sem] max2_int min2_int max_two min_two max_three min_three max_four min_four
set_option linter.unusedVariables false
set_option linter.unusedSimpArgs false
def nat_Text.l0 : Nat → List ByteArray → List Int → Option (ByteArray)
  | 0, _, _ => none
  | k + 1, x3, x176000 => (nat_IsZero.f x176000).bind fun t177 => (if t177 = true then ((joinrev.f x3).bind fun t178 => (some t178)) else ((nat_short.f k x176000 1000000000).bind fun bt179 => ((nat_norm.f k bt179.1).bind fun t183 => ((strconv_Itoa.f (wrap64 (bt179.2))).bind fun t186 => ((nat_IsZero.f t183).bind fun t187 => (if t187 = true then (if x3.length < 8796093022208 then (nat_Text.l0 k (x3 ++ [t186]) t183) else (none)) else ((strings_Repeat.f (⟨#[48]⟩ : ByteArray) (wrap64 (9 - (t186.size : Int)))).bind fun t191 => (if t191.size + t186.size ≤ 9223372036854775807 then (if x3.length < 8796093022208 then (nat_Text.l0 k (x3 ++ [t191 ++ t186]) t183) else (none)) else (none)))))))))
def nat_Text.f (k : Nat) (l0_0 : List Int) : Option (ByteArray) := (nat_IsZero.f l0_0).bind fun t176 => (if t176 = true then (some (⟨#[48]⟩ : ByteArray)) else (nat_Text.l0 k ([] : List ByteArray) l0_0))
theorem nat_Text.mono_l : ∀ k, (∀ y0 y1, LeO (nat_Text.l0 k y0 y1) (nat_Text.l0 (k + 1) y0 y1))
  | 0 => fun _ _ r h => by simp [nat_Text.l0] at h
  | k + 1 => by
    have ih0 := nat_Text.mono_l k
    · intro y0 y1
      unfold nat_Text.l0
      repeat' first
      | (with_reducible exact ih0 _ _)
      | (with_reducible exact nat_norm.mono _ _)
      | (with_reducible exact nat_short.mono _ _ _)
      | (with_reducible exact LeO.refl _)
      | (with_reducible exact LeO.none _)
      | (with_reducible refine LeO.ite ?_ ?_)
      | (with_reducible refine LeO.bind ?_ (fun _ => ?_))
      | exact ih0 _ _
      | exact nat_norm.mono _ _
      | exact nat_short.mono _ _ _
      | exact LeO.none _
      | refine LeO.ite ?_ ?_
      | refine LeO.bind ?_ (fun _ => ?_)
theorem nat_Text.mono : ∀ a0 k, LeO (nat_Text.f k a0) (nat_Text.f (k + 1) a0) := by
  intro a0 k
  have ih0 := nat_Text.mono_l k
  unfold nat_Text.f
  repeat' first
      | (with_reducible exact ih0 _ _)
      | (with_reducible exact nat_norm.mono _ _)
      | (with_reducible exact nat_short.mono _ _ _)
      | (with_reducible exact LeO.refl _)
      | (with_reducible exact LeO.none _)
      | (with_reducible refine LeO.ite ?_ ?_)
      | (with_reducible refine LeO.bind ?_ (fun _ => ?_))
      | exact ih0 _ _
      | exact nat_norm.mono _ _
      | exact nat_short.mono _ _ _
      | exact LeO.none _
      | refine LeO.ite ?_ ?_
      | refine LeO.bind ?_ (fun _ => ?_)
set_option maxHeartbeats 8000000 in
set_option maxRecDepth 100000 in
theorem nat_Text.calls (k : Nat) (P0_0_ : Nat → Prop) (A0_0 : Option Addr) (c0_0 : Nat) (l0_0 : List Int) (r : ByteArray) (w : World) (hGl : GLw w) (hs0_0 : Kd.V (Kd.int .u32) 62 w w.heap.size (fun k_ => P0_0_ k_) (.slice A0_0 l0_0.length c0_0) l0_0) (h : nat_Text.f k l0_0 = some r) :
    Calls Tryd.prog 12 #[.agg #[.slice A0_0 l0_0.length c0_0]] w fun e w' => e = .returned (.string r) ∧ Below w.heap.size w w' := by
  have hu26 := Tryd.underlying26
  have HO0_0 := Aside0.mk (show Kd.V (Kd.int .u32) 62 w w.heap.size (fun k_ => (P0_0_ k_ ∨ w.heap.size ≤ k_)) (.slice A0_0 l0_0.length c0_0) l0_0 from Kd.V_mono hs0_0 (fun k_ hk => .inl hk))
  have HB := Aside0.mk (Below.refl w.heap.size w)
  have HGl := Aside0.mk hGl
  clear hGl
  have H : ((nat_IsZero.f l0_0).bind fun t176 => (if t176 = true then (some (⟨#[48]⟩ : ByteArray)) else (nat_Text.l0 k ([] : List ByteArray) l0_0))) = some r := h
  clear h
  replace H := Option.bind_eq_some_iff.mp H
  obtain ⟨t176, A20, H⟩ := H
  replace H : (if t176 = true then (some (⟨#[48]⟩ : ByteArray)) else (nat_Text.l0 k ([] : List ByteArray) l0_0)) = some r := H
  have A2 := Aside0.mk A20
  clear A20
  by_cases c3 : t176 = true
  · subst c3
    have H1 : (some (⟨#[48]⟩ : ByteArray)) = some r := by rw [if_pos rfl] at H; exact H
    clear H
    have H := H1
    clear H1
    obtain rfl := Option.some.inj H
    go_enter Tryd.func12, Tryd.ntmps12
    go_wp2_with (first | ((with_reducible refine gate_dst (N := 1) rfl ?_); refine box_event ?hg (N := 1) ?hd (cs := #[.slice A0_0 l0_0.length c0_0]) (t := 26) ?hr ?_; (case hd => rfl); (case hg => rfl); (case hr => first | (go_simp; done) | (go_simp; rfl)); intro gb175 hg w4 hbox hb; have n0_ := Aside0.mk (Kd.V_below (Kd.V_elderB (by (with_reducible repeat (first | apply Kd.V_alloc | apply Kd.V_drewN | apply Kd.V_drew)); exact HO0_0.out) gb175 (Nat.le_of_eq hg.symm)) hb); have n1_ := Aside0.mk (below_step (by repeat (first | (with_reducible first | exact HB.out | apply below_alloc | apply pw_below_drewN | apply below_drew1) | exact HB.out)) hb); have n2_ := Aside0.mk (hbox); have n3_ := Aside0.mk ((by rw [hg]; exact (below_size (by repeat (first | (with_reducible first | exact HB.out | apply below_alloc | apply pw_below_drewN | apply below_drew1) | exact HB.out))) : w.heap.size ≤ gb175)); have n4_ := Aside0.mk ((by rw [hg]; exact (below_size (by repeat (first | (with_reducible first | exact HB.out | apply below_alloc | apply pw_below_drewN | apply below_drew1) | exact HB.out))) : w.heap.size ≤ gb175)); clear HO0_0; clear HB; have HO0_0 := n0_; have HB := n1_; have BK175 := n2_; have GW175 := n3_; have GE175 := n4_; clear n0_ n1_ n2_ n3_ n4_; clear hb hbox hg; have hcz5_0 : w4.cell? ⟨gb175, 0, none⟩ = some (.slice A0_0 l0_0.length c0_0) := (blk_cell BK175.out 0).trans rfl; have hfz5_0 := blk_frozen BK175.out 0) | ((with_reducible refine gate_callee (f := 15) rfl ?_); refine goesL_ (some 10) rfl rfl Tryd.func15 (by kernel_rfl) rfl #[.agg #[.slice A0_0 l0_0.length c0_0]] rfl (by (try simp only [List.map_toArray, List.map_cons, List.map_nil]); first | done | rfl | (simp only [List.length_drop, List.length_take]; rfl)) ?_; (with_reducible refine (nat_IsZero.calls _ _ l0_0 true _ ?side1 ?side2 A2.out).mono ?_); (case side1 => repeat (first | exact (Kd.V_reads' HO0_0.out).2.2 | (with_reducible refine Kd.C_alloc ?_ _) | (with_reducible refine Kd.C_drewN ?_ _) | (with_reducible refine Kd.C_drew ?_))); (case side2 => exact (Kd.V_reads' HO0_0.out).2.1); rintro e w6 ⟨rfl, hb⟩; refine ⟨_, rfl, ?_⟩; have n0_ := Aside0.mk (Kd.V_below (by (with_reducible repeat (first | apply Kd.V_alloc | apply Kd.V_drewN | apply Kd.V_drew)); exact HO0_0.out) hb); have n1_ := Aside0.mk (blk_below (g := gb175) (o := .cells #[.slice A0_0 l0_0.length c0_0] 26 (0, 0)) (by (with_reducible repeat (first | refine blk_drewN ?_ _ | refine blk_drew ?_ | refine blk_alloc ?_ _)); exact BK175.out) hb); have n2_ := Aside0.mk (below_step (by repeat (first | (with_reducible first | exact HB.out | apply below_alloc | apply pw_below_drewN | apply below_drew1 | refine below_set ?_ GE175.out) | exact HB.out)) hb); clear HO0_0; clear BK175; clear HB; have HO0_0 := n0_; have BK175 := n1_; have HB := n2_; clear n0_ n1_ n2_; (try clear hb); (try clear hb2); (try clear hk); (try clear hi)))
    go_ret
    exact ⟨by first | rfl | (simp [errW_none, errW_some] <;> rfl) | (simp [*, errW_none, errW_some] <;> rfl), by repeat (first | (with_reducible first | exact HB.out | apply below_alloc | apply pw_below_drewN | apply below_drew1 | refine below_set ?_ GE175.out) | exact HB.out)⟩
  · replace c3 := Bool.eq_false_iff.mpr c3
    subst c3
    have H1 : (nat_Text.l0 k ([] : List ByteArray) l0_0) = some r := by rw [if_neg (show ¬ (false = true) by decide)] at H; exact H
    clear H
    have H := H1
    clear H1
    have H' := Aside0.mk H
    clear H
    go_enter Tryd.func12, Tryd.ntmps12
    go_wp2_with (first | ((with_reducible refine gate_dst (N := 1) rfl ?_); refine box_event ?hg (N := 1) ?hd (cs := #[.slice A0_0 l0_0.length c0_0]) (t := 26) ?hr ?_; (case hd => rfl); (case hg => rfl); (case hr => first | (go_simp; done) | (go_simp; rfl)); intro gb175 hg w7 hbox hb; have n0_ := Aside0.mk (Kd.V_below (Kd.V_elderB (by (with_reducible repeat (first | apply Kd.V_alloc | apply Kd.V_drewN | apply Kd.V_drew)); exact HO0_0.out) gb175 (Nat.le_of_eq hg.symm)) hb); have n1_ := Aside0.mk (below_step (by repeat (first | (with_reducible first | exact HB.out | apply below_alloc | apply pw_below_drewN | apply below_drew1) | exact HB.out)) hb); have n2_ := Aside0.mk (hbox); have n3_ := Aside0.mk ((by rw [hg]; exact (below_size (by repeat (first | (with_reducible first | exact HB.out | apply below_alloc | apply pw_below_drewN | apply below_drew1) | exact HB.out))) : w.heap.size ≤ gb175)); have n4_ := Aside0.mk ((by rw [hg]; exact (below_size (by repeat (first | (with_reducible first | exact HB.out | apply below_alloc | apply pw_below_drewN | apply below_drew1) | exact HB.out))) : w.heap.size ≤ gb175)); clear HO0_0; clear HB; have HO0_0 := n0_; have HB := n1_; have BK175 := n2_; have GW175 := n3_; have GE175 := n4_; clear n0_ n1_ n2_ n3_ n4_; clear hb hbox hg; have hcz8_0 : w7.cell? ⟨gb175, 0, none⟩ = some (.slice A0_0 l0_0.length c0_0) := (blk_cell BK175.out 0).trans rfl; have hfz8_0 := blk_frozen BK175.out 0) | ((with_reducible refine gate_callee (f := 15) rfl ?_); refine goesL_ (some 10) rfl rfl Tryd.func15 (by kernel_rfl) rfl #[.agg #[.slice A0_0 l0_0.length c0_0]] rfl (by (try simp only [List.map_toArray, List.map_cons, List.map_nil]); first | done | rfl | (simp only [List.length_drop, List.length_take]; rfl)) ?_; (with_reducible refine (nat_IsZero.calls _ _ l0_0 false _ ?side1 ?side2 A2.out).mono ?_); (case side1 => repeat (first | exact (Kd.V_reads' HO0_0.out).2.2 | (with_reducible refine Kd.C_alloc ?_ _) | (with_reducible refine Kd.C_drewN ?_ _) | (with_reducible refine Kd.C_drew ?_))); (case side2 => exact (Kd.V_reads' HO0_0.out).2.1); rintro e w9 ⟨rfl, hb⟩; refine ⟨_, rfl, ?_⟩; have n0_ := Aside0.mk (Kd.V_below (by (with_reducible repeat (first | apply Kd.V_alloc | apply Kd.V_drewN | apply Kd.V_drew)); exact HO0_0.out) hb); have n1_ := Aside0.mk (blk_below (g := gb175) (o := .cells #[.slice A0_0 l0_0.length c0_0] 26 (0, 0)) (by (with_reducible repeat (first | refine blk_drewN ?_ _ | refine blk_drew ?_ | refine blk_alloc ?_ _)); exact BK175.out) hb); have n2_ := Aside0.mk (below_step (by repeat (first | (with_reducible first | exact HB.out | apply below_alloc | apply pw_below_drewN | apply below_drew1 | refine below_set ?_ GE175.out) | exact HB.out)) hb); clear HO0_0; clear BK175; clear HB; have HO0_0 := n0_; have BK175 := n1_; have HB := n2_; clear n0_ n1_ n2_; (try clear hb); (try clear hb2); (try clear hk); (try clear hi)))
    (try simp only [Act.put, List.setIfInBounds_toArray, List.set_cons_zero, List.set_cons_succ])
    go_loopg [3] k (fun kq v3 w' => ∃ (x3_1 : List ByteArray) (x176000_1 : List Int) (u176000 : Value), Aside0 (nat_Text.l0 kq x3_1 x176000_1 = some r) ∧ Aside0 (kq ≤ k) ∧ Aside0 (Kd.R Kd.string 9 w' w.heap.size (fun k_ => (w.heap.size ≤ k_)) v3 x3_1) ∧ Aside0 (Kd.V (Kd.int .u32) 62 w' w.heap.size (fun k_ => (P0_0_ k_ ∨ w.heap.size ≤ k_) ∧ some k_ ≠ (v3 : Value).ownBlock ∧ k_ ≠ gb175) u176000 x176000_1) ∧ Aside0 (w'.heap[gb175]? = some (.cells #[u176000] 26 (0, 0))) ∧ Aside0 (Below w.heap.size w w'))
    case atStart => exact ⟨(([] : List ByteArray)), (l0_0), (.slice A0_0 l0_0.length c0_0), H', ⟨Nat.le_refl _⟩, ⟨by first | exact Kd.R_nil _ _ _ _ _ | exact Kd.N_nil _ _ _ _ _ | exact Kd.V_nil _ _ _ _ _ | exact Kd.Q_nil _ _ _ _ _ | exact Kd.S_nil _ _ _ _ _⟩, ⟨by (with_reducible repeat (first | apply Kd.V_alloc | apply Kd.V_drewN | apply Kd.V_drew)); exact Kd.V_mono HO0_0.out (fun _ hk => ⟨hk.1, ⟨(by simp [Value.ownBlock]), hk.2⟩⟩)⟩, ⟨by (with_reducible repeat (first | refine blk_drewN ?_ _ | refine blk_drew ?_ | refine blk_alloc ?_ _)); exact BK175.out⟩, ⟨by repeat (first | (with_reducible first | exact HB.out | apply below_alloc | apply pw_below_drewN | apply below_drew1 | refine below_set ?_ GE175.out) | exact HB.out)⟩⟩
    case round =>
      clear H'
      try clear c1
      try clear p2
      try clear c3
      try clear hcz5_0
      try clear hcz8_0
      try clear hfz5_0
      try clear hfz8_0
      obtain ⟨x3_1, x176000_1, u176000, HA, HK1, HO_3, HO_176000, BK175, HB⟩ := hrel
      cases gk with
      | zero => exact absurd HA.out (by simp [nat_Text.l0])
      | succ k1 =>
        have H := HA.out
        clear HA
        simp only [nat_Text.l0] at H
        replace H := Option.bind_eq_some_iff.mp H
        obtain ⟨t177, A100, H⟩ := H
        replace H : (if t177 = true then ((joinrev.f x3_1).bind fun t178 => (some t178)) else ((nat_short.f k1 x176000_1 1000000000).bind fun bt179 => ((nat_norm.f k1 bt179.1).bind fun t183 => ((strconv_Itoa.f (wrap64 (bt179.2))).bind fun t186 => ((nat_IsZero.f t183).bind fun t187 => (if t187 = true then (if x3_1.length < 8796093022208 then (nat_Text.l0 k1 (x3_1 ++ [t186]) t183) else (none)) else ((strings_Repeat.f (⟨#[48]⟩ : ByteArray) (wrap64 (9 - (t186.size : Int)))).bind fun t191 => (if t191.size + t186.size ≤ 9223372036854775807 then (if x3_1.length < 8796093022208 then (nat_Text.l0 k1 (x3_1 ++ [t191 ++ t186]) t183) else (none)) else (none))))))))) = some r := H
        have A10 := Aside0.mk A100
        clear A100
        by_cases c11 : t177 = true
        · subst c11
          have H1 : ((joinrev.f x3_1).bind fun t178 => (some t178)) = some r := by rw [if_pos rfl] at H; exact H
          clear H
          have H := H1
          clear H1
          replace H := Option.bind_eq_some_iff.mp H
          obtain ⟨t178, A120, H⟩ := H
          replace H : (some t178) = some r := H
          have A12 := Aside0.mk A120
          clear A120
          obtain rfl := Option.some.inj H
          have hcz13_0 : wr.cell? ⟨gb175, 0, none⟩ = some (u176000) := (blk_cell BK175.out 0).trans rfl
          have hfz13_0 := blk_frozen BK175.out 0
          obtain ⟨Ao14, co14, eo14⟩ := Kd.V_slice HO_176000.out
          subst eo14
          go_wp2_with (first | ((with_reducible refine gate_callee (f := 15) rfl ?_); refine goesL_ (some 12) rfl rfl Tryd.func15 (by kernel_rfl) rfl #[.agg #[.slice Ao14 x176000_1.length co14]] rfl (by (try simp only [List.map_toArray, List.map_cons, List.map_nil]); first | done | rfl | (simp only [List.length_drop, List.length_take]; rfl)) ?_; (with_reducible refine (nat_IsZero.calls _ _ x176000_1 true _ ?side1 ?side2 A10.out).mono ?_); (case side1 => repeat (first | exact (Kd.V_reads' HO_176000.out).2.2 | (with_reducible refine Kd.C_alloc ?_ _) | (with_reducible refine Kd.C_drewN ?_ _) | (with_reducible refine Kd.C_drew ?_))); (case side2 => exact (Kd.V_reads' HO_176000.out).2.1); rintro e w15 ⟨rfl, hb⟩; refine ⟨_, rfl, ?_⟩; have n0_ := Aside0.mk (Kd.R_below (by (with_reducible repeat (first | apply Kd.R_alloc | apply Kd.R_drewN | apply Kd.R_drew)); exact HO_3.out) hb); have n1_ := Aside0.mk (Kd.V_below (by (with_reducible repeat (first | apply Kd.V_alloc | apply Kd.V_drewN | apply Kd.V_drew)); exact HO_176000.out) hb); have n2_ := Aside0.mk (blk_below (g := gb175) (o := .cells #[.slice Ao14 x176000_1.length co14] 26 (0, 0)) (by (with_reducible repeat (first | refine blk_drewN ?_ _ | refine blk_drew ?_ | refine blk_alloc ?_ _)); exact BK175.out) hb); have n3_ := Aside0.mk (below_step (by repeat (first | (with_reducible first | exact HB.out | apply below_alloc | apply pw_below_drewN | apply below_drew1 | refine below_set ?_ GE175.out) | exact HB.out)) hb); clear HO_3; clear HO_176000; clear BK175; clear HB; have HO_3 := n0_; have HO_176000 := n1_; have BK175 := n2_; have HB := n3_; clear n0_ n1_ n2_ n3_; (try clear hb); (try clear hb2); (try clear hk); (try clear hi); obtain ⟨Ao16, co16, eo16⟩ := Kd.R_slice HO_3.out; subst eo16))
          have HRt := Aside0.mk (Kd.R_reads' HO_3.out).2.2
          have hlx : x3_1.length ≤ 9223372036854775807 := HRt.out.2.1
          obtain ⟨htot, hres⟩ := joinrev_some A12.out
          have HTt := Aside0.mk htot
          subst hres
          clear htot
          have HFr := Aside0.mk (Lib.fresh_isBuilder 70 5 w15)
          go_wp2
          go_loopg [8] (x3_1.length) (fun kq v8 w' => ∃ j : Nat, v8 = .int .i64 ((j : Int) - 1) ∧ Aside0 (j ≤ x3_1.length) ∧ Aside0 (kq = j) ∧ Aside0 (Lib.IsBuilder 70 5 w15.heap.size w15.heap.size (Lib.byteCells (revcat (x3_1.drop j))) w') ∧ Aside0 (Below w15.heap.size w15 w'))
          case atStart => exact ⟨x3_1.length, congrArg (Value.int .i64) (by first | rfl | (unfold wrap64; omega)), ⟨Nat.le_refl _⟩, ⟨rfl⟩, ⟨by rw [List.drop_length]; exact HFr.out⟩, ⟨below_alloc (Below.refl _ _) _⟩⟩
          case round =>
            obtain ⟨j, rfl, HJ1, HJ2, HBu, HBe⟩ := hrel
            cases j with
            | zero =>
              have HB2 := Aside0.mk (HB.out.trans (HBe.out.mono (below_size HB.out)))
              have hcon := builder_string HBu.out HBe.out.size
              rw [List.drop_zero] at hcon
              go_wp2_with (go_at_call 35; refine hcon.mono ?_; rintro e w17 ⟨rfl, hb⟩)
              go_ret
              exact ⟨rfl, HB.out.trans ((HBe.out.trans hb).mono (below_size HB.out))⟩
            | succ j =>
              have hj : j < x3_1.length := HJ1.out
              obtain ⟨adt, hat, hct⟩ := Kd.at_string HRt.out (j : Int) (by omega) (by omega)
              have hct2 := (HBe.out.cell (World.block_lt_of_cell? w15 _ hct)).trans hct
              have hst : rdOf ByteArray.empty x3_1 (j : Int) = x3_1[j] := by unfold rdOf; rw [Int.toNat_natCast, List.getD_eq_getElem?_getD, List.getElem?_eq_getElem hj]; rfl
              obtain ⟨st, hst2⟩ : ∃ s, s = rdOf ByteArray.empty x3_1 (j : Int) := ⟨_, rfl⟩
              rw [← hst2] at hct2 hst
              rw [Int.toNat_natCast] at hct2
              have HST := Aside0.mk hst
              have HCT := Aside0.mk hct
              subst hat
              clear hst hst2 hct
              have hlw : (Lib.byteCells (revcat (x3_1.drop (j + 1)))).length + st.size ≤ 140737488355328 := by
                have h1 := revcat_drop_le x3_1 j
                rw [revcat_drop x3_1 j hj, ← HST.out, List.length_append] at h1
                have h2 := HTt.out
                rw [Lib.byteCells_length]
                have h3 : st.data.toList.length = st.size := by rw [Array.length_toList]; rfl
                omega
              have HW := Aside0.mk (Tryd.Builder_WriteString w15.heap.size w15.heap.size _ st _ HBu.out hlw HBe.out.size)
              clear hlw
              simp only [show (((j + 1 : Nat) : Int) - 1) = (j : Int) from by omega]
              go_wp2_with (go_at_call 34; refine HW.out.mono ?_; rintro e w17 ⟨rfl, hbu, hbb⟩; have HBu2 := Aside0.mk hbu; have HBb2 := Aside0.mk hbb; clear hbu hbb)
              go_roundg j
              case measure => have := HJ2.out; omega
              case rel => exact ⟨j, by first | rfl | (congr 1; omega), ⟨by omega⟩, ⟨rfl⟩, ⟨by rw [revcat_drop x3_1 j hj, ← HST.out, Lib.byteCells_append]; exact .inr HBu2.out⟩, ⟨HBe.out.trans HBb2.out⟩⟩
        · replace c11 := Bool.eq_false_iff.mpr c11
          subst c11
          have H1 : ((nat_short.f k1 x176000_1 1000000000).bind fun bt179 => ((nat_norm.f k1 bt179.1).bind fun t183 => ((strconv_Itoa.f (wrap64 (bt179.2))).bind fun t186 => ((nat_IsZero.f t183).bind fun t187 => (if t187 = true then (if x3_1.length < 8796093022208 then (nat_Text.l0 k1 (x3_1 ++ [t186]) t183) else (none)) else ((strings_Repeat.f (⟨#[48]⟩ : ByteArray) (wrap64 (9 - (t186.size : Int)))).bind fun t191 => (if t191.size + t186.size ≤ 9223372036854775807 then (if x3_1.length < 8796093022208 then (nat_Text.l0 k1 (x3_1 ++ [t191 ++ t186]) t183) else (none)) else (none)))))))) = some r := by rw [if_neg (show ¬ (false = true) by decide)] at H; exact H
          clear H
          have H := H1
          clear H1
          replace H := Option.bind_eq_some_iff.mp H
          obtain ⟨⟨t179, t180⟩, A180, H⟩ := H
          replace H : ((nat_norm.f k1 t179).bind fun t183 => ((strconv_Itoa.f (wrap64 (t180))).bind fun t186 => ((nat_IsZero.f t183).bind fun t187 => (if t187 = true then (if x3_1.length < 8796093022208 then (nat_Text.l0 k1 (x3_1 ++ [t186]) t183) else (none)) else ((strings_Repeat.f (⟨#[48]⟩ : ByteArray) (wrap64 (9 - (t186.size : Int)))).bind fun t191 => (if t191.size + t186.size ≤ 9223372036854775807 then (if x3_1.length < 8796093022208 then (nat_Text.l0 k1 (x3_1 ++ [t191 ++ t186]) t183) else (none)) else (none))))))) = some r := H
          have A18 := Aside0.mk A180
          clear A180
          replace H := Option.bind_eq_some_iff.mp H
          obtain ⟨t183, A190, H⟩ := H
          replace H : ((strconv_Itoa.f (wrap64 (t180))).bind fun t186 => ((nat_IsZero.f t183).bind fun t187 => (if t187 = true then (if x3_1.length < 8796093022208 then (nat_Text.l0 k1 (x3_1 ++ [t186]) t183) else (none)) else ((strings_Repeat.f (⟨#[48]⟩ : ByteArray) (wrap64 (9 - (t186.size : Int)))).bind fun t191 => (if t191.size + t186.size ≤ 9223372036854775807 then (if x3_1.length < 8796093022208 then (nat_Text.l0 k1 (x3_1 ++ [t191 ++ t186]) t183) else (none)) else (none)))))) = some r := H
          have A19 := Aside0.mk A190
          clear A190
          replace H := Option.bind_eq_some_iff.mp H
          obtain ⟨t186, A200, H⟩ := H
          replace H : ((nat_IsZero.f t183).bind fun t187 => (if t187 = true then (if x3_1.length < 8796093022208 then (nat_Text.l0 k1 (x3_1 ++ [t186]) t183) else (none)) else ((strings_Repeat.f (⟨#[48]⟩ : ByteArray) (wrap64 (9 - (t186.size : Int)))).bind fun t191 => (if t191.size + t186.size ≤ 9223372036854775807 then (if x3_1.length < 8796093022208 then (nat_Text.l0 k1 (x3_1 ++ [t191 ++ t186]) t183) else (none)) else (none))))) = some r := H
          have A20 := Aside0.mk A200
          clear A200
          replace H := Option.bind_eq_some_iff.mp H
          obtain ⟨t187, A210, H⟩ := H
          replace H : (if t187 = true then (if x3_1.length < 8796093022208 then (nat_Text.l0 k1 (x3_1 ++ [t186]) t183) else (none)) else ((strings_Repeat.f (⟨#[48]⟩ : ByteArray) (wrap64 (9 - (t186.size : Int)))).bind fun t191 => (if t191.size + t186.size ≤ 9223372036854775807 then (if x3_1.length < 8796093022208 then (nat_Text.l0 k1 (x3_1 ++ [t191 ++ t186]) t183) else (none)) else (none)))) = some r := H
          have A21 := Aside0.mk A210
          clear A210
          by_cases c22 : t187 = true
          · subst c22
            have H1 : (if x3_1.length < 8796093022208 then (nat_Text.l0 k1 (x3_1 ++ [t186]) t183) else (none)) = some r := by rw [if_pos rfl] at H; exact H
            clear H
            have H := H1
            clear H1
            by_cases c23 : x3_1.length < 8796093022208
            · rw [if_pos c23] at H
              have LMc23 := Aside0.mk c23
              clear c23
              obtain ⟨y188, hy188⟩ : ∃ y_ : List ByteArray, y_ = (x3_1 ++ [t186]) := ⟨_, rfl⟩
              replace H : (nat_Text.l0 k1 y188 t183) = some r := by first | (rw [hy188]; with_reducible exact H) | (have H2_ := (Option.bind_some _ _).symm.trans H; rw [hy188]; with_reducible exact H2_) | (have H2_ := (Option.bind_some _ _).symm.trans H; with_reducible exact H2_) | with_reducible exact H | (rw [hy188]; exact H) | exact H
              have Ny188 := Aside0.mk hy188
              clear hy188
              have H' := Aside0.mk H
              clear H
              have hcz24_0 : wr.cell? ⟨gb175, 0, none⟩ = some (u176000) := (blk_cell BK175.out 0).trans rfl
              have hfz24_0 := blk_frozen BK175.out 0
              obtain ⟨Ao25, co25, eo25⟩ := Kd.V_slice HO_176000.out
              subst eo25
              go_wp2_with (first | ((with_reducible refine gate_callee (f := 15) rfl ?_); refine goesL_ (some 12) rfl rfl Tryd.func15 (by kernel_rfl) rfl #[.agg #[.slice Ao25 x176000_1.length co25]] rfl (by (try simp only [List.map_toArray, List.map_cons, List.map_nil]); first | done | rfl | (simp only [List.length_drop, List.length_take]; rfl)) ?_; (with_reducible refine (nat_IsZero.calls _ _ x176000_1 false _ ?side1 ?side2 A10.out).mono ?_); (case side1 => repeat (first | exact (Kd.V_reads' HO_176000.out).2.2 | (with_reducible refine Kd.C_alloc ?_ _) | (with_reducible refine Kd.C_drewN ?_ _) | (with_reducible refine Kd.C_drew ?_))); (case side2 => exact (Kd.V_reads' HO_176000.out).2.1); rintro e w26 ⟨rfl, hb⟩; refine ⟨_, rfl, ?_⟩; have n0_ := Aside0.mk (Kd.R_below (by (with_reducible repeat (first | apply Kd.R_alloc | apply Kd.R_drewN | apply Kd.R_drew)); exact HO_3.out) hb); have n1_ := Aside0.mk (Kd.V_below (by (with_reducible repeat (first | apply Kd.V_alloc | apply Kd.V_drewN | apply Kd.V_drew)); exact HO_176000.out) hb); have n2_ := Aside0.mk (blk_below (g := gb175) (o := .cells #[.slice Ao25 x176000_1.length co25] 26 (0, 0)) (by (with_reducible repeat (first | refine blk_drewN ?_ _ | refine blk_drew ?_ | refine blk_alloc ?_ _)); exact BK175.out) hb); have n3_ := Aside0.mk (below_step (by repeat (first | (with_reducible first | exact HB.out | apply below_alloc | apply pw_below_drewN | apply below_drew1 | refine below_set ?_ GE175.out) | exact HB.out)) hb); clear HO_3; clear HO_176000; clear BK175; clear HB; have HO_3 := n0_; have HO_176000 := n1_; have BK175 := n2_; have HB := n3_; clear n0_ n1_ n2_ n3_; (try clear hb); (try clear hb2); (try clear hk); (try clear hi); have hcz27_0 : w26.cell? ⟨gb175, 0, none⟩ = some (.slice Ao25 x176000_1.length co25) := (blk_cell BK175.out 0).trans rfl; have hfz27_0 := blk_frozen BK175.out 0) | ((with_reducible refine gate_callee (f := 30) rfl ?_); refine goesL_ (some 17) rfl rfl Tryd.func30 (by kernel_rfl) rfl #[.slice Ao25 x176000_1.length co25, .int .u32 1000000000] rfl (by (try simp only [List.map_toArray, List.map_cons, List.map_nil]); first | done | rfl | (simp only [List.length_drop, List.length_take]; rfl)) ?_; (with_reducible refine (nat_short.calls k1 _ _ x176000_1 1000000000 t179 t180 _ ?side1 ?side2 A18.out).mono ?_); (case side1 => repeat (first | exact (Kd.V_reads' HO_176000.out).2.2 | (with_reducible refine Kd.C_alloc ?_ _) | (with_reducible refine Kd.C_drewN ?_ _) | (with_reducible refine Kd.C_drew ?_))); (case side2 => exact (Kd.V_reads' HO_176000.out).2.1); rintro e w28 ⟨v181, rfl, ho0, hb⟩; refine ⟨_, rfl, ?_⟩; have n0_ := Aside0.mk (Kd.R_below (by (with_reducible repeat (first | apply Kd.R_alloc | apply Kd.R_drewN | apply Kd.R_drew)); exact HO_3.out) hb); have n1_ := Aside0.mk (Kd.V_elder' (by (with_reducible repeat (first | apply Kd.V_alloc | apply Kd.V_drewN | apply Kd.V_drew)); exact HO_176000.out) (Kd.R_base ho0) hb); have n2_ := Aside0.mk (Kd.R_lower (Kd.R_newM (M := fun k_ => (w.heap.size ≤ k_)) ho0 (below_size (by repeat (first | (with_reducible first | exact HB.out | apply below_alloc | apply pw_below_drewN | apply below_drew1 | refine below_set ?_ GE175.out) | exact HB.out))) (fun k_ h_ => h_)) (below_size (by repeat (first | (with_reducible first | exact HB.out | apply below_alloc | apply pw_below_drewN | apply below_drew1 | refine below_set ?_ GE175.out) | exact HB.out)))); have n3_ := Aside0.mk (blk_below (g := gb175) (o := .cells #[.slice Ao25 x176000_1.length co25] 26 (0, 0)) (by (with_reducible repeat (first | refine blk_drewN ?_ _ | refine blk_drew ?_ | refine blk_alloc ?_ _)); exact BK175.out) hb); have n4_ := Aside0.mk (below_step (by repeat (first | (with_reducible first | exact HB.out | apply below_alloc | apply pw_below_drewN | apply below_drew1 | refine below_set ?_ GE175.out) | exact HB.out)) hb); clear HO_3; clear HO_176000; clear BK175; clear HB; have HO_3 := n0_; have HO_176000 := n1_; have HO182 := n2_; have BK175 := n3_; have HB := n4_; clear n0_ n1_ n2_ n3_ n4_; (try clear hb); (try clear hb2); (try clear hk); (try clear hi); (try clear ho0); obtain ⟨Ao29, co29, eo29⟩ := Kd.R_slice HO182.out; subst eo29) | ((with_reducible refine gate_callee (f := 31) rfl ?_); refine goesL_ (some 21) rfl rfl Tryd.func31 (by kernel_rfl) rfl #[.slice Ao29 t179.length co29] rfl (by (try simp only [List.map_toArray, List.map_cons, List.map_nil]); first | done | rfl | (simp only [List.length_drop, List.length_take]; rfl)) ?_; (with_reducible refine (nat_norm.calls k1 (fun k_ => some k_ = (.slice Ao29 t179.length co29 : Value).ownBlock) _ _ t179 t183 _ ?side1 A19.out).mono ?_); (case side1 => exact Kd.R_V (Kd.R_tight rfl (Kd.R_types (Kd.R_apart' (HO182.out) (Kd.R_typed HO_3.out) (by decide)) BK175.out (by decide)))); rintro e w30 ⟨v184, rfl, ho0, hb⟩; refine ⟨_, rfl, ?_⟩; have n0_ := Aside0.mk (Kd.R_below (by (with_reducible repeat (first | apply Kd.R_alloc | apply Kd.R_drewN | apply Kd.R_drew)); exact HO_3.out) hb); have n1_ := Aside0.mk (Kd.V_below (by (with_reducible repeat (first | apply Kd.V_alloc | apply Kd.V_drewN | apply Kd.V_drew)); exact HO_176000.out) hb); have n2_ := Aside0.mk (Kd.R_below (by (with_reducible repeat (first | apply Kd.R_alloc | apply Kd.R_drewN | apply Kd.R_drew)); exact HO182.out) hb); have n3_ := Aside0.mk (Kd.V_lower (Kd.V_mono (ok' := fun k_ => (P0_0_ k_ ∨ w.heap.size ≤ k_) ∧ some k_ ≠ (u3 : Value).ownBlock ∧ k_ ≠ gb175) ho0 (fun k_ hk_ => ⟨Or.elim hk_ (fun hs_ => (.inr (((Kd.R_types (Kd.R_apart' (HO182.out) (Kd.R_typed HO_3.out) (by decide)) BK175.out (by decide)).1 k_ hs_.symm).1.1.1))) (fun hn_ => (.inr (Nat.le_trans (below_size (by repeat (first | (with_reducible first | exact HB.out | apply below_alloc | apply pw_below_drewN | apply below_drew1 | refine below_set ?_ GE175.out) | exact HB.out))) hn_))), Or.elim hk_ (fun hs_ => ((Kd.R_types (Kd.R_apart' (HO182.out) (Kd.R_typed HO_3.out) (by decide)) BK175.out (by decide)).1 k_ hs_.symm).1.2) (fun hn_ => (Kd.fresh' (Kd.R_lt (by (with_reducible repeat (first | apply Kd.R_alloc | apply Kd.R_drewN | apply Kd.R_drew)); exact HO_3.out)) k_ hn_)), Or.elim hk_ (fun hs_ => ((Kd.R_types (Kd.R_apart' (HO182.out) (Kd.R_typed HO_3.out) (by decide)) BK175.out (by decide)).1 k_ hs_.symm).2) (fun hn_ => (Kd.freshB (g := gb175) (o := .cells #[.slice Ao25 x176000_1.length co25] 26 (0, 0)) (by (with_reducible repeat (first | refine blk_drewN ?_ _ | refine blk_drew ?_ | refine blk_alloc ?_ _)); exact BK175.out) k_ hn_))⟩)) (below_size (by repeat (first | (with_reducible first | exact HB.out | apply below_alloc | apply pw_below_drewN | apply below_drew1 | refine below_set ?_ GE175.out) | exact HB.out)))); have n4_ := Aside0.mk (blk_below (g := gb175) (o := .cells #[.slice Ao25 x176000_1.length co25] 26 (0, 0)) (by (with_reducible repeat (first | refine blk_drewN ?_ _ | refine blk_drew ?_ | refine blk_alloc ?_ _)); exact BK175.out) hb); have n5_ := Aside0.mk (below_step (by repeat (first | (with_reducible first | exact HB.out | apply below_alloc | apply pw_below_drewN | apply below_drew1 | refine below_set ?_ GE175.out) | exact HB.out)) hb); clear HO_3; clear HO_176000; clear HO182; clear BK175; clear HB; have HO_3 := n0_; have HO_176000 := n1_; have HO182 := n2_; have HO185 := n3_; have BK175 := n4_; have HB := n5_; clear n0_ n1_ n2_ n3_ n4_ n5_; (try clear hb); (try clear hb2); (try clear hk); (try clear hi); (try clear ho0); obtain ⟨Ao31, co31, eo31⟩ := Kd.V_slice HO185.out; subst eo31; have hcz32_0 : w30.cell? ⟨gb175, 0, none⟩ = some (.slice Ao25 x176000_1.length co25) := (blk_cell BK175.out 0).trans rfl; have hfz32_0 := blk_frozen BK175.out 0) | ((with_reducible refine gate_callee (f := 32) rfl ?_); refine goesL_ (some 24) rfl rfl Tryd.func32 (by kernel_rfl) rfl #[.int .i64 (wrap64 (t180))] rfl (by (try simp only [List.map_toArray, List.map_cons, List.map_nil]); first | done | rfl | (simp only [List.length_drop, List.length_take]; rfl)) ?_; (with_reducible refine (strconv_Itoa.calls (wrap64 (t180)) t186 _ ?side1 A20.out).mono ?_); (case side1 => first | exact GLw.mono HGl.out (by repeat (first | (with_reducible first | exact HB.out | apply below_alloc | apply pw_below_drewN | apply below_drew1 | refine below_set ?_ GE175.out) | exact HB.out)) | (repeat first | apply GLw.drewN | apply GLw.drew); exact HGl.out); rintro e w33 ⟨rfl, hb⟩; refine ⟨_, rfl, ?_⟩; have n0_ := Aside0.mk (Kd.R_below (by (with_reducible repeat (first | apply Kd.R_alloc | apply Kd.R_drewN | apply Kd.R_drew)); exact (Kd.R_mono (Kd.R_far (p := ⟨gb175, 0, none⟩) (Kd.R_types HO_3.out BK175.out (by decide)) (fun _ hk => hk.2) (.slice Ao31 t183.length co31)) (fun _ h_ => h_.1))) hb); have n1_ := Aside0.mk (Kd.V_below (by (with_reducible repeat (first | apply Kd.V_alloc | apply Kd.V_drewN | apply Kd.V_drew)); exact (Kd.V_mono (Kd.V_far (p := ⟨gb175, 0, none⟩) (Kd.V_mono HO_176000.out (fun k_ hk => (⟨hk, hk.1.2.2⟩ : _ ∧ k_ ≠ gb175))) (fun _ hk => hk.2) (.slice Ao31 t183.length co31)) (fun _ h_ => h_.1))) hb); have n2_ := Aside0.mk (Kd.R_below (by (with_reducible repeat (first | apply Kd.R_alloc | apply Kd.R_drewN | apply Kd.R_drew)); exact (Kd.R_mono (Kd.R_far (p := ⟨gb175, 0, none⟩) (Kd.R_types HO182.out BK175.out (by decide)) (fun _ hk => hk.2) (.slice Ao31 t183.length co31)) (fun _ h_ => h_.1))) hb); have n3_ := Aside0.mk (Kd.V_below (by (with_reducible repeat (first | apply Kd.V_alloc | apply Kd.V_drewN | apply Kd.V_drew)); exact (Kd.V_mono (Kd.V_far (p := ⟨gb175, 0, none⟩) (Kd.V_mono HO185.out (fun k_ hk => (⟨hk, hk.2.2⟩ : _ ∧ k_ ≠ gb175))) (fun _ hk => hk.2) (.slice Ao31 t183.length co31)) (fun _ h_ => h_.1))) hb); have n4_ := Aside0.mk (blk_below (g := gb175) (o := .cells #[.slice Ao31 t183.length co31] 26 (0, 0)) (by (with_reducible repeat (first | refine blk_drewN ?_ _ | refine blk_drew ?_ | refine blk_alloc ?_ _)); refine blk_put (cs := #[.slice Ao25 x176000_1.length co25]) ?_ 0 _ rfl; (with_reducible repeat (first | refine blk_drewN ?_ _ | refine blk_drew ?_ | refine blk_alloc ?_ _)); exact BK175.out) hb); have n5_ := Aside0.mk (below_step (by repeat (first | (with_reducible first | exact HB.out | apply below_alloc | apply pw_below_drewN | apply below_drew1 | refine below_set ?_ GE175.out) | exact HB.out)) hb); clear HO_3; clear HO_176000; clear HO182; clear HO185; clear BK175; clear HB; have HO_3 := n0_; have HO_176000 := n1_; have HO182 := n2_; have HO185 := n3_; have BK175 := n4_; have HB := n5_; clear n0_ n1_ n2_ n3_ n4_ n5_; (try clear hb); (try clear hb2); (try clear hk); (try clear hi); have hcz34_0 : w33.cell? ⟨gb175, 0, none⟩ = some (.slice Ao31 t183.length co31) := (blk_cell BK175.out 0).trans rfl; have hfz34_0 := blk_frozen BK175.out 0) | ((with_reducible refine gate_callee (f := 15) rfl ?_); refine goesL_ (some 26) rfl rfl Tryd.func15 (by kernel_rfl) rfl #[.agg #[.slice Ao31 t183.length co31]] rfl (by (try simp only [List.map_toArray, List.map_cons, List.map_nil]); first | done | rfl | (simp only [List.length_drop, List.length_take]; rfl)) ?_; (with_reducible refine (nat_IsZero.calls _ _ t183 true _ ?side1 ?side2 A21.out).mono ?_); (case side1 => repeat (first | exact (Kd.V_reads' HO185.out).2.2 | (with_reducible refine Kd.C_alloc ?_ _) | (with_reducible refine Kd.C_drewN ?_ _) | (with_reducible refine Kd.C_drew ?_))); (case side2 => exact (Kd.V_reads' HO185.out).2.1); rintro e w35 ⟨rfl, hb⟩; refine ⟨_, rfl, ?_⟩; have n0_ := Aside0.mk (Kd.R_below (by (with_reducible repeat (first | apply Kd.R_alloc | apply Kd.R_drewN | apply Kd.R_drew)); exact HO_3.out) hb); have n1_ := Aside0.mk (Kd.V_below (by (with_reducible repeat (first | apply Kd.V_alloc | apply Kd.V_drewN | apply Kd.V_drew)); exact HO_176000.out) hb); have n2_ := Aside0.mk (Kd.R_below (by (with_reducible repeat (first | apply Kd.R_alloc | apply Kd.R_drewN | apply Kd.R_drew)); exact HO182.out) hb); have n3_ := Aside0.mk (Kd.V_below (by (with_reducible repeat (first | apply Kd.V_alloc | apply Kd.V_drewN | apply Kd.V_drew)); exact HO185.out) hb); have n4_ := Aside0.mk (blk_below (g := gb175) (o := .cells #[.slice Ao31 t183.length co31] 26 (0, 0)) (by (with_reducible repeat (first | refine blk_drewN ?_ _ | refine blk_drew ?_ | refine blk_alloc ?_ _)); exact BK175.out) hb); have n5_ := Aside0.mk (below_step (by repeat (first | (with_reducible first | exact HB.out | apply below_alloc | apply pw_below_drewN | apply below_drew1 | refine below_set ?_ GE175.out) | exact HB.out)) hb); clear HO_3; clear HO_176000; clear HO182; clear HO185; clear BK175; clear HB; have HO_3 := n0_; have HO_176000 := n1_; have HO182 := n2_; have HO185 := n3_; have BK175 := n4_; have HB := n5_; clear n0_ n1_ n2_ n3_ n4_ n5_; (try clear hb); (try clear hb2); (try clear hk); (try clear hi)) | ((with_reducible refine gate_builtin (b := .append) (xs := #[.tmp 34, .tmp 36]) rfl ?_); at_builtin; refine Kd.R_append Kd.string (w0 := w) w.heap.size rfl (.tmp 34) (.tmp 36) 61 9 (.string ⟨#[]⟩) 16 rfl Tryd.underlying61 info9 rfl (by decide) (by omega) u3 x3_1 t186 [.string t186] (fun k_ => (w.heap.size ≤ k_)) (fun _ => False) rfl rfl ?aP (fun _ hk => hk.elim) ?aF ?aO ?aB ?aS ?aL ?_; (case aP => exact rfl); (case aB => exact (by repeat (first | (with_reducible first | exact HB.out | apply below_alloc | apply pw_below_drewN | apply below_drew1 | refine below_set ?_ GE175.out) | exact HB.out))); (case aF => exact (fun k_ hk => (Nat.le_trans (below_size (by repeat (first | (with_reducible first | exact HB.out | apply below_alloc | apply pw_below_drewN | apply below_drew1 | refine below_set ?_ GE175.out) | exact HB.out))) hk))); (case aO => exact (by (with_reducible repeat (first | apply Kd.R_alloc | apply Kd.R_drewN | apply Kd.R_drew)); exact HO_3.out)); (case aS => exact (below_size (by repeat (first | (with_reducible first | exact HB.out | apply below_alloc | apply pw_below_drewN | apply below_drew1 | refine below_set ?_ GE175.out) | exact HB.out)))); (case aL => have := LMc23.out; omega); intro v189 w36 ho hb hg hat; rw [← Ny188.out] at ho; have n0_ := Aside0.mk (Kd.V_afterv (ok := (fun k_ => (P0_0_ k_ ∨ w.heap.size ≤ k_) ∧ some k_ ≠ (.slice Ao29 t179.length co29 : Value).ownBlock ∧ k_ ≠ gb175)) (by (with_reducible repeat (first | apply Kd.V_alloc | apply Kd.V_drewN | apply Kd.V_drew)); exact Kd.V_mono HO_176000.out (fun _ hk => ⟨⟨hk.1.1, ⟨hk.2, hk.1.2.2⟩⟩, hk.1.2.1⟩)) hg hat); have n1_ := Aside0.mk (blk_grown (g := gb175) (o := .cells #[.slice Ao31 t183.length co31] 26 (0, 0)) (by (with_reducible repeat (first | refine blk_drewN ?_ _ | refine blk_drew ?_ | refine blk_alloc ?_ _)); exact BK175.out) hg (Kd.R_ne HO_3.out BK175.out (by decide))); have n2_ := Aside0.mk (Kd.R_over' (by (with_reducible repeat (first | apply Kd.R_alloc | apply Kd.R_drewN | apply Kd.R_drew)); exact HO182.out) (Kd.R_typed (by (with_reducible repeat (first | apply Kd.R_alloc | apply Kd.R_drewN | apply Kd.R_drew)); exact HO_3.out)) (by decide) hg); have n3_ := Aside0.mk (Kd.V_afterv (ok := (fun k_ => (P0_0_ k_ ∨ w.heap.size ≤ k_) ∧ k_ ≠ gb175)) (by (with_reducible repeat (first | apply Kd.V_alloc | apply Kd.V_drewN | apply Kd.V_drew)); exact Kd.V_mono HO185.out (fun _ hk => ⟨⟨hk.1, hk.2.2⟩, hk.2.1⟩)) hg hat); have n4_ := Aside0.mk (hb); have n5_ := Aside0.mk (ho); clear HO_176000; clear BK175; clear HO182; clear HO185; clear HB; clear HO_3; have HO_176000 := n0_; have BK175 := n1_; have HO182 := n2_; have HO185 := n3_; have HB := n4_; have HO190 := n5_; clear n0_ n1_ n2_ n3_ n4_ n5_; clear ho hb hg hat))
              go_roundg k1
              case measure => have := HK1.out; omega
              case rel => exact ⟨(y188), (t183), (.slice Ao31 t183.length co31), H', ⟨by have := HK1.out; omega⟩, ⟨by (with_reducible repeat (first | apply Kd.R_alloc | apply Kd.R_drewN | apply Kd.R_drew)); exact HO190.out⟩, ⟨by (with_reducible repeat (first | apply Kd.V_alloc | apply Kd.V_drewN | apply Kd.V_drew)); exact Kd.V_mono HO185.out (fun _ hk => ⟨hk.1.1, ⟨hk.2, hk.1.2⟩⟩)⟩, ⟨by (with_reducible repeat (first | refine blk_drewN ?_ _ | refine blk_drew ?_ | refine blk_alloc ?_ _)); exact BK175.out⟩, ⟨by repeat (first | (with_reducible first | exact HB.out | apply below_alloc | apply pw_below_drewN | apply below_drew1 | refine below_set ?_ GE175.out) | exact HB.out)⟩⟩
            · rw [if_neg c23] at H
              exact absurd H (by simp)
          · replace c22 := Bool.eq_false_iff.mpr c22
            subst c22
            have H1 : ((strings_Repeat.f (⟨#[48]⟩ : ByteArray) (wrap64 (9 - (t186.size : Int)))).bind fun t191 => (if t191.size + t186.size ≤ 9223372036854775807 then (if x3_1.length < 8796093022208 then (nat_Text.l0 k1 (x3_1 ++ [t191 ++ t186]) t183) else (none)) else (none))) = some r := by rw [if_neg (show ¬ (false = true) by decide)] at H; exact H
            clear H
            have H := H1
            clear H1
            replace H := Option.bind_eq_some_iff.mp H
            obtain ⟨t191, A370, H⟩ := H
            replace H : (if t191.size + t186.size ≤ 9223372036854775807 then (if x3_1.length < 8796093022208 then (nat_Text.l0 k1 (x3_1 ++ [t191 ++ t186]) t183) else (none)) else (none)) = some r := H
            have A37 := Aside0.mk A370
            clear A370
            by_cases c38 : t191.size + t186.size ≤ 9223372036854775807
            · rw [if_pos c38] at H
              have c38b0 := eq_true c38
              have c38b1 : decide (t191.size + t186.size ≤ 9223372036854775807) = true := decide_eq_true c38
              try have c38b2 : (9223372036854775807 < t191.size + t186.size) = False := eq_false (Nat.not_lt.2 c38)
              by_cases c39 : x3_1.length < 8796093022208
              · rw [if_pos c39] at H
                have LMc39 := Aside0.mk c39
                clear c39
                obtain ⟨y192, hy192⟩ : ∃ y_ : List ByteArray, y_ = (x3_1 ++ [t191 ++ t186]) := ⟨_, rfl⟩
                replace H : (nat_Text.l0 k1 y192 t183) = some r := by first | (rw [hy192]; with_reducible exact H) | (have H2_ := (Option.bind_some _ _).symm.trans H; rw [hy192]; with_reducible exact H2_) | (have H2_ := (Option.bind_some _ _).symm.trans H; with_reducible exact H2_) | with_reducible exact H | (rw [hy192]; exact H) | exact H
                have Ny192 := Aside0.mk hy192
                clear hy192
                have H' := Aside0.mk H
                clear H
                have hcz40_0 : wr.cell? ⟨gb175, 0, none⟩ = some (u176000) := (blk_cell BK175.out 0).trans rfl
                have hfz40_0 := blk_frozen BK175.out 0
                obtain ⟨Ao41, co41, eo41⟩ := Kd.V_slice HO_176000.out
                subst eo41
                go_wp2_with (first | ((with_reducible refine gate_callee (f := 15) rfl ?_); refine goesL_ (some 12) rfl rfl Tryd.func15 (by kernel_rfl) rfl #[.agg #[.slice Ao41 x176000_1.length co41]] rfl (by (try simp only [List.map_toArray, List.map_cons, List.map_nil]); first | done | rfl | (simp only [List.length_drop, List.length_take]; rfl)) ?_; (with_reducible refine (nat_IsZero.calls _ _ x176000_1 false _ ?side1 ?side2 A10.out).mono ?_); (case side1 => repeat (first | exact (Kd.V_reads' HO_176000.out).2.2 | (with_reducible refine Kd.C_alloc ?_ _) | (with_reducible refine Kd.C_drewN ?_ _) | (with_reducible refine Kd.C_drew ?_))); (case side2 => exact (Kd.V_reads' HO_176000.out).2.1); rintro e w42 ⟨rfl, hb⟩; refine ⟨_, rfl, ?_⟩; have n0_ := Aside0.mk (Kd.R_below (by (with_reducible repeat (first | apply Kd.R_alloc | apply Kd.R_drewN | apply Kd.R_drew)); exact HO_3.out) hb); have n1_ := Aside0.mk (Kd.V_below (by (with_reducible repeat (first | apply Kd.V_alloc | apply Kd.V_drewN | apply Kd.V_drew)); exact HO_176000.out) hb); have n2_ := Aside0.mk (blk_below (g := gb175) (o := .cells #[.slice Ao41 x176000_1.length co41] 26 (0, 0)) (by (with_reducible repeat (first | refine blk_drewN ?_ _ | refine blk_drew ?_ | refine blk_alloc ?_ _)); exact BK175.out) hb); have n3_ := Aside0.mk (below_step (by repeat (first | (with_reducible first | exact HB.out | apply below_alloc | apply pw_below_drewN | apply below_drew1 | refine below_set ?_ GE175.out) | exact HB.out)) hb); clear HO_3; clear HO_176000; clear BK175; clear HB; have HO_3 := n0_; have HO_176000 := n1_; have BK175 := n2_; have HB := n3_; clear n0_ n1_ n2_ n3_; (try clear hb); (try clear hb2); (try clear hk); (try clear hi); have hcz43_0 : w42.cell? ⟨gb175, 0, none⟩ = some (.slice Ao41 x176000_1.length co41) := (blk_cell BK175.out 0).trans rfl; have hfz43_0 := blk_frozen BK175.out 0) | ((with_reducible refine gate_callee (f := 30) rfl ?_); refine goesL_ (some 17) rfl rfl Tryd.func30 (by kernel_rfl) rfl #[.slice Ao41 x176000_1.length co41, .int .u32 1000000000] rfl (by (try simp only [List.map_toArray, List.map_cons, List.map_nil]); first | done | rfl | (simp only [List.length_drop, List.length_take]; rfl)) ?_; (with_reducible refine (nat_short.calls k1 _ _ x176000_1 1000000000 t179 t180 _ ?side1 ?side2 A18.out).mono ?_); (case side1 => repeat (first | exact (Kd.V_reads' HO_176000.out).2.2 | (with_reducible refine Kd.C_alloc ?_ _) | (with_reducible refine Kd.C_drewN ?_ _) | (with_reducible refine Kd.C_drew ?_))); (case side2 => exact (Kd.V_reads' HO_176000.out).2.1); rintro e w44 ⟨v181, rfl, ho0, hb⟩; refine ⟨_, rfl, ?_⟩; have n0_ := Aside0.mk (Kd.R_below (by (with_reducible repeat (first | apply Kd.R_alloc | apply Kd.R_drewN | apply Kd.R_drew)); exact HO_3.out) hb); have n1_ := Aside0.mk (Kd.V_elder' (by (with_reducible repeat (first | apply Kd.V_alloc | apply Kd.V_drewN | apply Kd.V_drew)); exact HO_176000.out) (Kd.R_base ho0) hb); have n2_ := Aside0.mk (Kd.R_lower (Kd.R_newM (M := fun k_ => (w.heap.size ≤ k_)) ho0 (below_size (by repeat (first | (with_reducible first | exact HB.out | apply below_alloc | apply pw_below_drewN | apply below_drew1 | refine below_set ?_ GE175.out) | exact HB.out))) (fun k_ h_ => h_)) (below_size (by repeat (first | (with_reducible first | exact HB.out | apply below_alloc | apply pw_below_drewN | apply below_drew1 | refine below_set ?_ GE175.out) | exact HB.out)))); have n3_ := Aside0.mk (blk_below (g := gb175) (o := .cells #[.slice Ao41 x176000_1.length co41] 26 (0, 0)) (by (with_reducible repeat (first | refine blk_drewN ?_ _ | refine blk_drew ?_ | refine blk_alloc ?_ _)); exact BK175.out) hb); have n4_ := Aside0.mk (below_step (by repeat (first | (with_reducible first | exact HB.out | apply below_alloc | apply pw_below_drewN | apply below_drew1 | refine below_set ?_ GE175.out) | exact HB.out)) hb); clear HO_3; clear HO_176000; clear BK175; clear HB; have HO_3 := n0_; have HO_176000 := n1_; have HO182 := n2_; have BK175 := n3_; have HB := n4_; clear n0_ n1_ n2_ n3_ n4_; (try clear hb); (try clear hb2); (try clear hk); (try clear hi); (try clear ho0); obtain ⟨Ao45, co45, eo45⟩ := Kd.R_slice HO182.out; subst eo45) | ((with_reducible refine gate_callee (f := 31) rfl ?_); refine goesL_ (some 21) rfl rfl Tryd.func31 (by kernel_rfl) rfl #[.slice Ao45 t179.length co45] rfl (by (try simp only [List.map_toArray, List.map_cons, List.map_nil]); first | done | rfl | (simp only [List.length_drop, List.length_take]; rfl)) ?_; (with_reducible refine (nat_norm.calls k1 (fun k_ => some k_ = (.slice Ao45 t179.length co45 : Value).ownBlock) _ _ t179 t183 _ ?side1 A19.out).mono ?_); (case side1 => exact Kd.R_V (Kd.R_tight rfl (Kd.R_types (Kd.R_apart' (HO182.out) (Kd.R_typed HO_3.out) (by decide)) BK175.out (by decide)))); rintro e w46 ⟨v184, rfl, ho0, hb⟩; refine ⟨_, rfl, ?_⟩; have n0_ := Aside0.mk (Kd.R_below (by (with_reducible repeat (first | apply Kd.R_alloc | apply Kd.R_drewN | apply Kd.R_drew)); exact HO_3.out) hb); have n1_ := Aside0.mk (Kd.V_below (by (with_reducible repeat (first | apply Kd.V_alloc | apply Kd.V_drewN | apply Kd.V_drew)); exact HO_176000.out) hb); have n2_ := Aside0.mk (Kd.R_below (by (with_reducible repeat (first | apply Kd.R_alloc | apply Kd.R_drewN | apply Kd.R_drew)); exact HO182.out) hb); have n3_ := Aside0.mk (Kd.V_lower (Kd.V_mono (ok' := fun k_ => (P0_0_ k_ ∨ w.heap.size ≤ k_) ∧ some k_ ≠ (u3 : Value).ownBlock ∧ k_ ≠ gb175) ho0 (fun k_ hk_ => ⟨Or.elim hk_ (fun hs_ => (.inr (((Kd.R_types (Kd.R_apart' (HO182.out) (Kd.R_typed HO_3.out) (by decide)) BK175.out (by decide)).1 k_ hs_.symm).1.1.1))) (fun hn_ => (.inr (Nat.le_trans (below_size (by repeat (first | (with_reducible first | exact HB.out | apply below_alloc | apply pw_below_drewN | apply below_drew1 | refine below_set ?_ GE175.out) | exact HB.out))) hn_))), Or.elim hk_ (fun hs_ => ((Kd.R_types (Kd.R_apart' (HO182.out) (Kd.R_typed HO_3.out) (by decide)) BK175.out (by decide)).1 k_ hs_.symm).1.2) (fun hn_ => (Kd.fresh' (Kd.R_lt (by (with_reducible repeat (first | apply Kd.R_alloc | apply Kd.R_drewN | apply Kd.R_drew)); exact HO_3.out)) k_ hn_)), Or.elim hk_ (fun hs_ => ((Kd.R_types (Kd.R_apart' (HO182.out) (Kd.R_typed HO_3.out) (by decide)) BK175.out (by decide)).1 k_ hs_.symm).2) (fun hn_ => (Kd.freshB (g := gb175) (o := .cells #[.slice Ao41 x176000_1.length co41] 26 (0, 0)) (by (with_reducible repeat (first | refine blk_drewN ?_ _ | refine blk_drew ?_ | refine blk_alloc ?_ _)); exact BK175.out) k_ hn_))⟩)) (below_size (by repeat (first | (with_reducible first | exact HB.out | apply below_alloc | apply pw_below_drewN | apply below_drew1 | refine below_set ?_ GE175.out) | exact HB.out)))); have n4_ := Aside0.mk (blk_below (g := gb175) (o := .cells #[.slice Ao41 x176000_1.length co41] 26 (0, 0)) (by (with_reducible repeat (first | refine blk_drewN ?_ _ | refine blk_drew ?_ | refine blk_alloc ?_ _)); exact BK175.out) hb); have n5_ := Aside0.mk (below_step (by repeat (first | (with_reducible first | exact HB.out | apply below_alloc | apply pw_below_drewN | apply below_drew1 | refine below_set ?_ GE175.out) | exact HB.out)) hb); clear HO_3; clear HO_176000; clear HO182; clear BK175; clear HB; have HO_3 := n0_; have HO_176000 := n1_; have HO182 := n2_; have HO185 := n3_; have BK175 := n4_; have HB := n5_; clear n0_ n1_ n2_ n3_ n4_ n5_; (try clear hb); (try clear hb2); (try clear hk); (try clear hi); (try clear ho0); obtain ⟨Ao47, co47, eo47⟩ := Kd.V_slice HO185.out; subst eo47; have hcz48_0 : w46.cell? ⟨gb175, 0, none⟩ = some (.slice Ao41 x176000_1.length co41) := (blk_cell BK175.out 0).trans rfl; have hfz48_0 := blk_frozen BK175.out 0) | ((with_reducible refine gate_callee (f := 32) rfl ?_); refine goesL_ (some 24) rfl rfl Tryd.func32 (by kernel_rfl) rfl #[.int .i64 (wrap64 (t180))] rfl (by (try simp only [List.map_toArray, List.map_cons, List.map_nil]); first | done | rfl | (simp only [List.length_drop, List.length_take]; rfl)) ?_; (with_reducible refine (strconv_Itoa.calls (wrap64 (t180)) t186 _ ?side1 A20.out).mono ?_); (case side1 => first | exact GLw.mono HGl.out (by repeat (first | (with_reducible first | exact HB.out | apply below_alloc | apply pw_below_drewN | apply below_drew1 | refine below_set ?_ GE175.out) | exact HB.out)) | (repeat first | apply GLw.drewN | apply GLw.drew); exact HGl.out); rintro e w49 ⟨rfl, hb⟩; refine ⟨_, rfl, ?_⟩; have n0_ := Aside0.mk (Kd.R_below (by (with_reducible repeat (first | apply Kd.R_alloc | apply Kd.R_drewN | apply Kd.R_drew)); exact (Kd.R_mono (Kd.R_far (p := ⟨gb175, 0, none⟩) (Kd.R_types HO_3.out BK175.out (by decide)) (fun _ hk => hk.2) (.slice Ao47 t183.length co47)) (fun _ h_ => h_.1))) hb); have n1_ := Aside0.mk (Kd.V_below (by (with_reducible repeat (first | apply Kd.V_alloc | apply Kd.V_drewN | apply Kd.V_drew)); exact (Kd.V_mono (Kd.V_far (p := ⟨gb175, 0, none⟩) (Kd.V_mono HO_176000.out (fun k_ hk => (⟨hk, hk.1.2.2⟩ : _ ∧ k_ ≠ gb175))) (fun _ hk => hk.2) (.slice Ao47 t183.length co47)) (fun _ h_ => h_.1))) hb); have n2_ := Aside0.mk (Kd.R_below (by (with_reducible repeat (first | apply Kd.R_alloc | apply Kd.R_drewN | apply Kd.R_drew)); exact (Kd.R_mono (Kd.R_far (p := ⟨gb175, 0, none⟩) (Kd.R_types HO182.out BK175.out (by decide)) (fun _ hk => hk.2) (.slice Ao47 t183.length co47)) (fun _ h_ => h_.1))) hb); have n3_ := Aside0.mk (Kd.V_below (by (with_reducible repeat (first | apply Kd.V_alloc | apply Kd.V_drewN | apply Kd.V_drew)); exact (Kd.V_mono (Kd.V_far (p := ⟨gb175, 0, none⟩) (Kd.V_mono HO185.out (fun k_ hk => (⟨hk, hk.2.2⟩ : _ ∧ k_ ≠ gb175))) (fun _ hk => hk.2) (.slice Ao47 t183.length co47)) (fun _ h_ => h_.1))) hb); have n4_ := Aside0.mk (blk_below (g := gb175) (o := .cells #[.slice Ao47 t183.length co47] 26 (0, 0)) (by (with_reducible repeat (first | refine blk_drewN ?_ _ | refine blk_drew ?_ | refine blk_alloc ?_ _)); refine blk_put (cs := #[.slice Ao41 x176000_1.length co41]) ?_ 0 _ rfl; (with_reducible repeat (first | refine blk_drewN ?_ _ | refine blk_drew ?_ | refine blk_alloc ?_ _)); exact BK175.out) hb); have n5_ := Aside0.mk (below_step (by repeat (first | (with_reducible first | exact HB.out | apply below_alloc | apply pw_below_drewN | apply below_drew1 | refine below_set ?_ GE175.out) | exact HB.out)) hb); clear HO_3; clear HO_176000; clear HO182; clear HO185; clear BK175; clear HB; have HO_3 := n0_; have HO_176000 := n1_; have HO182 := n2_; have HO185 := n3_; have BK175 := n4_; have HB := n5_; clear n0_ n1_ n2_ n3_ n4_ n5_; (try clear hb); (try clear hb2); (try clear hk); (try clear hi); have hcz50_0 : w49.cell? ⟨gb175, 0, none⟩ = some (.slice Ao47 t183.length co47) := (blk_cell BK175.out 0).trans rfl; have hfz50_0 := blk_frozen BK175.out 0) | ((with_reducible refine gate_callee (f := 15) rfl ?_); refine goesL_ (some 26) rfl rfl Tryd.func15 (by kernel_rfl) rfl #[.agg #[.slice Ao47 t183.length co47]] rfl (by (try simp only [List.map_toArray, List.map_cons, List.map_nil]); first | done | rfl | (simp only [List.length_drop, List.length_take]; rfl)) ?_; (with_reducible refine (nat_IsZero.calls _ _ t183 false _ ?side1 ?side2 A21.out).mono ?_); (case side1 => repeat (first | exact (Kd.V_reads' HO185.out).2.2 | (with_reducible refine Kd.C_alloc ?_ _) | (with_reducible refine Kd.C_drewN ?_ _) | (with_reducible refine Kd.C_drew ?_))); (case side2 => exact (Kd.V_reads' HO185.out).2.1); rintro e w51 ⟨rfl, hb⟩; refine ⟨_, rfl, ?_⟩; have n0_ := Aside0.mk (Kd.R_below (by (with_reducible repeat (first | apply Kd.R_alloc | apply Kd.R_drewN | apply Kd.R_drew)); exact HO_3.out) hb); have n1_ := Aside0.mk (Kd.V_below (by (with_reducible repeat (first | apply Kd.V_alloc | apply Kd.V_drewN | apply Kd.V_drew)); exact HO_176000.out) hb); have n2_ := Aside0.mk (Kd.R_below (by (with_reducible repeat (first | apply Kd.R_alloc | apply Kd.R_drewN | apply Kd.R_drew)); exact HO182.out) hb); have n3_ := Aside0.mk (Kd.V_below (by (with_reducible repeat (first | apply Kd.V_alloc | apply Kd.V_drewN | apply Kd.V_drew)); exact HO185.out) hb); have n4_ := Aside0.mk (blk_below (g := gb175) (o := .cells #[.slice Ao47 t183.length co47] 26 (0, 0)) (by (with_reducible repeat (first | refine blk_drewN ?_ _ | refine blk_drew ?_ | refine blk_alloc ?_ _)); exact BK175.out) hb); have n5_ := Aside0.mk (below_step (by repeat (first | (with_reducible first | exact HB.out | apply below_alloc | apply pw_below_drewN | apply below_drew1 | refine below_set ?_ GE175.out) | exact HB.out)) hb); clear HO_3; clear HO_176000; clear HO182; clear HO185; clear BK175; clear HB; have HO_3 := n0_; have HO_176000 := n1_; have HO182 := n2_; have HO185 := n3_; have BK175 := n4_; have HB := n5_; clear n0_ n1_ n2_ n3_ n4_ n5_; (try clear hb); (try clear hb2); (try clear hk); (try clear hi)) | ((with_reducible refine gate_callee (f := 33) rfl ?_); refine goesL_ (some 31) rfl rfl Tryd.func33 (by kernel_rfl) rfl #[.string (⟨#[48]⟩ : ByteArray), .int .i64 (9 - (t186.size : Int))] rfl (by (try simp only [List.map_toArray, List.map_cons, List.map_nil]); first | done | rfl | (simp only [List.length_drop, List.length_take]; rfl)) ?_; (with_reducible refine (strings_Repeat.calls (⟨#[48]⟩ : ByteArray) (9 - (t186.size : Int)) t191 _ (by have e_ : wrap64 (9 - (t186.size : Int)) = 9 - (t186.size : Int) := (by unfold wrap64; omega); have h_ := A37.out; rw [e_] at h_; exact h_)).mono ?_); rintro e w52 ⟨rfl, hb⟩; refine ⟨_, rfl, ?_⟩; have n0_ := Aside0.mk (Kd.R_below (by (with_reducible repeat (first | apply Kd.R_alloc | apply Kd.R_drewN | apply Kd.R_drew)); exact HO_3.out) hb); have n1_ := Aside0.mk (Kd.V_below (by (with_reducible repeat (first | apply Kd.V_alloc | apply Kd.V_drewN | apply Kd.V_drew)); exact HO_176000.out) hb); have n2_ := Aside0.mk (Kd.R_below (by (with_reducible repeat (first | apply Kd.R_alloc | apply Kd.R_drewN | apply Kd.R_drew)); exact HO182.out) hb); have n3_ := Aside0.mk (Kd.V_below (by (with_reducible repeat (first | apply Kd.V_alloc | apply Kd.V_drewN | apply Kd.V_drew)); exact HO185.out) hb); have n4_ := Aside0.mk (blk_below (g := gb175) (o := .cells #[.slice Ao47 t183.length co47] 26 (0, 0)) (by (with_reducible repeat (first | refine blk_drewN ?_ _ | refine blk_drew ?_ | refine blk_alloc ?_ _)); exact BK175.out) hb); have n5_ := Aside0.mk (below_step (by repeat (first | (with_reducible first | exact HB.out | apply below_alloc | apply pw_below_drewN | apply below_drew1 | refine below_set ?_ GE175.out) | exact HB.out)) hb); clear HO_3; clear HO_176000; clear HO182; clear HO185; clear BK175; clear HB; have HO_3 := n0_; have HO_176000 := n1_; have HO182 := n2_; have HO185 := n3_; have BK175 := n4_; have HB := n5_; clear n0_ n1_ n2_ n3_ n4_ n5_; (try clear hb); (try clear hb2); (try clear hk); (try clear hi)) | ((with_reducible refine gate_builtin (b := .append) (xs := #[.tmp 34, .tmp 36]) rfl ?_); at_builtin; refine Kd.R_append Kd.string (w0 := w) w.heap.size rfl (.tmp 34) (.tmp 36) 61 9 (.string ⟨#[]⟩) 16 rfl Tryd.underlying61 info9 rfl (by decide) (by omega) u3 x3_1 (t191 ++ t186) [.string (t191 ++ t186)] (fun k_ => (w.heap.size ≤ k_)) (fun _ => False) rfl rfl ?aP (fun _ hk => hk.elim) ?aF ?aO ?aB ?aS ?aL ?_; (case aP => exact rfl); (case aB => exact (by repeat (first | (with_reducible first | exact HB.out | apply below_alloc | apply pw_below_drewN | apply below_drew1 | refine below_set ?_ GE175.out) | exact HB.out))); (case aF => exact (fun k_ hk => (Nat.le_trans (below_size (by repeat (first | (with_reducible first | exact HB.out | apply below_alloc | apply pw_below_drewN | apply below_drew1 | refine below_set ?_ GE175.out) | exact HB.out))) hk))); (case aO => exact (by (with_reducible repeat (first | apply Kd.R_alloc | apply Kd.R_drewN | apply Kd.R_drew)); exact HO_3.out)); (case aS => exact (below_size (by repeat (first | (with_reducible first | exact HB.out | apply below_alloc | apply pw_below_drewN | apply below_drew1 | refine below_set ?_ GE175.out) | exact HB.out)))); (case aL => have := LMc39.out; omega); intro v193 w53 ho hb hg hat; rw [← Ny192.out] at ho; have n0_ := Aside0.mk (Kd.V_afterv (ok := (fun k_ => (P0_0_ k_ ∨ w.heap.size ≤ k_) ∧ some k_ ≠ (.slice Ao45 t179.length co45 : Value).ownBlock ∧ k_ ≠ gb175)) (by (with_reducible repeat (first | apply Kd.V_alloc | apply Kd.V_drewN | apply Kd.V_drew)); exact Kd.V_mono HO_176000.out (fun _ hk => ⟨⟨hk.1.1, ⟨hk.2, hk.1.2.2⟩⟩, hk.1.2.1⟩)) hg hat); have n1_ := Aside0.mk (blk_grown (g := gb175) (o := .cells #[.slice Ao47 t183.length co47] 26 (0, 0)) (by (with_reducible repeat (first | refine blk_drewN ?_ _ | refine blk_drew ?_ | refine blk_alloc ?_ _)); exact BK175.out) hg (Kd.R_ne HO_3.out BK175.out (by decide))); have n2_ := Aside0.mk (Kd.R_over' (by (with_reducible repeat (first | apply Kd.R_alloc | apply Kd.R_drewN | apply Kd.R_drew)); exact HO182.out) (Kd.R_typed (by (with_reducible repeat (first | apply Kd.R_alloc | apply Kd.R_drewN | apply Kd.R_drew)); exact HO_3.out)) (by decide) hg); have n3_ := Aside0.mk (Kd.V_afterv (ok := (fun k_ => (P0_0_ k_ ∨ w.heap.size ≤ k_) ∧ k_ ≠ gb175)) (by (with_reducible repeat (first | apply Kd.V_alloc | apply Kd.V_drewN | apply Kd.V_drew)); exact Kd.V_mono HO185.out (fun _ hk => ⟨⟨hk.1, hk.2.2⟩, hk.2.1⟩)) hg hat); have n4_ := Aside0.mk (hb); have n5_ := Aside0.mk (ho); clear HO_176000; clear BK175; clear HO182; clear HO185; clear HB; clear HO_3; have HO_176000 := n0_; have BK175 := n1_; have HO182 := n2_; have HO185 := n3_; have HB := n4_; have HO194 := n5_; clear n0_ n1_ n2_ n3_ n4_ n5_; clear ho hb hg hat))
                go_roundg k1
                case measure => have := HK1.out; omega
                case rel => exact ⟨(y192), (t183), (.slice Ao47 t183.length co47), H', ⟨by have := HK1.out; omega⟩, ⟨by (with_reducible repeat (first | apply Kd.R_alloc | apply Kd.R_drewN | apply Kd.R_drew)); exact HO194.out⟩, ⟨by (with_reducible repeat (first | apply Kd.V_alloc | apply Kd.V_drewN | apply Kd.V_drew)); exact Kd.V_mono HO185.out (fun _ hk => ⟨hk.1.1, ⟨hk.2, hk.1.2⟩⟩)⟩, ⟨by (with_reducible repeat (first | refine blk_drewN ?_ _ | refine blk_drew ?_ | refine blk_alloc ?_ _)); exact BK175.out⟩, ⟨by repeat (first | (with_reducible first | exact HB.out | apply below_alloc | apply pw_below_drewN | apply below_drew1 | refine below_set ?_ GE175.out) | exact HB.out)⟩⟩
              · rw [if_neg c39] at H
                exact absurd H (by simp)
            · rw [if_neg c38] at H
              exact absurd H (by simp)
end Go.Proofs.YtmjkhbjfacfmcaaDoor.PA
end
section
namespace Go.Proofs.YtmjkhbjfacfmcaaDoor.PA
open Go.RowKit Go.Proofs.YtmjkhbjfacfmcaaDoorW.PrintWords Go.Proofs.YtmjkhbjfacfmcaaDoorW.PrintLast Go.Proofs.YtmjkhbjfacfmcaaDoorW.PrintMore
attribute [local go_sem] max2_int min2_int max_two min_two max_three min_three max_four min_four
set_option linter.unusedVariables false
set_option linter.unusedSimpArgs false
def nat_Cmp.l0 : Nat → Int → List Int → List Int → Option (Int)
  | 0, _, _, _ => none
  | k + 1, x5, x196000, x197000 => if x5 ≥ 0 then (if 0 ≤ x5 then (if x5 < (x196000.length : Int) then (if x5 < (x197000.length : Int) then (if (rd x196000 x5) = (rd x197000 x5) then (nat_Cmp.l0 k (wrap64 (x5 - 1)) x196000 x197000) else (if (rd x196000 x5) < (rd x197000 x5) then (some (-1)) else (some 1))) else (none)) else (none)) else (none)) else (some 0)
def nat_Cmp.f (k : Nat) (l0_0 : List Int) (l1_0 : List Int) : Option (Int) := if (l0_0.length : Int) = (l1_0.length : Int) then (nat_Cmp.l0 k (wrap64 ((l0_0.length : Int) - 1)) l0_0 l1_0) else (if (l0_0.length : Int) < (l1_0.length : Int) then (some (-1)) else (some 1))
theorem nat_Cmp.mono_l : ∀ k, (∀ y0 y1 y2, LeO (nat_Cmp.l0 k y0 y1 y2) (nat_Cmp.l0 (k + 1) y0 y1 y2))
  | 0 => fun _ _ _ r h => by simp [nat_Cmp.l0] at h
  | k + 1 => by
    have ih0 := nat_Cmp.mono_l k
    · intro y0 y1 y2
      unfold nat_Cmp.l0
      repeat' first
      | (with_reducible exact ih0 _ _ _)
      | (with_reducible exact LeO.refl _)
      | (with_reducible exact LeO.none _)
      | (with_reducible refine LeO.ite ?_ ?_)
      | (with_reducible refine LeO.bind ?_ (fun _ => ?_))
      | exact ih0 _ _ _
      | exact LeO.none _
      | refine LeO.ite ?_ ?_
      | refine LeO.bind ?_ (fun _ => ?_)
theorem nat_Cmp.mono : ∀ a0 a1 k, LeO (nat_Cmp.f k a0 a1) (nat_Cmp.f (k + 1) a0 a1) := by
  intro a0 a1 k
  have ih0 := nat_Cmp.mono_l k
  unfold nat_Cmp.f
  repeat' first
      | (with_reducible exact ih0 _ _ _)
      | (with_reducible exact LeO.refl _)
      | (with_reducible exact LeO.none _)
      | (with_reducible refine LeO.ite ?_ ?_)
      | (with_reducible refine LeO.bind ?_ (fun _ => ?_))
      | exact ih0 _ _ _
      | exact LeO.none _
      | refine LeO.ite ?_ ?_
      | refine LeO.bind ?_ (fun _ => ?_)
set_option maxHeartbeats 8000000 in
set_option maxRecDepth 100000 in
theorem nat_Cmp.calls (k : Nat) (A0_0 : Option Addr) (c0_0 : Nat) (l0_0 : List Int) (A1_0 : Option Addr) (c1_0 : Nat) (l1_0 : List Int) (r : Int) (w : World) (hr0_0 : Kd.C (Kd.int .u32) w A0_0 l0_0.length l0_0) (hc0_0 : l0_0.length ≤ c0_0) (hr1_0 : Kd.C (Kd.int .u32) w A1_0 l1_0.length l1_0) (hc1_0 : l1_0.length ≤ c1_0) (h : nat_Cmp.f k l0_0 l1_0 = some r) :
    Calls Tryd.prog 14 #[.agg #[.slice A0_0 l0_0.length c0_0], .agg #[.slice A1_0 l1_0.length c1_0]] w fun e w' => e = .returned (.int .i64 r) ∧ Below w.heap.size w w' := by
  have hu26 := Tryd.underlying26
  have HR0_0 := Aside0.mk hr0_0
  have HC0_0 := Aside0.mk hc0_0
  clear hr0_0 hc0_0
  have HR1_0 := Aside0.mk hr1_0
  have HC1_0 := Aside0.mk hc1_0
  clear hr1_0 hc1_0
  have HB := Aside0.mk (Below.refl w.heap.size w)
  have H : (if (l0_0.length : Int) = (l1_0.length : Int) then (nat_Cmp.l0 k (wrap64 ((l0_0.length : Int) - 1)) l0_0 l1_0) else (if (l0_0.length : Int) < (l1_0.length : Int) then (some (-1)) else (some 1))) = some r := h
  clear h
  by_cases c3 : (l0_0.length : Int) = (l1_0.length : Int)
  · rw [if_pos c3] at H
    have c3b0 : ((l0_0.length : Int) == (l1_0.length : Int)) = true := beq_iff_eq.mpr c3
    have c3b1 : ((l0_0.length : Int) != (l1_0.length : Int)) = false := bne_eq_false_iff_eq.mpr c3
    have c3b2 : (l0_0.length == l1_0.length) = true := by first | simpa using c3 | (simp at c3 ⊢; omega)
    clear c3
    have H' := Aside0.mk H
    clear H
    go_enter Tryd.func14, Tryd.ntmps14
    go_wp2_with (first | ((with_reducible refine gate_dst (N := 2) rfl ?_); refine box_event ?hg (N := 2) ?hd (cs := #[.slice A0_0 l0_0.length c0_0]) (t := 26) ?hr ?_; (case hd => rfl); (case hg => rfl); (case hr => first | (go_simp; done) | (go_simp; rfl)); intro gb195 hg w4 hbox hb; have n0_ := Aside0.mk (below_step (by repeat (first | (with_reducible first | exact HB.out | apply below_alloc | apply pw_below_drewN | apply below_drew1) | exact HB.out)) hb); have n1_ := Aside0.mk (hbox); have n2_ := Aside0.mk ((by rw [hg]; exact (below_size (by repeat (first | (with_reducible first | exact HB.out | apply below_alloc | apply pw_below_drewN | apply below_drew1) | exact HB.out))) : w.heap.size ≤ gb195)); have n3_ := Aside0.mk ((by rw [hg]; exact (below_size (by repeat (first | (with_reducible first | exact HB.out | apply below_alloc | apply pw_below_drewN | apply below_drew1) | exact HB.out))) : w.heap.size ≤ gb195)); clear HB; have HB := n0_; have BK195 := n1_; have GW195 := n2_; have GE195 := n3_; clear n0_ n1_ n2_ n3_; clear hb hbox hg) | ((with_reducible refine gate_dst (N := 3) rfl ?_); refine box_event ?hg (N := 3) ?hd (cs := #[.slice A1_0 l1_0.length c1_0]) (t := 26) ?hr ?_; (case hd => rfl); (case hg => rfl); (case hr => first | (go_simp; done) | (go_simp; rfl)); intro gb196 hg w5 hbox hb; have n0_ := Aside0.mk (blk_below (g := gb195) (o := .cells #[.slice A0_0 l0_0.length c0_0] 26 (0, 0)) (by (with_reducible repeat (first | refine blk_drewN ?_ _ | refine blk_drew ?_ | refine blk_alloc ?_ _)); exact BK195.out) hb); have n1_ := Aside0.mk (below_step (by repeat (first | (with_reducible first | exact HB.out | apply below_alloc | apply pw_below_drewN | apply below_drew1 | refine below_set ?_ GE195.out) | exact HB.out)) hb); have n2_ := Aside0.mk (hbox); have n3_ := Aside0.mk ((by rw [hg]; exact (below_size (by repeat (first | (with_reducible first | exact HB.out | apply below_alloc | apply pw_below_drewN | apply below_drew1 | refine below_set ?_ GE195.out) | exact HB.out))) : w.heap.size ≤ gb196)); have n4_ := Aside0.mk ((by rw [hg]; exact (below_size (by repeat (first | (with_reducible first | exact HB.out | apply below_alloc | apply pw_below_drewN | apply below_drew1 | refine below_set ?_ GE195.out) | exact HB.out))) : w.heap.size ≤ gb196)); have n5_ := Aside0.mk ((by rw [hg]; exact Nat.ne_of_lt (blk_lt (g := gb195) (o := .cells #[.slice A0_0 l0_0.length c0_0] 26 (0, 0)) (by (with_reducible repeat (first | refine blk_drewN ?_ _ | refine blk_drew ?_ | refine blk_alloc ?_ _)); exact BK195.out)) : gb195 ≠ gb196)); have n6_ := Aside0.mk ((by rw [hg]; exact Nat.ne_of_gt (blk_lt (g := gb195) (o := .cells #[.slice A0_0 l0_0.length c0_0] 26 (0, 0)) (by (with_reducible repeat (first | refine blk_drewN ?_ _ | refine blk_drew ?_ | refine blk_alloc ?_ _)); exact BK195.out)) : gb196 ≠ gb195)); clear BK195; clear HB; have BK195 := n0_; have HB := n1_; have BK196 := n2_; have GW196 := n3_; have GE196 := n4_; have NB195_196 := n5_; have NB196_195 := n6_; clear n0_ n1_ n2_ n3_ n4_ n5_ n6_; clear hb hbox hg; have hnb6 := NB195_196.out; have hnc6 := NB196_195.out; have hcz7_0 : w5.cell? ⟨gb195, 0, none⟩ = some (.slice A0_0 l0_0.length c0_0) := (blk_cell BK195.out 0).trans rfl; have hfz7_0 := blk_frozen BK195.out 0; have hcz8_0 : w5.cell? ⟨gb196, 0, none⟩ = some (.slice A1_0 l1_0.length c1_0) := (blk_cell BK196.out 0).trans rfl; have hfz8_0 := blk_frozen BK196.out 0))
    repeat (go_quiet (first | ((with_reducible refine gate_dst (N := 2) rfl ?_); refine box_event ?hg (N := 2) ?hd (cs := #[.slice A0_0 l0_0.length c0_0]) (t := 26) ?hr ?_; (case hd => rfl); (case hg => rfl); (case hr => first | (go_simp; done) | (go_simp; rfl)); intro gb195 hg w4 hbox hb; have n0_ := Aside0.mk (below_step (by repeat (first | (with_reducible first | exact HB.out | apply below_alloc | apply pw_below_drewN | apply below_drew1) | exact HB.out)) hb); have n1_ := Aside0.mk (hbox); have n2_ := Aside0.mk ((by rw [hg]; exact (below_size (by repeat (first | (with_reducible first | exact HB.out | apply below_alloc | apply pw_below_drewN | apply below_drew1) | exact HB.out))) : w.heap.size ≤ gb195)); have n3_ := Aside0.mk ((by rw [hg]; exact (below_size (by repeat (first | (with_reducible first | exact HB.out | apply below_alloc | apply pw_below_drewN | apply below_drew1) | exact HB.out))) : w.heap.size ≤ gb195)); clear HB; have HB := n0_; have BK195 := n1_; have GW195 := n2_; have GE195 := n3_; clear n0_ n1_ n2_ n3_; clear hb hbox hg) | ((with_reducible refine gate_dst (N := 3) rfl ?_); refine box_event ?hg (N := 3) ?hd (cs := #[.slice A1_0 l1_0.length c1_0]) (t := 26) ?hr ?_; (case hd => rfl); (case hg => rfl); (case hr => first | (go_simp; done) | (go_simp; rfl)); intro gb196 hg w5 hbox hb; have n0_ := Aside0.mk (blk_below (g := gb195) (o := .cells #[.slice A0_0 l0_0.length c0_0] 26 (0, 0)) (by (with_reducible repeat (first | refine blk_drewN ?_ _ | refine blk_drew ?_ | refine blk_alloc ?_ _)); exact BK195.out) hb); have n1_ := Aside0.mk (below_step (by repeat (first | (with_reducible first | exact HB.out | apply below_alloc | apply pw_below_drewN | apply below_drew1 | refine below_set ?_ GE195.out) | exact HB.out)) hb); have n2_ := Aside0.mk (hbox); have n3_ := Aside0.mk ((by rw [hg]; exact (below_size (by repeat (first | (with_reducible first | exact HB.out | apply below_alloc | apply pw_below_drewN | apply below_drew1 | refine below_set ?_ GE195.out) | exact HB.out))) : w.heap.size ≤ gb196)); have n4_ := Aside0.mk ((by rw [hg]; exact (below_size (by repeat (first | (with_reducible first | exact HB.out | apply below_alloc | apply pw_below_drewN | apply below_drew1 | refine below_set ?_ GE195.out) | exact HB.out))) : w.heap.size ≤ gb196)); have n5_ := Aside0.mk ((by rw [hg]; exact Nat.ne_of_lt (blk_lt (g := gb195) (o := .cells #[.slice A0_0 l0_0.length c0_0] 26 (0, 0)) (by (with_reducible repeat (first | refine blk_drewN ?_ _ | refine blk_drew ?_ | refine blk_alloc ?_ _)); exact BK195.out)) : gb195 ≠ gb196)); have n6_ := Aside0.mk ((by rw [hg]; exact Nat.ne_of_gt (blk_lt (g := gb195) (o := .cells #[.slice A0_0 l0_0.length c0_0] 26 (0, 0)) (by (with_reducible repeat (first | refine blk_drewN ?_ _ | refine blk_drew ?_ | refine blk_alloc ?_ _)); exact BK195.out)) : gb196 ≠ gb195)); clear BK195; clear HB; have BK195 := n0_; have HB := n1_; have BK196 := n2_; have GW196 := n3_; have GE196 := n4_; have NB195_196 := n5_; have NB196_195 := n6_; clear n0_ n1_ n2_ n3_ n4_ n5_ n6_; clear hb hbox hg; have hnb6 := NB195_196.out; have hnc6 := NB196_195.out; have hcz7_0 : w5.cell? ⟨gb195, 0, none⟩ = some (.slice A0_0 l0_0.length c0_0) := (blk_cell BK195.out 0).trans rfl; have hfz7_0 := blk_frozen BK195.out 0; have hcz8_0 : w5.cell? ⟨gb196, 0, none⟩ = some (.slice A1_0 l1_0.length c1_0) := (blk_cell BK196.out 0).trans rfl; have hfz8_0 := blk_frozen BK196.out 0)); try go_wp2_with (first | ((with_reducible refine gate_dst (N := 2) rfl ?_); refine box_event ?hg (N := 2) ?hd (cs := #[.slice A0_0 l0_0.length c0_0]) (t := 26) ?hr ?_; (case hd => rfl); (case hg => rfl); (case hr => first | (go_simp; done) | (go_simp; rfl)); intro gb195 hg w4 hbox hb; have n0_ := Aside0.mk (below_step (by repeat (first | (with_reducible first | exact HB.out | apply below_alloc | apply pw_below_drewN | apply below_drew1) | exact HB.out)) hb); have n1_ := Aside0.mk (hbox); have n2_ := Aside0.mk ((by rw [hg]; exact (below_size (by repeat (first | (with_reducible first | exact HB.out | apply below_alloc | apply pw_below_drewN | apply below_drew1) | exact HB.out))) : w.heap.size ≤ gb195)); have n3_ := Aside0.mk ((by rw [hg]; exact (below_size (by repeat (first | (with_reducible first | exact HB.out | apply below_alloc | apply pw_below_drewN | apply below_drew1) | exact HB.out))) : w.heap.size ≤ gb195)); clear HB; have HB := n0_; have BK195 := n1_; have GW195 := n2_; have GE195 := n3_; clear n0_ n1_ n2_ n3_; clear hb hbox hg) | ((with_reducible refine gate_dst (N := 3) rfl ?_); refine box_event ?hg (N := 3) ?hd (cs := #[.slice A1_0 l1_0.length c1_0]) (t := 26) ?hr ?_; (case hd => rfl); (case hg => rfl); (case hr => first | (go_simp; done) | (go_simp; rfl)); intro gb196 hg w5 hbox hb; have n0_ := Aside0.mk (blk_below (g := gb195) (o := .cells #[.slice A0_0 l0_0.length c0_0] 26 (0, 0)) (by (with_reducible repeat (first | refine blk_drewN ?_ _ | refine blk_drew ?_ | refine blk_alloc ?_ _)); exact BK195.out) hb); have n1_ := Aside0.mk (below_step (by repeat (first | (with_reducible first | exact HB.out | apply below_alloc | apply pw_below_drewN | apply below_drew1 | refine below_set ?_ GE195.out) | exact HB.out)) hb); have n2_ := Aside0.mk (hbox); have n3_ := Aside0.mk ((by rw [hg]; exact (below_size (by repeat (first | (with_reducible first | exact HB.out | apply below_alloc | apply pw_below_drewN | apply below_drew1 | refine below_set ?_ GE195.out) | exact HB.out))) : w.heap.size ≤ gb196)); have n4_ := Aside0.mk ((by rw [hg]; exact (below_size (by repeat (first | (with_reducible first | exact HB.out | apply below_alloc | apply pw_below_drewN | apply below_drew1 | refine below_set ?_ GE195.out) | exact HB.out))) : w.heap.size ≤ gb196)); have n5_ := Aside0.mk ((by rw [hg]; exact Nat.ne_of_lt (blk_lt (g := gb195) (o := .cells #[.slice A0_0 l0_0.length c0_0] 26 (0, 0)) (by (with_reducible repeat (first | refine blk_drewN ?_ _ | refine blk_drew ?_ | refine blk_alloc ?_ _)); exact BK195.out)) : gb195 ≠ gb196)); have n6_ := Aside0.mk ((by rw [hg]; exact Nat.ne_of_gt (blk_lt (g := gb195) (o := .cells #[.slice A0_0 l0_0.length c0_0] 26 (0, 0)) (by (with_reducible repeat (first | refine blk_drewN ?_ _ | refine blk_drew ?_ | refine blk_alloc ?_ _)); exact BK195.out)) : gb196 ≠ gb195)); clear BK195; clear HB; have BK195 := n0_; have HB := n1_; have BK196 := n2_; have GW196 := n3_; have GE196 := n4_; have NB195_196 := n5_; have NB196_195 := n6_; clear n0_ n1_ n2_ n3_ n4_ n5_ n6_; clear hb hbox hg; have hnb6 := NB195_196.out; have hnc6 := NB196_195.out; have hcz7_0 : w5.cell? ⟨gb195, 0, none⟩ = some (.slice A0_0 l0_0.length c0_0) := (blk_cell BK195.out 0).trans rfl; have hfz7_0 := blk_frozen BK195.out 0; have hcz8_0 : w5.cell? ⟨gb196, 0, none⟩ = some (.slice A1_0 l1_0.length c1_0) := (blk_cell BK196.out 0).trans rfl; have hfz8_0 := blk_frozen BK196.out 0)))
    (try simp only [Act.put, List.setIfInBounds_toArray, List.set_cons_zero, List.set_cons_succ])
    go_loopg [5] k (fun kq v5 w' => ∃ (x5_1 : Int), v5 = .int .i64 x5_1 ∧ Aside0 (nat_Cmp.l0 kq x5_1 l0_0 l1_0 = some r) ∧ Aside0 (kq ≤ k) ∧ Aside0 (w'.heap[gb195]? = some (.cells #[(.slice A0_0 l0_0.length c0_0)] 26 (0, 0))) ∧ Aside0 (w'.heap[gb196]? = some (.cells #[(.slice A1_0 l1_0.length c1_0)] 26 (0, 0))) ∧ Aside0 (Below w.heap.size w w'))
    case atStart => exact ⟨(wrap64 ((l0_0.length : Int) - 1)), (by first | rfl | (simp; done) | (simp [*]; done)), H', ⟨Nat.le_refl _⟩, ⟨by (with_reducible repeat (first | refine blk_drewN ?_ _ | refine blk_drew ?_ | refine blk_alloc ?_ _)); exact BK195.out⟩, ⟨by (with_reducible repeat (first | refine blk_drewN ?_ _ | refine blk_drew ?_ | refine blk_alloc ?_ _)); exact BK196.out⟩, ⟨by repeat (first | (with_reducible first | exact HB.out | apply below_alloc | apply pw_below_drewN | apply below_drew1 | refine below_set ?_ GE195.out | refine below_set ?_ GE196.out) | exact HB.out)⟩⟩
    case round =>
      clear H'
      try clear c1
      try clear p2
      try clear c3
      try clear c3b0
      try clear c3b1
      try clear c3b2
      try clear c6
      try clear p6
      try clear hcz7_0
      try clear hcz8_0
      try clear hfz7_0
      try clear hfz8_0
      obtain ⟨x5_1, rfl, HA, HK1, BK195, BK196, HB⟩ := hrel
      cases gk with
      | zero => exact absurd HA.out (by simp [nat_Cmp.l0])
      | succ k1 =>
        have H := HA.out
        clear HA
        simp only [nat_Cmp.l0] at H
        by_cases c9 : x5_1 ≥ 0
        · rw [if_pos c9] at H
          have c9b0 : decide (0 ≤ x5_1) = true := decide_eq_true c9
          clear c9
          by_cases c10 : 0 ≤ x5_1
          · rw [if_pos c10] at H
            have c10b0 : decide (0 ≤ x5_1) = true := decide_eq_true c10
            clear c10
            by_cases c11 : x5_1 < (l0_0.length : Int)
            · rw [if_pos c11] at H
              have c11b0 : decide (x5_1 < (l0_0.length : Int)) = true := decide_eq_true c11
              clear c11
              by_cases c12 : x5_1 < (l1_0.length : Int)
              · rw [if_pos c12] at H
                have c12b0 : decide (x5_1 < (l1_0.length : Int)) = true := decide_eq_true c12
                clear c12
                by_cases c13 : (rd l0_0 x5_1) = (rd l1_0 x5_1)
                · rw [if_pos c13] at H
                  have c13b0 : ((rd l0_0 x5_1) == (rd l1_0 x5_1)) = true := beq_iff_eq.mpr c13
                  have c13b1 : ((rd l0_0 x5_1) != (rd l1_0 x5_1)) = false := bne_eq_false_iff_eq.mpr c13
                  clear c13
                  have H' := Aside0.mk H
                  clear H
                  have hnb14 := NB195_196.out
                  have hnc14 := NB196_195.out
                  have hcz15_0 : wr.cell? ⟨gb195, 0, none⟩ = some (.slice A0_0 l0_0.length c0_0) := (blk_cell BK195.out 0).trans rfl
                  have hfz15_0 := blk_frozen BK195.out 0
                  have p197 : 0 ≤ (x5_1 : Int) := of_decide_eq_true (by first | (with_reducible assumption) | assumption)
                  have q197 : x5_1 < (l0_0.length : Int) := of_decide_eq_true (by first | (with_reducible assumption) | assumption)
                  obtain ⟨ad197, e197, hx197_0⟩ := Kd.at_int HR0_0.out x5_1 p197 q197
                  cases e197
                  replace hx197_0 := (HB.out.cell (World.block_lt_of_cell? w _ hx197_0)).trans hx197_0
                  replace p197 := eq_true p197
                  replace q197 := eq_true q197
                  have hcz16_0 : wr.cell? ⟨gb196, 0, none⟩ = some (.slice A1_0 l1_0.length c1_0) := (blk_cell BK196.out 0).trans rfl
                  have hfz16_0 := blk_frozen BK196.out 0
                  have p198 : 0 ≤ (x5_1 : Int) := of_decide_eq_true (by first | (with_reducible assumption) | assumption)
                  have q198 : x5_1 < (l1_0.length : Int) := of_decide_eq_true (by first | (with_reducible assumption) | assumption)
                  obtain ⟨ad198, e198, hx198_0⟩ := Kd.at_int HR1_0.out x5_1 p198 q198
                  cases e198
                  replace hx198_0 := (HB.out.cell (World.block_lt_of_cell? w _ hx198_0)).trans hx198_0
                  replace p198 := eq_true p198
                  replace q198 := eq_true q198
                  go_wp2
                  repeat (go_quiet (fail); try go_wp2)
                  go_roundg k1
                  case measure => have := HK1.out; omega
                  case rel => exact ⟨(wrap64 (x5_1 - 1)), (by first | rfl | (simp; done) | (simp [*]; done)), H', ⟨by have := HK1.out; omega⟩, ⟨by (with_reducible repeat (first | refine blk_drewN ?_ _ | refine blk_drew ?_ | refine blk_alloc ?_ _)); exact BK195.out⟩, ⟨by (with_reducible repeat (first | refine blk_drewN ?_ _ | refine blk_drew ?_ | refine blk_alloc ?_ _)); exact BK196.out⟩, ⟨by repeat (first | (with_reducible first | exact HB.out | apply below_alloc | apply pw_below_drewN | apply below_drew1 | refine below_set ?_ GE195.out | refine below_set ?_ GE196.out) | exact HB.out)⟩⟩
                · rw [if_neg c13] at H
                  have c13b0 : ((rd l0_0 x5_1) == (rd l1_0 x5_1)) = false := beq_eq_false_iff_ne.mpr c13
                  have c13b1 : ((rd l0_0 x5_1) != (rd l1_0 x5_1)) = true := bne_iff_ne.mpr c13
                  by_cases c17 : (rd l0_0 x5_1) < (rd l1_0 x5_1)
                  · rw [if_pos c17] at H
                    have c17b0 : decide ((rd l0_0 x5_1) < (rd l1_0 x5_1)) = true := decide_eq_true c17
                    clear c17
                    obtain rfl := Option.some.inj H
                    have hnb18 := NB195_196.out
                    have hnc18 := NB196_195.out
                    have hcz19_0 : wr.cell? ⟨gb195, 0, none⟩ = some (.slice A0_0 l0_0.length c0_0) := (blk_cell BK195.out 0).trans rfl
                    have hfz19_0 := blk_frozen BK195.out 0
                    have p197 : 0 ≤ (x5_1 : Int) := of_decide_eq_true (by first | (with_reducible assumption) | assumption)
                    have q197 : x5_1 < (l0_0.length : Int) := of_decide_eq_true (by first | (with_reducible assumption) | assumption)
                    obtain ⟨ad197, e197, hx197_0⟩ := Kd.at_int HR0_0.out x5_1 p197 q197
                    cases e197
                    replace hx197_0 := (HB.out.cell (World.block_lt_of_cell? w _ hx197_0)).trans hx197_0
                    replace p197 := eq_true p197
                    replace q197 := eq_true q197
                    have hcz20_0 : wr.cell? ⟨gb196, 0, none⟩ = some (.slice A1_0 l1_0.length c1_0) := (blk_cell BK196.out 0).trans rfl
                    have hfz20_0 := blk_frozen BK196.out 0
                    have p198 : 0 ≤ (x5_1 : Int) := of_decide_eq_true (by first | (with_reducible assumption) | assumption)
                    have q198 : x5_1 < (l1_0.length : Int) := of_decide_eq_true (by first | (with_reducible assumption) | assumption)
                    obtain ⟨ad198, e198, hx198_0⟩ := Kd.at_int HR1_0.out x5_1 p198 q198
                    cases e198
                    replace hx198_0 := (HB.out.cell (World.block_lt_of_cell? w _ hx198_0)).trans hx198_0
                    replace p198 := eq_true p198
                    replace q198 := eq_true q198
                    have p199 : 0 ≤ (x5_1 : Int) := of_decide_eq_true (by first | (with_reducible assumption) | assumption)
                    have q199 : x5_1 < (l0_0.length : Int) := of_decide_eq_true (by first | (with_reducible assumption) | assumption)
                    obtain ⟨ad199, e199, hx199_0⟩ := Kd.at_int HR0_0.out x5_1 p199 q199
                    obtain rfl : ad197 = ad199 := (by injection e199)
                    replace hx199_0 := (HB.out.cell (World.block_lt_of_cell? w _ hx199_0)).trans hx199_0
                    replace p199 := eq_true p199
                    replace q199 := eq_true q199
                    have p200 : 0 ≤ (x5_1 : Int) := of_decide_eq_true (by first | (with_reducible assumption) | assumption)
                    have q200 : x5_1 < (l1_0.length : Int) := of_decide_eq_true (by first | (with_reducible assumption) | assumption)
                    obtain ⟨ad200, e200, hx200_0⟩ := Kd.at_int HR1_0.out x5_1 p200 q200
                    obtain rfl : ad198 = ad200 := (by injection e200)
                    replace hx200_0 := (HB.out.cell (World.block_lt_of_cell? w _ hx200_0)).trans hx200_0
                    replace p200 := eq_true p200
                    replace q200 := eq_true q200
                    go_wp2
                    repeat (go_quiet (fail); try go_wp2)
                    go_ret
                    exact ⟨by first | rfl | (simp [errW_none, errW_some] <;> rfl) | (simp [*, errW_none, errW_some] <;> rfl), by repeat (first | (with_reducible first | exact HB.out | apply below_alloc | apply pw_below_drewN | apply below_drew1 | refine below_set ?_ GE195.out | refine below_set ?_ GE196.out) | exact HB.out)⟩
                  · rw [if_neg c17] at H
                    have c17b0 : decide ((rd l0_0 x5_1) < (rd l1_0 x5_1)) = false := decide_eq_false c17
                    clear c17
                    obtain rfl := Option.some.inj H
                    have hnb21 := NB195_196.out
                    have hnc21 := NB196_195.out
                    have hcz22_0 : wr.cell? ⟨gb195, 0, none⟩ = some (.slice A0_0 l0_0.length c0_0) := (blk_cell BK195.out 0).trans rfl
                    have hfz22_0 := blk_frozen BK195.out 0
                    have p197 : 0 ≤ (x5_1 : Int) := of_decide_eq_true (by first | (with_reducible assumption) | assumption)
                    have q197 : x5_1 < (l0_0.length : Int) := of_decide_eq_true (by first | (with_reducible assumption) | assumption)
                    obtain ⟨ad197, e197, hx197_0⟩ := Kd.at_int HR0_0.out x5_1 p197 q197
                    cases e197
                    replace hx197_0 := (HB.out.cell (World.block_lt_of_cell? w _ hx197_0)).trans hx197_0
                    replace p197 := eq_true p197
                    replace q197 := eq_true q197
                    have hcz23_0 : wr.cell? ⟨gb196, 0, none⟩ = some (.slice A1_0 l1_0.length c1_0) := (blk_cell BK196.out 0).trans rfl
                    have hfz23_0 := blk_frozen BK196.out 0
                    have p198 : 0 ≤ (x5_1 : Int) := of_decide_eq_true (by first | (with_reducible assumption) | assumption)
                    have q198 : x5_1 < (l1_0.length : Int) := of_decide_eq_true (by first | (with_reducible assumption) | assumption)
                    obtain ⟨ad198, e198, hx198_0⟩ := Kd.at_int HR1_0.out x5_1 p198 q198
                    cases e198
                    replace hx198_0 := (HB.out.cell (World.block_lt_of_cell? w _ hx198_0)).trans hx198_0
                    replace p198 := eq_true p198
                    replace q198 := eq_true q198
                    have p199 : 0 ≤ (x5_1 : Int) := of_decide_eq_true (by first | (with_reducible assumption) | assumption)
                    have q199 : x5_1 < (l0_0.length : Int) := of_decide_eq_true (by first | (with_reducible assumption) | assumption)
                    obtain ⟨ad199, e199, hx199_0⟩ := Kd.at_int HR0_0.out x5_1 p199 q199
                    obtain rfl : ad197 = ad199 := (by injection e199)
                    replace hx199_0 := (HB.out.cell (World.block_lt_of_cell? w _ hx199_0)).trans hx199_0
                    replace p199 := eq_true p199
                    replace q199 := eq_true q199
                    have p200 : 0 ≤ (x5_1 : Int) := of_decide_eq_true (by first | (with_reducible assumption) | assumption)
                    have q200 : x5_1 < (l1_0.length : Int) := of_decide_eq_true (by first | (with_reducible assumption) | assumption)
                    obtain ⟨ad200, e200, hx200_0⟩ := Kd.at_int HR1_0.out x5_1 p200 q200
                    obtain rfl : ad198 = ad200 := (by injection e200)
                    replace hx200_0 := (HB.out.cell (World.block_lt_of_cell? w _ hx200_0)).trans hx200_0
                    replace p200 := eq_true p200
                    replace q200 := eq_true q200
                    go_wp2
                    repeat (go_quiet (fail); try go_wp2)
                    go_ret
                    exact ⟨by first | rfl | (simp [errW_none, errW_some] <;> rfl) | (simp [*, errW_none, errW_some] <;> rfl), by repeat (first | (with_reducible first | exact HB.out | apply below_alloc | apply pw_below_drewN | apply below_drew1 | refine below_set ?_ GE195.out | refine below_set ?_ GE196.out) | exact HB.out)⟩
              · rw [if_neg c12] at H
                exact absurd H (by simp)
            · rw [if_neg c11] at H
              exact absurd H (by simp)
          · rw [if_neg c10] at H
            exact absurd H (by simp)
        · rw [if_neg c9] at H
          have c9b0 : decide (0 ≤ x5_1) = false := decide_eq_false c9
          clear c9
          obtain rfl := Option.some.inj H
          go_wp2
          repeat (go_quiet (fail); try go_wp2)
          go_ret
          exact ⟨by first | rfl | (simp [errW_none, errW_some] <;> rfl) | (simp [*, errW_none, errW_some] <;> rfl), by repeat (first | (with_reducible first | exact HB.out | apply below_alloc | apply pw_below_drewN | apply below_drew1 | refine below_set ?_ GE195.out | refine below_set ?_ GE196.out) | exact HB.out)⟩
  · rw [if_neg c3] at H
    have c3b0 : ((l0_0.length : Int) == (l1_0.length : Int)) = false := beq_eq_false_iff_ne.mpr c3
    have c3b1 : ((l0_0.length : Int) != (l1_0.length : Int)) = true := bne_iff_ne.mpr c3
    have c3b2 : (l0_0.length == l1_0.length) = false := by first | simpa using c3 | (simp at c3 ⊢; omega)
    by_cases c24 : (l0_0.length : Int) < (l1_0.length : Int)
    · rw [if_pos c24] at H
      have c24b0 : decide ((l0_0.length : Int) < (l1_0.length : Int)) = true := decide_eq_true c24
      have c24b1 : decide (l0_0.length < l1_0.length) = true := decide_eq_true (Int.ofNat_lt.mp c24)
      clear c24
      obtain rfl := Option.some.inj H
      go_enter Tryd.func14, Tryd.ntmps14
      go_wp2_with (first | ((with_reducible refine gate_dst (N := 2) rfl ?_); refine box_event ?hg (N := 2) ?hd (cs := #[.slice A0_0 l0_0.length c0_0]) (t := 26) ?hr ?_; (case hd => rfl); (case hg => rfl); (case hr => first | (go_simp; done) | (go_simp; rfl)); intro gb195 hg w25 hbox hb; have n0_ := Aside0.mk (below_step (by repeat (first | (with_reducible first | exact HB.out | apply below_alloc | apply pw_below_drewN | apply below_drew1) | exact HB.out)) hb); have n1_ := Aside0.mk (hbox); have n2_ := Aside0.mk ((by rw [hg]; exact (below_size (by repeat (first | (with_reducible first | exact HB.out | apply below_alloc | apply pw_below_drewN | apply below_drew1) | exact HB.out))) : w.heap.size ≤ gb195)); have n3_ := Aside0.mk ((by rw [hg]; exact (below_size (by repeat (first | (with_reducible first | exact HB.out | apply below_alloc | apply pw_below_drewN | apply below_drew1) | exact HB.out))) : w.heap.size ≤ gb195)); clear HB; have HB := n0_; have BK195 := n1_; have GW195 := n2_; have GE195 := n3_; clear n0_ n1_ n2_ n3_; clear hb hbox hg) | ((with_reducible refine gate_dst (N := 3) rfl ?_); refine box_event ?hg (N := 3) ?hd (cs := #[.slice A1_0 l1_0.length c1_0]) (t := 26) ?hr ?_; (case hd => rfl); (case hg => rfl); (case hr => first | (go_simp; done) | (go_simp; rfl)); intro gb196 hg w26 hbox hb; have n0_ := Aside0.mk (blk_below (g := gb195) (o := .cells #[.slice A0_0 l0_0.length c0_0] 26 (0, 0)) (by (with_reducible repeat (first | refine blk_drewN ?_ _ | refine blk_drew ?_ | refine blk_alloc ?_ _)); exact BK195.out) hb); have n1_ := Aside0.mk (below_step (by repeat (first | (with_reducible first | exact HB.out | apply below_alloc | apply pw_below_drewN | apply below_drew1 | refine below_set ?_ GE195.out) | exact HB.out)) hb); have n2_ := Aside0.mk (hbox); have n3_ := Aside0.mk ((by rw [hg]; exact (below_size (by repeat (first | (with_reducible first | exact HB.out | apply below_alloc | apply pw_below_drewN | apply below_drew1 | refine below_set ?_ GE195.out) | exact HB.out))) : w.heap.size ≤ gb196)); have n4_ := Aside0.mk ((by rw [hg]; exact (below_size (by repeat (first | (with_reducible first | exact HB.out | apply below_alloc | apply pw_below_drewN | apply below_drew1 | refine below_set ?_ GE195.out) | exact HB.out))) : w.heap.size ≤ gb196)); have n5_ := Aside0.mk ((by rw [hg]; exact Nat.ne_of_lt (blk_lt (g := gb195) (o := .cells #[.slice A0_0 l0_0.length c0_0] 26 (0, 0)) (by (with_reducible repeat (first | refine blk_drewN ?_ _ | refine blk_drew ?_ | refine blk_alloc ?_ _)); exact BK195.out)) : gb195 ≠ gb196)); have n6_ := Aside0.mk ((by rw [hg]; exact Nat.ne_of_gt (blk_lt (g := gb195) (o := .cells #[.slice A0_0 l0_0.length c0_0] 26 (0, 0)) (by (with_reducible repeat (first | refine blk_drewN ?_ _ | refine blk_drew ?_ | refine blk_alloc ?_ _)); exact BK195.out)) : gb196 ≠ gb195)); clear BK195; clear HB; have BK195 := n0_; have HB := n1_; have BK196 := n2_; have GW196 := n3_; have GE196 := n4_; have NB195_196 := n5_; have NB196_195 := n6_; clear n0_ n1_ n2_ n3_ n4_ n5_ n6_; clear hb hbox hg; have hnb27 := NB195_196.out; have hnc27 := NB196_195.out; have hcz28_0 : w26.cell? ⟨gb195, 0, none⟩ = some (.slice A0_0 l0_0.length c0_0) := (blk_cell BK195.out 0).trans rfl; have hfz28_0 := blk_frozen BK195.out 0; have hcz29_0 : w26.cell? ⟨gb196, 0, none⟩ = some (.slice A1_0 l1_0.length c1_0) := (blk_cell BK196.out 0).trans rfl; have hfz29_0 := blk_frozen BK196.out 0))
      repeat (go_quiet (first | ((with_reducible refine gate_dst (N := 2) rfl ?_); refine box_event ?hg (N := 2) ?hd (cs := #[.slice A0_0 l0_0.length c0_0]) (t := 26) ?hr ?_; (case hd => rfl); (case hg => rfl); (case hr => first | (go_simp; done) | (go_simp; rfl)); intro gb195 hg w25 hbox hb; have n0_ := Aside0.mk (below_step (by repeat (first | (with_reducible first | exact HB.out | apply below_alloc | apply pw_below_drewN | apply below_drew1) | exact HB.out)) hb); have n1_ := Aside0.mk (hbox); have n2_ := Aside0.mk ((by rw [hg]; exact (below_size (by repeat (first | (with_reducible first | exact HB.out | apply below_alloc | apply pw_below_drewN | apply below_drew1) | exact HB.out))) : w.heap.size ≤ gb195)); have n3_ := Aside0.mk ((by rw [hg]; exact (below_size (by repeat (first | (with_reducible first | exact HB.out | apply below_alloc | apply pw_below_drewN | apply below_drew1) | exact HB.out))) : w.heap.size ≤ gb195)); clear HB; have HB := n0_; have BK195 := n1_; have GW195 := n2_; have GE195 := n3_; clear n0_ n1_ n2_ n3_; clear hb hbox hg) | ((with_reducible refine gate_dst (N := 3) rfl ?_); refine box_event ?hg (N := 3) ?hd (cs := #[.slice A1_0 l1_0.length c1_0]) (t := 26) ?hr ?_; (case hd => rfl); (case hg => rfl); (case hr => first | (go_simp; done) | (go_simp; rfl)); intro gb196 hg w26 hbox hb; have n0_ := Aside0.mk (blk_below (g := gb195) (o := .cells #[.slice A0_0 l0_0.length c0_0] 26 (0, 0)) (by (with_reducible repeat (first | refine blk_drewN ?_ _ | refine blk_drew ?_ | refine blk_alloc ?_ _)); exact BK195.out) hb); have n1_ := Aside0.mk (below_step (by repeat (first | (with_reducible first | exact HB.out | apply below_alloc | apply pw_below_drewN | apply below_drew1 | refine below_set ?_ GE195.out) | exact HB.out)) hb); have n2_ := Aside0.mk (hbox); have n3_ := Aside0.mk ((by rw [hg]; exact (below_size (by repeat (first | (with_reducible first | exact HB.out | apply below_alloc | apply pw_below_drewN | apply below_drew1 | refine below_set ?_ GE195.out) | exact HB.out))) : w.heap.size ≤ gb196)); have n4_ := Aside0.mk ((by rw [hg]; exact (below_size (by repeat (first | (with_reducible first | exact HB.out | apply below_alloc | apply pw_below_drewN | apply below_drew1 | refine below_set ?_ GE195.out) | exact HB.out))) : w.heap.size ≤ gb196)); have n5_ := Aside0.mk ((by rw [hg]; exact Nat.ne_of_lt (blk_lt (g := gb195) (o := .cells #[.slice A0_0 l0_0.length c0_0] 26 (0, 0)) (by (with_reducible repeat (first | refine blk_drewN ?_ _ | refine blk_drew ?_ | refine blk_alloc ?_ _)); exact BK195.out)) : gb195 ≠ gb196)); have n6_ := Aside0.mk ((by rw [hg]; exact Nat.ne_of_gt (blk_lt (g := gb195) (o := .cells #[.slice A0_0 l0_0.length c0_0] 26 (0, 0)) (by (with_reducible repeat (first | refine blk_drewN ?_ _ | refine blk_drew ?_ | refine blk_alloc ?_ _)); exact BK195.out)) : gb196 ≠ gb195)); clear BK195; clear HB; have BK195 := n0_; have HB := n1_; have BK196 := n2_; have GW196 := n3_; have GE196 := n4_; have NB195_196 := n5_; have NB196_195 := n6_; clear n0_ n1_ n2_ n3_ n4_ n5_ n6_; clear hb hbox hg; have hnb27 := NB195_196.out; have hnc27 := NB196_195.out; have hcz28_0 : w26.cell? ⟨gb195, 0, none⟩ = some (.slice A0_0 l0_0.length c0_0) := (blk_cell BK195.out 0).trans rfl; have hfz28_0 := blk_frozen BK195.out 0; have hcz29_0 : w26.cell? ⟨gb196, 0, none⟩ = some (.slice A1_0 l1_0.length c1_0) := (blk_cell BK196.out 0).trans rfl; have hfz29_0 := blk_frozen BK196.out 0)); try go_wp2_with (first | ((with_reducible refine gate_dst (N := 2) rfl ?_); refine box_event ?hg (N := 2) ?hd (cs := #[.slice A0_0 l0_0.length c0_0]) (t := 26) ?hr ?_; (case hd => rfl); (case hg => rfl); (case hr => first | (go_simp; done) | (go_simp; rfl)); intro gb195 hg w25 hbox hb; have n0_ := Aside0.mk (below_step (by repeat (first | (with_reducible first | exact HB.out | apply below_alloc | apply pw_below_drewN | apply below_drew1) | exact HB.out)) hb); have n1_ := Aside0.mk (hbox); have n2_ := Aside0.mk ((by rw [hg]; exact (below_size (by repeat (first | (with_reducible first | exact HB.out | apply below_alloc | apply pw_below_drewN | apply below_drew1) | exact HB.out))) : w.heap.size ≤ gb195)); have n3_ := Aside0.mk ((by rw [hg]; exact (below_size (by repeat (first | (with_reducible first | exact HB.out | apply below_alloc | apply pw_below_drewN | apply below_drew1) | exact HB.out))) : w.heap.size ≤ gb195)); clear HB; have HB := n0_; have BK195 := n1_; have GW195 := n2_; have GE195 := n3_; clear n0_ n1_ n2_ n3_; clear hb hbox hg) | ((with_reducible refine gate_dst (N := 3) rfl ?_); refine box_event ?hg (N := 3) ?hd (cs := #[.slice A1_0 l1_0.length c1_0]) (t := 26) ?hr ?_; (case hd => rfl); (case hg => rfl); (case hr => first | (go_simp; done) | (go_simp; rfl)); intro gb196 hg w26 hbox hb; have n0_ := Aside0.mk (blk_below (g := gb195) (o := .cells #[.slice A0_0 l0_0.length c0_0] 26 (0, 0)) (by (with_reducible repeat (first | refine blk_drewN ?_ _ | refine blk_drew ?_ | refine blk_alloc ?_ _)); exact BK195.out) hb); have n1_ := Aside0.mk (below_step (by repeat (first | (with_reducible first | exact HB.out | apply below_alloc | apply pw_below_drewN | apply below_drew1 | refine below_set ?_ GE195.out) | exact HB.out)) hb); have n2_ := Aside0.mk (hbox); have n3_ := Aside0.mk ((by rw [hg]; exact (below_size (by repeat (first | (with_reducible first | exact HB.out | apply below_alloc | apply pw_below_drewN | apply below_drew1 | refine below_set ?_ GE195.out) | exact HB.out))) : w.heap.size ≤ gb196)); have n4_ := Aside0.mk ((by rw [hg]; exact (below_size (by repeat (first | (with_reducible first | exact HB.out | apply below_alloc | apply pw_below_drewN | apply below_drew1 | refine below_set ?_ GE195.out) | exact HB.out))) : w.heap.size ≤ gb196)); have n5_ := Aside0.mk ((by rw [hg]; exact Nat.ne_of_lt (blk_lt (g := gb195) (o := .cells #[.slice A0_0 l0_0.length c0_0] 26 (0, 0)) (by (with_reducible repeat (first | refine blk_drewN ?_ _ | refine blk_drew ?_ | refine blk_alloc ?_ _)); exact BK195.out)) : gb195 ≠ gb196)); have n6_ := Aside0.mk ((by rw [hg]; exact Nat.ne_of_gt (blk_lt (g := gb195) (o := .cells #[.slice A0_0 l0_0.length c0_0] 26 (0, 0)) (by (with_reducible repeat (first | refine blk_drewN ?_ _ | refine blk_drew ?_ | refine blk_alloc ?_ _)); exact BK195.out)) : gb196 ≠ gb195)); clear BK195; clear HB; have BK195 := n0_; have HB := n1_; have BK196 := n2_; have GW196 := n3_; have GE196 := n4_; have NB195_196 := n5_; have NB196_195 := n6_; clear n0_ n1_ n2_ n3_ n4_ n5_ n6_; clear hb hbox hg; have hnb27 := NB195_196.out; have hnc27 := NB196_195.out; have hcz28_0 : w26.cell? ⟨gb195, 0, none⟩ = some (.slice A0_0 l0_0.length c0_0) := (blk_cell BK195.out 0).trans rfl; have hfz28_0 := blk_frozen BK195.out 0; have hcz29_0 : w26.cell? ⟨gb196, 0, none⟩ = some (.slice A1_0 l1_0.length c1_0) := (blk_cell BK196.out 0).trans rfl; have hfz29_0 := blk_frozen BK196.out 0)))
      go_ret
      exact ⟨by first | rfl | (simp [errW_none, errW_some] <;> rfl) | (simp [*, errW_none, errW_some] <;> rfl), by repeat (first | (with_reducible first | exact HB.out | apply below_alloc | apply pw_below_drewN | apply below_drew1 | refine below_set ?_ GE195.out | refine below_set ?_ GE196.out) | exact HB.out)⟩
    · rw [if_neg c24] at H
      have c24b0 : decide ((l0_0.length : Int) < (l1_0.length : Int)) = false := decide_eq_false c24
      have c24b1 : decide (l0_0.length < l1_0.length) = false := decide_eq_false (fun h => c24 (Int.ofNat_lt.mpr h))
      clear c24
      obtain rfl := Option.some.inj H
      go_enter Tryd.func14, Tryd.ntmps14
      go_wp2_with (first | ((with_reducible refine gate_dst (N := 2) rfl ?_); refine box_event ?hg (N := 2) ?hd (cs := #[.slice A0_0 l0_0.length c0_0]) (t := 26) ?hr ?_; (case hd => rfl); (case hg => rfl); (case hr => first | (go_simp; done) | (go_simp; rfl)); intro gb195 hg w30 hbox hb; have n0_ := Aside0.mk (below_step (by repeat (first | (with_reducible first | exact HB.out | apply below_alloc | apply pw_below_drewN | apply below_drew1) | exact HB.out)) hb); have n1_ := Aside0.mk (hbox); have n2_ := Aside0.mk ((by rw [hg]; exact (below_size (by repeat (first | (with_reducible first | exact HB.out | apply below_alloc | apply pw_below_drewN | apply below_drew1) | exact HB.out))) : w.heap.size ≤ gb195)); have n3_ := Aside0.mk ((by rw [hg]; exact (below_size (by repeat (first | (with_reducible first | exact HB.out | apply below_alloc | apply pw_below_drewN | apply below_drew1) | exact HB.out))) : w.heap.size ≤ gb195)); clear HB; have HB := n0_; have BK195 := n1_; have GW195 := n2_; have GE195 := n3_; clear n0_ n1_ n2_ n3_; clear hb hbox hg) | ((with_reducible refine gate_dst (N := 3) rfl ?_); refine box_event ?hg (N := 3) ?hd (cs := #[.slice A1_0 l1_0.length c1_0]) (t := 26) ?hr ?_; (case hd => rfl); (case hg => rfl); (case hr => first | (go_simp; done) | (go_simp; rfl)); intro gb196 hg w31 hbox hb; have n0_ := Aside0.mk (blk_below (g := gb195) (o := .cells #[.slice A0_0 l0_0.length c0_0] 26 (0, 0)) (by (with_reducible repeat (first | refine blk_drewN ?_ _ | refine blk_drew ?_ | refine blk_alloc ?_ _)); exact BK195.out) hb); have n1_ := Aside0.mk (below_step (by repeat (first | (with_reducible first | exact HB.out | apply below_alloc | apply pw_below_drewN | apply below_drew1 | refine below_set ?_ GE195.out) | exact HB.out)) hb); have n2_ := Aside0.mk (hbox); have n3_ := Aside0.mk ((by rw [hg]; exact (below_size (by repeat (first | (with_reducible first | exact HB.out | apply below_alloc | apply pw_below_drewN | apply below_drew1 | refine below_set ?_ GE195.out) | exact HB.out))) : w.heap.size ≤ gb196)); have n4_ := Aside0.mk ((by rw [hg]; exact (below_size (by repeat (first | (with_reducible first | exact HB.out | apply below_alloc | apply pw_below_drewN | apply below_drew1 | refine below_set ?_ GE195.out) | exact HB.out))) : w.heap.size ≤ gb196)); have n5_ := Aside0.mk ((by rw [hg]; exact Nat.ne_of_lt (blk_lt (g := gb195) (o := .cells #[.slice A0_0 l0_0.length c0_0] 26 (0, 0)) (by (with_reducible repeat (first | refine blk_drewN ?_ _ | refine blk_drew ?_ | refine blk_alloc ?_ _)); exact BK195.out)) : gb195 ≠ gb196)); have n6_ := Aside0.mk ((by rw [hg]; exact Nat.ne_of_gt (blk_lt (g := gb195) (o := .cells #[.slice A0_0 l0_0.length c0_0] 26 (0, 0)) (by (with_reducible repeat (first | refine blk_drewN ?_ _ | refine blk_drew ?_ | refine blk_alloc ?_ _)); exact BK195.out)) : gb196 ≠ gb195)); clear BK195; clear HB; have BK195 := n0_; have HB := n1_; have BK196 := n2_; have GW196 := n3_; have GE196 := n4_; have NB195_196 := n5_; have NB196_195 := n6_; clear n0_ n1_ n2_ n3_ n4_ n5_ n6_; clear hb hbox hg; have hnb32 := NB195_196.out; have hnc32 := NB196_195.out; have hcz33_0 : w31.cell? ⟨gb195, 0, none⟩ = some (.slice A0_0 l0_0.length c0_0) := (blk_cell BK195.out 0).trans rfl; have hfz33_0 := blk_frozen BK195.out 0; have hcz34_0 : w31.cell? ⟨gb196, 0, none⟩ = some (.slice A1_0 l1_0.length c1_0) := (blk_cell BK196.out 0).trans rfl; have hfz34_0 := blk_frozen BK196.out 0))
      repeat (go_quiet (first | ((with_reducible refine gate_dst (N := 2) rfl ?_); refine box_event ?hg (N := 2) ?hd (cs := #[.slice A0_0 l0_0.length c0_0]) (t := 26) ?hr ?_; (case hd => rfl); (case hg => rfl); (case hr => first | (go_simp; done) | (go_simp; rfl)); intro gb195 hg w30 hbox hb; have n0_ := Aside0.mk (below_step (by repeat (first | (with_reducible first | exact HB.out | apply below_alloc | apply pw_below_drewN | apply below_drew1) | exact HB.out)) hb); have n1_ := Aside0.mk (hbox); have n2_ := Aside0.mk ((by rw [hg]; exact (below_size (by repeat (first | (with_reducible first | exact HB.out | apply below_alloc | apply pw_below_drewN | apply below_drew1) | exact HB.out))) : w.heap.size ≤ gb195)); have n3_ := Aside0.mk ((by rw [hg]; exact (below_size (by repeat (first | (with_reducible first | exact HB.out | apply below_alloc | apply pw_below_drewN | apply below_drew1) | exact HB.out))) : w.heap.size ≤ gb195)); clear HB; have HB := n0_; have BK195 := n1_; have GW195 := n2_; have GE195 := n3_; clear n0_ n1_ n2_ n3_; clear hb hbox hg) | ((with_reducible refine gate_dst (N := 3) rfl ?_); refine box_event ?hg (N := 3) ?hd (cs := #[.slice A1_0 l1_0.length c1_0]) (t := 26) ?hr ?_; (case hd => rfl); (case hg => rfl); (case hr => first | (go_simp; done) | (go_simp; rfl)); intro gb196 hg w31 hbox hb; have n0_ := Aside0.mk (blk_below (g := gb195) (o := .cells #[.slice A0_0 l0_0.length c0_0] 26 (0, 0)) (by (with_reducible repeat (first | refine blk_drewN ?_ _ | refine blk_drew ?_ | refine blk_alloc ?_ _)); exact BK195.out) hb); have n1_ := Aside0.mk (below_step (by repeat (first | (with_reducible first | exact HB.out | apply below_alloc | apply pw_below_drewN | apply below_drew1 | refine below_set ?_ GE195.out) | exact HB.out)) hb); have n2_ := Aside0.mk (hbox); have n3_ := Aside0.mk ((by rw [hg]; exact (below_size (by repeat (first | (with_reducible first | exact HB.out | apply below_alloc | apply pw_below_drewN | apply below_drew1 | refine below_set ?_ GE195.out) | exact HB.out))) : w.heap.size ≤ gb196)); have n4_ := Aside0.mk ((by rw [hg]; exact (below_size (by repeat (first | (with_reducible first | exact HB.out | apply below_alloc | apply pw_below_drewN | apply below_drew1 | refine below_set ?_ GE195.out) | exact HB.out))) : w.heap.size ≤ gb196)); have n5_ := Aside0.mk ((by rw [hg]; exact Nat.ne_of_lt (blk_lt (g := gb195) (o := .cells #[.slice A0_0 l0_0.length c0_0] 26 (0, 0)) (by (with_reducible repeat (first | refine blk_drewN ?_ _ | refine blk_drew ?_ | refine blk_alloc ?_ _)); exact BK195.out)) : gb195 ≠ gb196)); have n6_ := Aside0.mk ((by rw [hg]; exact Nat.ne_of_gt (blk_lt (g := gb195) (o := .cells #[.slice A0_0 l0_0.length c0_0] 26 (0, 0)) (by (with_reducible repeat (first | refine blk_drewN ?_ _ | refine blk_drew ?_ | refine blk_alloc ?_ _)); exact BK195.out)) : gb196 ≠ gb195)); clear BK195; clear HB; have BK195 := n0_; have HB := n1_; have BK196 := n2_; have GW196 := n3_; have GE196 := n4_; have NB195_196 := n5_; have NB196_195 := n6_; clear n0_ n1_ n2_ n3_ n4_ n5_ n6_; clear hb hbox hg; have hnb32 := NB195_196.out; have hnc32 := NB196_195.out; have hcz33_0 : w31.cell? ⟨gb195, 0, none⟩ = some (.slice A0_0 l0_0.length c0_0) := (blk_cell BK195.out 0).trans rfl; have hfz33_0 := blk_frozen BK195.out 0; have hcz34_0 : w31.cell? ⟨gb196, 0, none⟩ = some (.slice A1_0 l1_0.length c1_0) := (blk_cell BK196.out 0).trans rfl; have hfz34_0 := blk_frozen BK196.out 0)); try go_wp2_with (first | ((with_reducible refine gate_dst (N := 2) rfl ?_); refine box_event ?hg (N := 2) ?hd (cs := #[.slice A0_0 l0_0.length c0_0]) (t := 26) ?hr ?_; (case hd => rfl); (case hg => rfl); (case hr => first | (go_simp; done) | (go_simp; rfl)); intro gb195 hg w30 hbox hb; have n0_ := Aside0.mk (below_step (by repeat (first | (with_reducible first | exact HB.out | apply below_alloc | apply pw_below_drewN | apply below_drew1) | exact HB.out)) hb); have n1_ := Aside0.mk (hbox); have n2_ := Aside0.mk ((by rw [hg]; exact (below_size (by repeat (first | (with_reducible first | exact HB.out | apply below_alloc | apply pw_below_drewN | apply below_drew1) | exact HB.out))) : w.heap.size ≤ gb195)); have n3_ := Aside0.mk ((by rw [hg]; exact (below_size (by repeat (first | (with_reducible first | exact HB.out | apply below_alloc | apply pw_below_drewN | apply below_drew1) | exact HB.out))) : w.heap.size ≤ gb195)); clear HB; have HB := n0_; have BK195 := n1_; have GW195 := n2_; have GE195 := n3_; clear n0_ n1_ n2_ n3_; clear hb hbox hg) | ((with_reducible refine gate_dst (N := 3) rfl ?_); refine box_event ?hg (N := 3) ?hd (cs := #[.slice A1_0 l1_0.length c1_0]) (t := 26) ?hr ?_; (case hd => rfl); (case hg => rfl); (case hr => first | (go_simp; done) | (go_simp; rfl)); intro gb196 hg w31 hbox hb; have n0_ := Aside0.mk (blk_below (g := gb195) (o := .cells #[.slice A0_0 l0_0.length c0_0] 26 (0, 0)) (by (with_reducible repeat (first | refine blk_drewN ?_ _ | refine blk_drew ?_ | refine blk_alloc ?_ _)); exact BK195.out) hb); have n1_ := Aside0.mk (below_step (by repeat (first | (with_reducible first | exact HB.out | apply below_alloc | apply pw_below_drewN | apply below_drew1 | refine below_set ?_ GE195.out) | exact HB.out)) hb); have n2_ := Aside0.mk (hbox); have n3_ := Aside0.mk ((by rw [hg]; exact (below_size (by repeat (first | (with_reducible first | exact HB.out | apply below_alloc | apply pw_below_drewN | apply below_drew1 | refine below_set ?_ GE195.out) | exact HB.out))) : w.heap.size ≤ gb196)); have n4_ := Aside0.mk ((by rw [hg]; exact (below_size (by repeat (first | (with_reducible first | exact HB.out | apply below_alloc | apply pw_below_drewN | apply below_drew1 | refine below_set ?_ GE195.out) | exact HB.out))) : w.heap.size ≤ gb196)); have n5_ := Aside0.mk ((by rw [hg]; exact Nat.ne_of_lt (blk_lt (g := gb195) (o := .cells #[.slice A0_0 l0_0.length c0_0] 26 (0, 0)) (by (with_reducible repeat (first | refine blk_drewN ?_ _ | refine blk_drew ?_ | refine blk_alloc ?_ _)); exact BK195.out)) : gb195 ≠ gb196)); have n6_ := Aside0.mk ((by rw [hg]; exact Nat.ne_of_gt (blk_lt (g := gb195) (o := .cells #[.slice A0_0 l0_0.length c0_0] 26 (0, 0)) (by (with_reducible repeat (first | refine blk_drewN ?_ _ | refine blk_drew ?_ | refine blk_alloc ?_ _)); exact BK195.out)) : gb196 ≠ gb195)); clear BK195; clear HB; have BK195 := n0_; have HB := n1_; have BK196 := n2_; have GW196 := n3_; have GE196 := n4_; have NB195_196 := n5_; have NB196_195 := n6_; clear n0_ n1_ n2_ n3_ n4_ n5_ n6_; clear hb hbox hg; have hnb32 := NB195_196.out; have hnc32 := NB196_195.out; have hcz33_0 : w31.cell? ⟨gb195, 0, none⟩ = some (.slice A0_0 l0_0.length c0_0) := (blk_cell BK195.out 0).trans rfl; have hfz33_0 := blk_frozen BK195.out 0; have hcz34_0 : w31.cell? ⟨gb196, 0, none⟩ = some (.slice A1_0 l1_0.length c1_0) := (blk_cell BK196.out 0).trans rfl; have hfz34_0 := blk_frozen BK196.out 0)))
      go_ret
      exact ⟨by first | rfl | (simp [errW_none, errW_some] <;> rfl) | (simp [*, errW_none, errW_some] <;> rfl), by repeat (first | (with_reducible first | exact HB.out | apply below_alloc | apply pw_below_drewN | apply below_drew1 | refine below_set ?_ GE195.out | refine below_set ?_ GE196.out) | exact HB.out)⟩
end Go.Proofs.YtmjkhbjfacfmcaaDoor.PA
end
section
namespace Go.Proofs.YtmjkhbjfacfmcaaDoor.PA
open Go.RowKit Go.Proofs.YtmjkhbjfacfmcaaDoorW.PrintWords Go.Proofs.YtmjkhbjfacfmcaaDoorW.PrintLast Go.Proofs.YtmjkhbjfacfmcaaDoorW.PrintMore
attribute [local go_sem] max2_int min2_int max_two min_two max_three min_three max_four min_four
set_option linter.unusedVariables false
set_option linter.unusedSimpArgs false
def nat_shifted.l0 : Nat → Int → List Int → List Int → Int → Int → Option (List Int)
  | 0, _, _, _, _, _ => none
  | k + 1, x1, x5, x13, x14, x15 => if x15 < x14 then (if 0 ≤ x15 then (if x15 < (x13.length : Int) then (if 0 ≤ x1 then (if x15 < (x5.length : Int) then (if 0 ≤ (wrap64 (x15 + 1)) then (if (wrap64 (x15 + 1)) < (x5.length : Int) then (nat_shifted.l0 k x1 ((x5.set (x15 : Int).toNat (Go.bits .or .u32 (rd x5 x15) ((shl .u64 (IntKind.u64.wrap (rd x13 x15)) x1) % 4294967296))).set ((wrap64 (x15 + 1)) : Int).toNat (((shl .u64 (IntKind.u64.wrap (rd x13 x15)) x1) / 4294967296) % 4294967296)) x13 x14 (wrap64 (x15 + 1))) else (none)) else (none)) else (none)) else (none)) else (none)) else (none)) else (some x5)
def nat_shifted.f (k : Nat) (l0 : List Int) (a1 : Int) : Option (List Int) := if 0 ≤ (wrap64 ((l0.length : Int) + 1)) then (if (wrap64 ((l0.length : Int) + 1) : Int).toNat ≤ 70368744177664 then (nat_shifted.l0 k a1 (List.replicate (wrap64 ((l0.length : Int) + 1) : Int).toNat 0) l0 (l0.length : Int) 0) else (none)) else (none)
theorem nat_shifted.mono_l : ∀ k, (∀ y0 y1 y2 y3 y4, LeO (nat_shifted.l0 k y0 y1 y2 y3 y4) (nat_shifted.l0 (k + 1) y0 y1 y2 y3 y4))
  | 0 => fun _ _ _ _ _ r h => by simp [nat_shifted.l0] at h
  | k + 1 => by
    have ih0 := nat_shifted.mono_l k
    · intro y0 y1 y2 y3 y4
      unfold nat_shifted.l0
      repeat' first
      | (with_reducible exact ih0 _ _ _ _ _)
      | (with_reducible exact LeO.refl _)
      | (with_reducible exact LeO.none _)
      | (with_reducible refine LeO.ite ?_ ?_)
      | (with_reducible refine LeO.bind ?_ (fun _ => ?_))
      | exact ih0 _ _ _ _ _
      | exact LeO.none _
      | refine LeO.ite ?_ ?_
      | refine LeO.bind ?_ (fun _ => ?_)
theorem nat_shifted.mono : ∀ a0 a1 k, LeO (nat_shifted.f k a0 a1) (nat_shifted.f (k + 1) a0 a1) := by
  intro a0 a1 k
  have ih0 := nat_shifted.mono_l k
  unfold nat_shifted.f
  repeat' first
      | (with_reducible exact ih0 _ _ _ _ _)
      | (with_reducible exact LeO.refl _)
      | (with_reducible exact LeO.none _)
      | (with_reducible refine LeO.ite ?_ ?_)
      | (with_reducible refine LeO.bind ?_ (fun _ => ?_))
      | exact ih0 _ _ _ _ _
      | exact LeO.none _
      | refine LeO.ite ?_ ?_
      | refine LeO.bind ?_ (fun _ => ?_)
set_option maxHeartbeats 8000000 in
set_option maxRecDepth 100000 in
theorem nat_shifted.calls (k : Nat) (A0 : Option Addr) (c0 : Nat) (l0 : List Int) (a1 : Int) (r : List Int) (w : World) (hr0 : Kd.C (Kd.int .u32) w A0 l0.length l0) (hc0 : l0.length ≤ c0) (h : nat_shifted.f k l0 a1 = some r) :
    Calls Tryd.prog 39 #[.slice A0 l0.length c0, .int .i64 a1] w fun e w' => ∃ v0_ : Value, e = .returned (v0_) ∧ Kd.R (Kd.int .u32) 62 w' w.heap.size (fun _ => True) v0_ r ∧ Below w.heap.size w w' := by
  have HR0 := Aside0.mk hr0
  have HC0 := Aside0.mk hc0
  clear hr0 hc0
  have HB := Aside0.mk (Below.refl w.heap.size w)
  have H : (if 0 ≤ (wrap64 ((l0.length : Int) + 1)) then (if (wrap64 ((l0.length : Int) + 1) : Int).toNat ≤ 70368744177664 then (nat_shifted.l0 k a1 (List.replicate (wrap64 ((l0.length : Int) + 1) : Int).toNat 0) l0 (l0.length : Int) 0) else (none)) else (none)) = some r := h
  clear h
  obtain ⟨ji3, hji3⟩ : ∃ j_ : Int, (wrap64 ((l0.length : Int) + 1)) = j_ := ⟨_, rfl⟩
  replace H : (if 0 ≤ (ji3) then (if (ji3 : Int).toNat ≤ 70368744177664 then (nat_shifted.l0 k a1 (List.replicate (ji3 : Int).toNat 0) l0 (l0.length : Int) 0) else (none)) else (none)) = some r := by first | (rw [hji3] at H; exact H) | (simp only [hji3] at H ⊢; exact H)
  have hji3w : (IntKind.i64.wrap ((l0.length : Int) + 1)) = ji3 := (i64_w _).trans hji3
  by_cases c4 : 0 ≤ (ji3)
  · rw [if_pos c4] at H
    have c4b0 := eq_true c4
    have c4b1 : decide (0 ≤ (ji3)) = true := decide_eq_true c4
    clear c4
    by_cases c5 : (ji3 : Int).toNat ≤ 70368744177664
    · rw [if_pos c5] at H
      have c5b0 := eq_true c5
      have c5b1 : decide ((ji3 : Int).toNat ≤ 70368744177664) = true := decide_eq_true c5
      clear c5
      obtain ⟨y201, hy201⟩ : ∃ y_ : List Int, y_ = (List.replicate (ji3 : Int).toNat 0) := ⟨_, rfl⟩
      replace H : (nat_shifted.l0 k a1 y201 l0 (l0.length : Int) 0) = some r := by first | (rw [hy201]; with_reducible exact H) | (have H2_ := (Option.bind_some _ _).symm.trans H; rw [hy201]; with_reducible exact H2_) | (have H2_ := (Option.bind_some _ _).symm.trans H; with_reducible exact H2_) | with_reducible exact H | (rw [hy201]; exact H) | exact H
      have Ny201 := Aside0.mk hy201
      clear hy201
      have H' := Aside0.mk H
      clear H
      go_enter Tryd.func39, Tryd.ntmps39
      go_wp2_with (first | ((with_reducible refine gate_dst (N := 12) rfl ?_); refine Kd.R_make (Kd.int .u32) _ 62 rfl (N := 12) rfl 22 _ _ rfl ji3 rfl rfl Tryd.underlying22 (.int .u32 0) 4 info62 rfl (by decide) (by omega) 0 (ok := fun _ => True) (okp := fun _ => True) rfl (fun _ hk => hk) trivial (of_decide_eq_true (by first | (with_reducible assumption) | assumption)) (Nat.le_trans (Nat.mul_le_mul_right _ (of_decide_eq_true (by first | (with_reducible assumption) | assumption) : ji3.toNat ≤ 70368744177664)) (by omega)) (Below.refl _ _) (Nat.le_refl _) ?_; intro v202 w6 ho7 hb hg_ hnew_; clear hg_ hnew_; (first | rw [← Ny201.out] at ho7 | (simp only [Int.reduceToNat] at ho7; rw [← Ny201.out] at ho7)); have n0_ := Aside0.mk (Kd.R_lower ho7 (below_size (by repeat (first | (with_reducible first | exact HB.out | apply below_alloc | apply pw_below_drewN | apply below_drew1) | exact HB.out)))); have n1_ := Aside0.mk (below_step (by repeat (first | (with_reducible first | exact HB.out | apply below_alloc | apply pw_below_drewN | apply below_drew1) | exact HB.out)) hb); clear HB; have HO203 := n0_; have HB := n1_; clear n0_ n1_; clear hb ho7))
      (try simp only [Act.put, List.setIfInBounds_toArray, List.set_cons_zero, List.set_cons_succ])
      go_loopg [15] k (fun kq v15 w' => ∃ (x5_1 : List Int) (x15_1 : Int), v15 = .int .i64 x15_1 ∧ Aside0 (nat_shifted.l0 kq a1 x5_1 l0 (l0.length : Int) x15_1 = some r) ∧ Aside0 (kq ≤ k) ∧ Aside0 (Kd.R (Kd.int .u32) 62 w' w.heap.size (fun _ => True) v202 x5_1) ∧ Aside0 (Below w.heap.size w w'))
      case atStart => exact ⟨(y201), (0), (by first | rfl | (simp; done) | (simp [*]; done)), H', ⟨Nat.le_refl _⟩, ⟨by (with_reducible repeat (first | apply Kd.R_alloc | apply Kd.R_drewN | apply Kd.R_drew)); exact HO203.out⟩, ⟨by repeat (first | (with_reducible first | exact HB.out | apply below_alloc | apply pw_below_drewN | apply below_drew1) | exact HB.out)⟩⟩
      case round =>
        clear H'
        try clear p2
        try clear c3
        try clear c4
        try clear c4b0
        try clear c4b1
        try clear c5
        try clear c5b0
        try clear c5b1
        try clear p6
        obtain ⟨x5_1, x15_1, rfl, HA, HK1, HO_5, HB⟩ := hrel
        cases gk with
        | zero => exact absurd HA.out (by simp [nat_shifted.l0])
        | succ k1 =>
          have H := HA.out
          clear HA
          simp only [nat_shifted.l0] at H
          by_cases c8 : x15_1 < (l0.length : Int)
          · rw [if_pos c8] at H
            have c8b0 : decide (x15_1 < (l0.length : Int)) = true := decide_eq_true c8
            clear c8
            by_cases c9 : 0 ≤ x15_1
            · rw [if_pos c9] at H
              have c9b0 : decide (0 ≤ x15_1) = true := decide_eq_true c9
              clear c9
              by_cases c10 : x15_1 < (l0.length : Int)
              · rw [if_pos c10] at H
                have c10b0 : decide (x15_1 < (l0.length : Int)) = true := decide_eq_true c10
                clear c10
                by_cases c11 : 0 ≤ a1
                · rw [if_pos c11] at H
                  have c11b0 := eq_true c11
                  have c11b1 : decide (0 ≤ a1) = true := decide_eq_true c11
                  clear c11
                  obtain ⟨ji12, hji12⟩ : ∃ j_ : Int, (shl .u64 (IntKind.u64.wrap (rd l0 x15_1)) a1) = j_ := ⟨_, rfl⟩
                  replace H : (if x15_1 < (x5_1.length : Int) then (if 0 ≤ (wrap64 (x15_1 + 1)) then (if (wrap64 (x15_1 + 1)) < (x5_1.length : Int) then (nat_shifted.l0 k1 a1 ((x5_1.set (x15_1 : Int).toNat (Go.bits .or .u32 (rd x5_1 x15_1) ((ji12) % 4294967296))).set ((wrap64 (x15_1 + 1)) : Int).toNat (((ji12) / 4294967296) % 4294967296)) l0 (l0.length : Int) (wrap64 (x15_1 + 1))) else (none)) else (none)) else (none)) = some r := by first | (rw [hji12] at H; exact H) | (simp only [hji12] at H ⊢; exact H)
                  have hji12_ : (IntKind.u64.wrap ((IntKind.u64.wrap (rd l0 x15_1)) * 2 ^ min a1.toNat 64)) = ji12 := hji12
                  have hji12z : a1 ≤ 64 → (IntKind.u64.wrap ((IntKind.u64.wrap (rd l0 x15_1)) * 2 ^ a1.toNat)) = ji12 := shl_small hji12
                  by_cases c13 : x15_1 < (x5_1.length : Int)
                  · rw [if_pos c13] at H
                    have c13b0 : decide (x15_1 < (x5_1.length : Int)) = true := decide_eq_true c13
                    clear c13
                    obtain ⟨y206, hy206⟩ : ∃ y_ : List Int, y_ = (x5_1.set (x15_1 : Int).toNat (Go.bits .or .u32 (rd x5_1 x15_1) ((ji12) % 4294967296))) := ⟨_, rfl⟩
                    replace H : (if 0 ≤ (wrap64 (x15_1 + 1)) then (if (wrap64 (x15_1 + 1)) < (x5_1.length : Int) then (nat_shifted.l0 k1 a1 (y206.set ((wrap64 (x15_1 + 1)) : Int).toNat (((ji12) / 4294967296) % 4294967296)) l0 (l0.length : Int) (wrap64 (x15_1 + 1))) else (none)) else (none)) = some r := by first | (rw [hy206]; with_reducible exact H) | (have H2_ := (Option.bind_some _ _).symm.trans H; rw [hy206]; with_reducible exact H2_) | (have H2_ := (Option.bind_some _ _).symm.trans H; with_reducible exact H2_) | with_reducible exact H | (rw [hy206]; exact H) | exact H
                    have Ny206 := Aside0.mk hy206
                    clear hy206
                    obtain ⟨ji15, hji15⟩ : ∃ j_ : Int, (wrap64 (x15_1 + 1)) = j_ := ⟨_, rfl⟩
                    replace H : (if 0 ≤ (ji15) then (if (ji15) < (x5_1.length : Int) then (nat_shifted.l0 k1 a1 (y206.set ((ji15) : Int).toNat (((ji12) / 4294967296) % 4294967296)) l0 (l0.length : Int) ji15) else (none)) else (none)) = some r := by first | (rw [hji15] at H; exact H) | (simp only [hji15] at H ⊢; exact H)
                    have hji15w : (IntKind.i64.wrap (x15_1 + 1)) = ji15 := (i64_w _).trans hji15
                    by_cases c16 : 0 ≤ (ji15)
                    · rw [if_pos c16] at H
                      have c16b0 : decide (0 ≤ (ji15)) = true := decide_eq_true c16
                      clear c16
                      by_cases c17 : (ji15) < (x5_1.length : Int)
                      · rw [if_pos c17] at H
                        have c17b0 : decide ((ji15) < (x5_1.length : Int)) = true := decide_eq_true c17
                        clear c17
                        obtain ⟨y207, hy207⟩ : ∃ y_ : List Int, y_ = (y206.set ((ji15) : Int).toNat (((ji12) / 4294967296) % 4294967296)) := ⟨_, rfl⟩
                        replace H : (nat_shifted.l0 k1 a1 y207 l0 (l0.length : Int) ji15) = some r := by first | (rw [hy207]; with_reducible exact H) | (have H2_ := (Option.bind_some _ _).symm.trans H; rw [hy207]; with_reducible exact H2_) | (have H2_ := (Option.bind_some _ _).symm.trans H; with_reducible exact H2_) | with_reducible exact H | (rw [hy207]; exact H) | exact H
                        have Ny207 := Aside0.mk hy207
                        clear hy207
                        have H' := Aside0.mk H
                        clear H
                        have p204 : 0 ≤ (x15_1 : Int) := of_decide_eq_true (by first | (with_reducible assumption) | assumption)
                        have q204 : x15_1 < (l0.length : Int) := of_decide_eq_true (by first | (with_reducible assumption) | assumption)
                        obtain ⟨ad204, e204, hx204_0⟩ := Kd.at_int HR0.out x15_1 p204 q204
                        cases e204
                        replace hx204_0 := (HB.out.cell (World.block_lt_of_cell? w _ hx204_0)).trans hx204_0
                        replace p204 := eq_true p204
                        replace q204 := eq_true q204
                        obtain ⟨Ao19, co19, eo19⟩ := Kd.R_slice HO_5.out
                        subst eo19
                        have p205 : 0 ≤ (x15_1 : Int) := of_decide_eq_true (by first | (with_reducible assumption) | assumption)
                        have q205 : x15_1 < (x5_1.length : Int) := of_decide_eq_true (by first | (with_reducible assumption) | assumption)
                        obtain ⟨ad205, e205, hx205_0⟩ := Kd.at_int (Kd.R_reads' HO_5.out).2.2 x15_1 p205 q205
                        cases e205
                        replace p205 := eq_true p205
                        replace q205 := eq_true q205
                        have p14 : 0 ≤ (x15_1 : Int) := of_decide_eq_true (by first | (with_reducible assumption) | assumption)
                        have q14 : (x15_1 : Int) < ((x5_1.length : Int) : Int) := of_decide_eq_true (by first | (with_reducible assumption) | assumption)
                        obtain ⟨go14, co14, eo14, gb14, gl14, cl14, HG14⟩ := Kd.R_form HO_5.out (by omega)
                        (first | cases eo14 | (injection eo14 with ea_ en_ ec_; (first | subst ea_ | (injection ea_ with ea_; subst ea_)); subst ec_; clear en_))
                        have GB14 := Aside0.mk gb14
                        have GG14 := Aside0.mk HG14
                        clear gb14 gl14 HG14
                        (first | simp only [add_plain] at hx205_0 | skip)
                        obtain ⟨hx14_0, hf14_0⟩ := Kd.R_celln 0 HO_5.out (x15_1 : Int) p14 q14
                        replace p14 := eq_true p14
                        replace q14 := eq_true q14
                        have HP20 := Kd.R_putg HO_5.out (x15_1 : Int) (Go.bits .or .u32 (rd x5_1 x15_1) ((ji12) % 4294967296))
                        go_wp2_with (first | ((with_reducible refine gate_store (t := 62) (p := 31) rfl ?_); refine store_event (t := 62) (p := 31) (v := ?vo_w21) (w1 := (wr.setCell ⟨go14, (x15_1 : Int).toNat, none⟩ (.int .u32 (Go.bits .or .u32 (rd x5_1 x15_1) ((ji12) % 4294967296))))) ?hg ?ho ?hn ?hr ?_; (case ho => rfl); (case hg => rfl); (case hn => rfl); (case hr => first | (go_simp; done) | (go_simp; rfl)); intro w21 hw; have hg : wr.grownBy w21 (some go14) := (by rw [hw]; exact HP20.2); have hp_ : Kd.R (Kd.int .u32) 62 w21 w.heap.size (fun _ => True) (.slice (some ⟨go14, 0, none⟩) x5_1.length co19) y206 := (by rw [hw, Ny206.out]; exact HP20.1); clear HP20; have n0_ := Aside0.mk (hp_); have n1_ := Aside0.mk ((by rw [hw]; exact below_set (HB.out) GB14.out : Below w.heap.size w w21)); clear HO_5; clear HB; have HO_5 := n0_; have HB := n1_; clear n0_ n1_; clear hg hw hp_; have p18 : 0 ≤ ((ji15) : Int) := of_decide_eq_true (by first | (with_reducible assumption) | assumption); have q18 : ((ji15) : Int) < ((x5_1.length : Int) : Int) := of_decide_eq_true (by first | (with_reducible assumption) | assumption); obtain ⟨hx18_0, hf18_0⟩ := Kd.R_celln 0 HO_5.out ((ji15) : Int) p18 q18; replace p18 := eq_true p18; replace q18 := eq_true q18; obtain ⟨hy22_, hz22_⟩ := Kd.R_celln 0 HO_5.out ((ji15) : Int) (of_decide_eq_true (by first | (with_reducible assumption) | assumption)) (of_decide_eq_true (by first | (with_reducible assumption) | assumption)); have HP22 := Kd.R_putg HO_5.out ((ji15) : Int) (((ji12) / 4294967296) % 4294967296)) | ((with_reducible refine gate_store (t := 62) (p := 38) rfl ?_); refine store_event (t := 62) (p := 38) (v := ?vo_w23) (w1 := (w21.setCell ⟨go14, ((ji15) : Int).toNat, none⟩ (.int .u32 (((ji12) / 4294967296) % 4294967296)))) ?hg ?ho ?hn ?hr ?_; (case ho => rfl); (case hg => rfl); (case hn => rfl); (case hr => first | (go_simp; done) | (go_simp; rfl)); intro w23 hw; have hg : w21.grownBy w23 (some go14) := (by rw [hw]; exact HP22.2); have hp_ : Kd.R (Kd.int .u32) 62 w23 w.heap.size (fun _ => True) (.slice (some ⟨go14, 0, none⟩) x5_1.length co19) y207 := (by rw [hw, Ny207.out]; exact HP22.1); clear HP22; have n0_ := Aside0.mk (hp_); have n1_ := Aside0.mk ((by rw [hw]; exact below_set (HB.out) GB14.out : Below w.heap.size w w23)); clear HO_5; clear HB; have HO_5 := n0_; have HB := n1_; clear n0_ n1_; clear hg hw hp_))
                        go_roundg k1
                        case measure => have := HK1.out; omega
                        case rel => exact ⟨(y207), (ji15), (by first | rfl | (simp; done) | (simp only [← hji15] <;> (first | rfl | simp)) | (simp [*]; done)), H', ⟨by have := HK1.out; omega⟩, ⟨by (with_reducible repeat (first | apply Kd.R_alloc | apply Kd.R_drewN | apply Kd.R_drew)); exact HO_5.out⟩, ⟨by repeat (first | (with_reducible first | exact HB.out | apply below_alloc | apply pw_below_drewN | apply below_drew1) | exact HB.out)⟩⟩
                      · rw [if_neg c17] at H
                        exact absurd H (by simp)
                    · rw [if_neg c16] at H
                      exact absurd H (by simp)
                  · rw [if_neg c13] at H
                    exact absurd H (by simp)
                · rw [if_neg c11] at H
                  exact absurd H (by simp)
              · rw [if_neg c10] at H
                exact absurd H (by simp)
            · rw [if_neg c9] at H
              exact absurd H (by simp)
          · rw [if_neg c8] at H
            have c8b0 : decide (x15_1 < (l0.length : Int)) = false := decide_eq_false c8
            clear c8
            obtain rfl := Option.some.inj H
            go_wp2
            go_ret
            exact ⟨_, by first | rfl | (simp [errW_none, errW_some] <;> rfl) | (simp only [← hji3]; first | rfl | (simp [errW_none, errW_some] <;> rfl)) | (simp [*, errW_none, errW_some] <;> rfl), by (with_reducible repeat (first | apply Kd.R_alloc | apply Kd.R_drewN | apply Kd.R_drew)); exact HO_5.out, by repeat (first | (with_reducible first | exact HB.out | apply below_alloc | apply pw_below_drewN | apply below_drew1) | exact HB.out)⟩
    · rw [if_neg c5] at H
      exact absurd H (by simp)
  · rw [if_neg c4] at H
    exact absurd H (by simp)
end Go.Proofs.YtmjkhbjfacfmcaaDoor.PA
end
section
namespace Go.Proofs.YtmjkhbjfacfmcaaDoor.PA
open Go.RowKit Go.Proofs.YtmjkhbjfacfmcaaDoorW.PrintWords Go.Proofs.YtmjkhbjfacfmcaaDoorW.PrintLast Go.Proofs.YtmjkhbjfacfmcaaDoorW.PrintMore
attribute [local go_sem] max2_int min2_int max_two min_two max_three min_three max_four min_four
set_option linter.unusedVariables false
set_option linter.unusedSimpArgs false
mutual
def nat_reduce.l0 : Nat → List Int → List Int → Int → Int → Int → Int → Int → List Int → Int → Int → Option (Int × List Int)
  | 0, _, _, _, _, _, _, _, _, _, _ => none
  | k + 1, x0, x1, x2, x3, x9, x10, x11, x20, x21, x22 => if x22 < x21 then (if 0 ≤ x22 then (if x22 < (x20.length : Int) then (if 0 ≤ (wrap64 (x22 + x2)) then (if (wrap64 (x22 + x2)) < (x0.length : Int) then ((bits_Sub32.f (rd x0 (wrap64 (x22 + x2))) ((IntKind.u64.wrap ((IntKind.u64.wrap (x3 * (IntKind.u64.wrap (rd x20 x22)))) + x10)) % 4294967296) x11).bind fun bt210 => (nat_reduce.l0 k (x0.set ((wrap64 (x22 + x2)) : Int).toNat bt210.1) x1 x2 x3 x9 ((IntKind.u64.wrap ((IntKind.u64.wrap (x3 * (IntKind.u64.wrap (rd x20 x22)))) + x10)) / 4294967296) bt210.2 x20 x21 (wrap64 (x22 + 1)))) else (none)) else (none)) else (none)) else (none)) else (if 0 ≤ (wrap64 (x2 + x9)) then (if (wrap64 (x2 + x9)) < (x0.length : Int) then ((bits_Sub32.f (rd x0 (wrap64 (x2 + x9))) ((x10) % 4294967296) x11).bind fun bt214 => ((some (x0.set ((wrap64 (x2 + x9)) : Int).toNat bt214.1 : List Int)).bind fun y216 => (if bt214.2 = 0 then (some ((x3) % 4294967296, y216)) else (nat_reduce.l1 k y216 x2 x3 x9 0 x1 (x1.length : Int) 0)))) else (none)) else (none))
def nat_reduce.l1 : Nat → List Int → Int → Int → Int → Int → List Int → Int → Int → Option (Int × List Int)
  | 0, _, _, _, _, _, _, _, _ => none
  | k + 1, x0, x2, x3, x9, x15, x76, x77, x78 => if x78 < x77 then (if 0 ≤ x78 then (if x78 < (x76.length : Int) then (if 0 ≤ (wrap64 (x78 + x2)) then (if (wrap64 (x78 + x2)) < (x0.length : Int) then ((bits_Add32.f (rd x0 (wrap64 (x78 + x2))) (rd x76 x78) x15).bind fun bt219 => (nat_reduce.l1 k (x0.set ((wrap64 (x78 + x2)) : Int).toNat bt219.1) x2 x3 x9 bt219.2 x76 x77 (wrap64 (x78 + 1)))) else (none)) else (none)) else (none)) else (none)) else (if 0 ≤ (wrap64 (x2 + x9)) then (if (wrap64 (x2 + x9)) < (x0.length : Int) then (some ((IntKind.u64.wrap (x3 - 1)) % 4294967296, (x0.set ((wrap64 (x2 + x9)) : Int).toNat (((rd x0 (wrap64 (x2 + x9))) + x15) % 4294967296)))) else (none)) else (none))
end
def nat_reduce.f (k : Nat) (l0 : List Int) (l1 : List Int) (a2 : Int) (a3 : Int) : Option (Int × List Int) := nat_reduce.l0 k l0 l1 a2 a3 (l1.length : Int) 0 0 l1 (l1.length : Int) 0
theorem nat_reduce.mono_l : ∀ k, (∀ y0 y1 y2 y3 y4 y5 y6 y7 y8 y9, LeO (nat_reduce.l0 k y0 y1 y2 y3 y4 y5 y6 y7 y8 y9) (nat_reduce.l0 (k + 1) y0 y1 y2 y3 y4 y5 y6 y7 y8 y9)) ∧ (∀ y0 y1 y2 y3 y4 y5 y6 y7, LeO (nat_reduce.l1 k y0 y1 y2 y3 y4 y5 y6 y7) (nat_reduce.l1 (k + 1) y0 y1 y2 y3 y4 y5 y6 y7))
  | 0 => ⟨fun _ _ _ _ _ _ _ _ _ _ r h => by simp [nat_reduce.l0] at h, fun _ _ _ _ _ _ _ _ r h => by simp [nat_reduce.l1] at h⟩
  | k + 1 => by
    obtain ⟨ih0, ih1⟩ := nat_reduce.mono_l k
    refine ⟨?_, ?_⟩
    · intro y0 y1 y2 y3 y4 y5 y6 y7 y8 y9
      unfold nat_reduce.l0
      repeat' first
      | (with_reducible exact ih0 _ _ _ _ _ _ _ _ _ _)
      | (with_reducible exact ih1 _ _ _ _ _ _ _ _)
      | (with_reducible exact LeO.refl _)
      | (with_reducible exact LeO.none _)
      | (with_reducible refine LeO.ite ?_ ?_)
      | (with_reducible refine LeO.bind ?_ (fun _ => ?_))
      | exact ih0 _ _ _ _ _ _ _ _ _ _
      | exact ih1 _ _ _ _ _ _ _ _
      | exact LeO.none _
      | refine LeO.ite ?_ ?_
      | refine LeO.bind ?_ (fun _ => ?_)
    · intro y0 y1 y2 y3 y4 y5 y6 y7
      unfold nat_reduce.l1
      repeat' first
      | (with_reducible exact ih0 _ _ _ _ _ _ _ _ _ _)
      | (with_reducible exact ih1 _ _ _ _ _ _ _ _)
      | (with_reducible exact LeO.refl _)
      | (with_reducible exact LeO.none _)
      | (with_reducible refine LeO.ite ?_ ?_)
      | (with_reducible refine LeO.bind ?_ (fun _ => ?_))
      | exact ih0 _ _ _ _ _ _ _ _ _ _
      | exact ih1 _ _ _ _ _ _ _ _
      | exact LeO.none _
      | refine LeO.ite ?_ ?_
      | refine LeO.bind ?_ (fun _ => ?_)
theorem nat_reduce.mono : ∀ a0 a1 a2 a3 k, LeO (nat_reduce.f k a0 a1 a2 a3) (nat_reduce.f (k + 1) a0 a1 a2 a3) := by
  intro a0 a1 a2 a3 k
  obtain ⟨ih0, ih1⟩ := nat_reduce.mono_l k
  unfold nat_reduce.f
  repeat' first
      | (with_reducible exact ih0 _ _ _ _ _ _ _ _ _ _)
      | (with_reducible exact ih1 _ _ _ _ _ _ _ _)
      | (with_reducible exact LeO.refl _)
      | (with_reducible exact LeO.none _)
      | (with_reducible refine LeO.ite ?_ ?_)
      | (with_reducible refine LeO.bind ?_ (fun _ => ?_))
      | exact ih0 _ _ _ _ _ _ _ _ _ _
      | exact ih1 _ _ _ _ _ _ _ _
      | exact LeO.none _
      | refine LeO.ite ?_ ?_
      | refine LeO.bind ?_ (fun _ => ?_)
set_option maxHeartbeats 8000000 in
set_option maxRecDepth 100000 in
theorem nat_reduce.calls (k : Nat) (P0_ : Nat → Prop) (u9000_ : Value) (l0 : List Int) (A1 : Option Addr) (c1 : Nat) (l1 : List Int) (a2 : Int) (a3 : Int) (r1 : Int) (r2 : List Int) (w0 w : World) (hB : Below w0.heap.size w0 w) (ho0 : Kd.R (Kd.int .u32) 62 w w0.heap.size P0_ u9000_ l0) (hr1 : ∀ W_, Kept w W_ (fun k_ => P0_ k_) → Kd.C (Kd.int .u32) W_ A1 l1.length l1) (hc1 : l1.length ≤ c1) (h : nat_reduce.f k l0 l1 a2 a3 = some (r1, r2)) :
    Calls Tryd.prog 40 #[u9000_, .slice A1 l1.length c1, .int .i64 a2, .int .u64 a3] w fun e w' => e = .returned (.int .u32 r1) ∧ Kd.R (Kd.int .u32) 62 w' w0.heap.size (fun k_ => (P0_ k_ ∨ w.heap.size ≤ k_)) u9000_ r2 ∧ Below w0.heap.size w0 w' ∧ Kept w w' (fun k_ => P0_ k_) := by
  have HO0 := Aside0.mk (show Kd.R (Kd.int .u32) 62 w w0.heap.size (fun k_ => (P0_ k_ ∨ w.heap.size ≤ k_)) u9000_ l0 from Kd.R_mono ho0 (fun k_ hk => (.inl hk)))
  have HR1 := Aside0.mk hr1
  have HC1 := Aside0.mk hc1
  clear hr1 hc1
  have HK := Aside0.mk (Kept.refl w (fun k_ => P0_ k_))
  have HW0 := Aside0.mk hB.size
  have HB := Aside0.mk hB
  clear hB
  have H : (nat_reduce.l0 k l0 l1 a2 a3 (l1.length : Int) 0 0 l1 (l1.length : Int) 0) = some (r1, r2) := h
  clear h
  have H' := Aside0.mk H
  clear H
  go_enter Tryd.func40, Tryd.ntmps40
  go_wp2
  (try simp only [Act.put, List.setIfInBounds_toArray, List.set_cons_zero, List.set_cons_succ])
  go_loopg [10, 11, 22] k (fun kq v10 v11 v22 w' => ∃ (x0_1 : List Int) (x10_1 : Int) (x11_1 : Int) (x22_1 : Int), v10 = .int .u64 x10_1 ∧ v11 = .int .u32 x11_1 ∧ v22 = .int .i64 x22_1 ∧ Aside0 (nat_reduce.l0 kq x0_1 l1 a2 a3 (l1.length : Int) x10_1 x11_1 l1 (l1.length : Int) x22_1 = some (r1, r2)) ∧ Aside0 (kq ≤ k) ∧ Aside0 (Kd.R (Kd.int .u32) 62 w' w0.heap.size (fun k_ => (P0_ k_ ∨ w.heap.size ≤ k_)) u9000_ x0_1) ∧ Aside0 (Kept w w' (fun k_ => P0_ k_)) ∧ Aside0 (Below w0.heap.size w0 w'))
  case atStart => exact ⟨(l0), (0), (0), (0), (by first | rfl | (simp; done) | (simp [*]; done)), (by first | rfl | (simp; done) | (simp [*]; done)), (by first | rfl | (simp; done) | (simp [*]; done)), H', ⟨Nat.le_refl _⟩, ⟨by (with_reducible repeat (first | apply Kd.R_alloc | apply Kd.R_drewN | apply Kd.R_drew)); exact HO0.out⟩, ⟨by repeat (first | (with_reducible first | exact HK.out | apply Kept.alloc | apply Kept.drewN | apply Kept.drew) | exact HK.out)⟩, ⟨by repeat (first | (with_reducible first | exact HB.out | apply below_alloc | apply pw_below_drewN | apply below_drew1) | exact HB.out)⟩⟩
  case round =>
    clear H'
    try clear c1
    try clear p2
    try clear c4
    obtain ⟨x0_1, x10_1, x11_1, x22_1, rfl, rfl, rfl, HA, HK1, HO_0, HK, HB⟩ := hrel
    cases gk with
    | zero => exact absurd HA.out (by simp [nat_reduce.l0])
    | succ k1 =>
      have H := HA.out
      clear HA
      simp only [nat_reduce.l0] at H
      by_cases c5 : x22_1 < (l1.length : Int)
      · rw [if_pos c5] at H
        have c5b0 : decide (x22_1 < (l1.length : Int)) = true := decide_eq_true c5
        clear c5
        by_cases c6 : 0 ≤ x22_1
        · rw [if_pos c6] at H
          have c6b0 : decide (0 ≤ x22_1) = true := decide_eq_true c6
          clear c6
          by_cases c7 : x22_1 < (l1.length : Int)
          · rw [if_pos c7] at H
            have c7b0 : decide (x22_1 < (l1.length : Int)) = true := decide_eq_true c7
            clear c7
            obtain ⟨ji8, hji8⟩ : ∃ j_ : Int, (wrap64 (x22_1 + a2)) = j_ := ⟨_, rfl⟩
            replace H : (if 0 ≤ (ji8) then (if (ji8) < (x0_1.length : Int) then ((bits_Sub32.f (rd x0_1 (ji8)) ((IntKind.u64.wrap ((IntKind.u64.wrap (a3 * (IntKind.u64.wrap (rd l1 x22_1)))) + x10_1)) % 4294967296) x11_1).bind fun bt210 => (nat_reduce.l0 k1 (x0_1.set ((ji8) : Int).toNat bt210.1) l1 a2 a3 (l1.length : Int) ((IntKind.u64.wrap ((IntKind.u64.wrap (a3 * (IntKind.u64.wrap (rd l1 x22_1)))) + x10_1)) / 4294967296) bt210.2 l1 (l1.length : Int) (wrap64 (x22_1 + 1)))) else (none)) else (none)) = some (r1, r2) := by first | (rw [hji8] at H; exact H) | (simp only [hji8] at H ⊢; exact H)
            have hji8w : (IntKind.i64.wrap (x22_1 + a2)) = ji8 := (i64_w _).trans hji8
            by_cases c9 : 0 ≤ (ji8)
            · rw [if_pos c9] at H
              have c9b0 : decide (0 ≤ (ji8)) = true := decide_eq_true c9
              clear c9
              by_cases c10 : (ji8) < (x0_1.length : Int)
              · rw [if_pos c10] at H
                have c10b0 : decide ((ji8) < (x0_1.length : Int)) = true := decide_eq_true c10
                clear c10
                replace H := Option.bind_eq_some_iff.mp H
                obtain ⟨⟨t210, t211⟩, A110, H⟩ := H
                replace H : (nat_reduce.l0 k1 (x0_1.set ((ji8) : Int).toNat t210) l1 a2 a3 (l1.length : Int) ((IntKind.u64.wrap ((IntKind.u64.wrap (a3 * (IntKind.u64.wrap (rd l1 x22_1)))) + x10_1)) / 4294967296) t211 l1 (l1.length : Int) (wrap64 (x22_1 + 1))) = some (r1, r2) := H
                have A11 := Aside0.mk A110
                clear A110
                obtain ⟨y212, hy212⟩ : ∃ y_ : List Int, y_ = (x0_1.set ((ji8) : Int).toNat t210) := ⟨_, rfl⟩
                replace H : (nat_reduce.l0 k1 y212 l1 a2 a3 (l1.length : Int) ((IntKind.u64.wrap ((IntKind.u64.wrap (a3 * (IntKind.u64.wrap (rd l1 x22_1)))) + x10_1)) / 4294967296) t211 l1 (l1.length : Int) (wrap64 (x22_1 + 1))) = some (r1, r2) := by first | (rw [hy212]; with_reducible exact H) | (have H2_ := (Option.bind_some _ _).symm.trans H; rw [hy212]; with_reducible exact H2_) | (have H2_ := (Option.bind_some _ _).symm.trans H; with_reducible exact H2_) | with_reducible exact H | (rw [hy212]; exact H) | exact H
                have Ny212 := Aside0.mk hy212
                clear hy212
                have H' := Aside0.mk H
                clear H
                have p208 : 0 ≤ (x22_1 : Int) := of_decide_eq_true (by first | (with_reducible assumption) | assumption)
                have q208 : x22_1 < (l1.length : Int) := of_decide_eq_true (by first | (with_reducible assumption) | assumption)
                obtain ⟨ad208, e208, hx208_0⟩ := Kd.at_int (Kd.C_kept_now HR1.out HK.out) x22_1 p208 q208
                cases e208
                replace p208 := eq_true p208
                replace q208 := eq_true q208
                obtain ⟨Ao13, co13, eo13⟩ := Kd.R_slice HO_0.out
                subst eo13
                have p209 : 0 ≤ ((ji8) : Int) := of_decide_eq_true (by first | (with_reducible assumption) | assumption)
                have q209 : (ji8) < (x0_1.length : Int) := of_decide_eq_true (by first | (with_reducible assumption) | assumption)
                obtain ⟨ad209, e209, hx209_0⟩ := Kd.at_int (Kd.R_reads' HO_0.out).2.2 (ji8) p209 q209
                cases e209
                replace p209 := eq_true p209
                replace q209 := eq_true q209
                go_wp2_with (first | ((with_reducible refine gate_callee (f := 44) rfl ?_); refine goesL_ (some 49) rfl rfl Tryd.func44 (by kernel_rfl) rfl #[.int .u32 (rd x0_1 (ji8)), .int .u32 ((IntKind.u64.wrap ((IntKind.u64.wrap (a3 * (IntKind.u64.wrap (rd l1 x22_1)))) + x10_1)) % 4294967296), .int .u32 x11_1] rfl (by (try simp only [List.map_toArray, List.map_cons, List.map_nil]); first | done | (simp only [hji8]; rfl) | rfl | (simp only [List.length_drop, List.length_take]; rfl)) ?_; (with_reducible refine (bits_Sub32.calls (rd x0_1 (ji8)) ((IntKind.u64.wrap ((IntKind.u64.wrap (a3 * (IntKind.u64.wrap (rd l1 x22_1)))) + x10_1)) % 4294967296) x11_1 t210 t211 _ A11.out).mono ?_); rintro e w' ⟨rfl, ⟨nd, rfl⟩⟩; refine ⟨_, rfl, ?_⟩; (try (rw [drewN_self wr]; generalize hq_ : World.drewN wr _ = wr; have n0_ : Aside0 (Kd.R (Kd.int .u32) 62 wr w0.heap.size (fun k_ => (P0_ k_ ∨ w.heap.size ≤ k_)) (.slice (some ad209) x0_1.length co13) x0_1) := ⟨by rw [← hq_]; exact (by (with_reducible repeat (first | apply Kd.R_alloc | apply Kd.R_drewN | apply Kd.R_drew)); exact HO_0.out)⟩; have n1_ : Aside0 (Kept w wr (fun k_ => P0_ k_)) := ⟨by rw [← hq_]; exact (by repeat (first | (with_reducible first | exact HK.out | apply Kept.alloc | apply Kept.drewN | apply Kept.drew) | exact HK.out))⟩; have n2_ : Aside0 (Below w0.heap.size w0 wr) := ⟨by rw [← hq_]; exact (by repeat (first | (with_reducible first | exact HB.out | apply below_alloc | apply pw_below_drewN | apply below_drew1) | exact HB.out))⟩; clear HO_0 HK HB hq_; have HO_0 := n0_; have HK := n1_; have HB := n2_; clear n0_ n1_ n2_)); have p12 : 0 ≤ ((ji8) : Int) := of_decide_eq_true (by first | (with_reducible assumption) | assumption); have q12 : ((ji8) : Int) < ((x0_1.length : Int) : Int) := of_decide_eq_true (by first | (with_reducible assumption) | assumption); obtain ⟨go12, co12, eo12, gb12, gl12, cl12, HG12⟩ := Kd.R_form HO_0.out (by omega); (first | cases eo12 | (injection eo12 with ea_ en_ ec_; (first | subst ea_ | (injection ea_ with ea_; subst ea_)); subst ec_; clear en_)); have GB12 := Aside0.mk gb12; have GG12 := Aside0.mk HG12; clear gb12 gl12 HG12; have HMgo12 := Aside0.mk (show (P0_ go12 ∨ w.heap.size ≤ go12) from (HO_0.out.1 _ rfl)); (first | simp only [add_plain] at hx209_0 | skip); obtain ⟨hx12_0, hf12_0⟩ := Kd.R_celln 0 HO_0.out ((ji8) : Int) p12 q12; replace p12 := eq_true p12; replace q12 := eq_true q12; obtain ⟨hy14_, hz14_⟩ := Kd.R_celln 0 HO_0.out ((ji8) : Int) (of_decide_eq_true (by first | (with_reducible assumption) | assumption)) (of_decide_eq_true (by first | (with_reducible assumption) | assumption)); have HP14 := Kd.R_putg HO_0.out ((ji8) : Int) t210) | ((with_reducible refine gate_store (t := 62) (p := 52) rfl ?_); refine store_event (t := 62) (p := 52) (v := ?vo_w15) (w1 := (wr.setCell ⟨go12, ((ji8) : Int).toNat, none⟩ (.int .u32 t210))) ?hg ?ho ?hn ?hr ?_; (case ho => rfl); (case hg => rfl); (case hn => rfl); (case hr => first | (go_simp; done) | (go_simp; rfl)); intro w15 hw; have hg : wr.grownBy w15 (some go12) := (by rw [hw]; exact HP14.2); have hp_ : Kd.R (Kd.int .u32) 62 w15 w0.heap.size (fun k_ => (P0_ k_ ∨ w.heap.size ≤ k_)) (.slice (some ⟨go12, 0, none⟩) x0_1.length co13) y212 := (by rw [hw, Ny212.out]; exact HP14.1); clear HP14; have n0_ := Aside0.mk (hp_); have n1_ := Aside0.mk ((by rw [hw]; exact below_set (HB.out) GB12.out : Below w0.heap.size w0 w15)); have n2_ := Aside0.mk (Kept.of_grown (S := (fun k_ => P0_ k_)) hg (by repeat (first | (with_reducible first | exact HK.out | apply Kept.alloc | apply Kept.drewN | apply Kept.drew) | exact HK.out)) (fun k_ e_ => (HO_0.out.1 k_ e_))); clear HO_0; clear HB; clear HK; have HO_0 := n0_; have HB := n1_; have HK := n2_; clear n0_ n1_ n2_; clear hg hw hp_))
                go_roundg k1
                case measure => have := HK1.out; omega
                case rel => exact ⟨(y212), ((IntKind.u64.wrap ((IntKind.u64.wrap (a3 * (IntKind.u64.wrap (rd l1 x22_1)))) + x10_1)) / 4294967296), (t211), (wrap64 (x22_1 + 1)), (by first | rfl | (simp; done) | (simp [*]; done)), (by first | rfl | (simp; done) | (simp [*]; done)), (by first | rfl | (simp; done) | (simp [*]; done)), H', ⟨by have := HK1.out; omega⟩, ⟨by (with_reducible repeat (first | apply Kd.R_alloc | apply Kd.R_drewN | apply Kd.R_drew)); exact HO_0.out⟩, ⟨by repeat (first | (with_reducible first | exact HK.out | apply Kept.alloc | apply Kept.drewN | apply Kept.drew) | exact HK.out)⟩, ⟨by repeat (first | (with_reducible first | exact HB.out | apply below_alloc | apply pw_below_drewN | apply below_drew1) | exact HB.out)⟩⟩
              · rw [if_neg c10] at H
                exact absurd H (by simp)
            · rw [if_neg c9] at H
              exact absurd H (by simp)
          · rw [if_neg c7] at H
            exact absurd H (by simp)
        · rw [if_neg c6] at H
          exact absurd H (by simp)
      · rw [if_neg c5] at H
        have c5b0 : decide (x22_1 < (l1.length : Int)) = false := decide_eq_false c5
        clear c5
        obtain ⟨ji16, hji16⟩ : ∃ j_ : Int, (wrap64 (a2 + (l1.length : Int))) = j_ := ⟨_, rfl⟩
        replace H : (if 0 ≤ (ji16) then (if (ji16) < (x0_1.length : Int) then ((bits_Sub32.f (rd x0_1 (ji16)) ((x10_1) % 4294967296) x11_1).bind fun bt214 => ((some (x0_1.set ((ji16) : Int).toNat bt214.1 : List Int)).bind fun y216 => (if bt214.2 = 0 then (some ((a3) % 4294967296, y216)) else (nat_reduce.l1 k1 y216 a2 a3 (l1.length : Int) 0 l1 (l1.length : Int) 0)))) else (none)) else (none)) = some (r1, r2) := by first | (rw [hji16] at H; exact H) | (simp only [hji16] at H ⊢; exact H)
        have hji16w : (IntKind.i64.wrap (a2 + (l1.length : Int))) = ji16 := (i64_w _).trans hji16
        by_cases c17 : 0 ≤ (ji16)
        · rw [if_pos c17] at H
          have c17b0 : decide (0 ≤ (ji16)) = true := decide_eq_true c17
          clear c17
          by_cases c18 : (ji16) < (x0_1.length : Int)
          · rw [if_pos c18] at H
            have c18b0 : decide ((ji16) < (x0_1.length : Int)) = true := decide_eq_true c18
            clear c18
            replace H := Option.bind_eq_some_iff.mp H
            obtain ⟨⟨t214, t215⟩, A190, H⟩ := H
            replace H : ((some (x0_1.set ((ji16) : Int).toNat t214 : List Int)).bind fun y216 => (if t215 = 0 then (some ((a3) % 4294967296, y216)) else (nat_reduce.l1 k1 y216 a2 a3 (l1.length : Int) 0 l1 (l1.length : Int) 0))) = some (r1, r2) := H
            have A19 := Aside0.mk A190
            clear A190
            obtain ⟨y216, hy216⟩ : ∃ y_ : List Int, y_ = (x0_1.set ((ji16) : Int).toNat t214) := ⟨_, rfl⟩
            replace H : (if t215 = 0 then (some ((a3) % 4294967296, y216)) else (nat_reduce.l1 k1 y216 a2 a3 (l1.length : Int) 0 l1 (l1.length : Int) 0)) = some (r1, r2) := by first | (rw [hy216]; with_reducible exact H) | (have H2_ := (Option.bind_some _ _).symm.trans H; rw [hy216]; with_reducible exact H2_) | (have H2_ := (Option.bind_some _ _).symm.trans H; with_reducible exact H2_) | with_reducible exact H | (rw [hy216]; exact H) | exact H
            have Ny216 := Aside0.mk hy216
            clear hy216
            by_cases c21 : t215 = 0
            · rw [if_pos c21] at H
              have c21b0 : (t215 == 0) = true := beq_iff_eq.mpr c21
              have c21b1 : (t215 != 0) = false := bne_eq_false_iff_eq.mpr c21
              clear c21
              simp only [Option.some.injEq, Prod.mk.injEq] at H
              obtain ⟨rfl, rfl⟩ := H
              obtain ⟨Ao22, co22, eo22⟩ := Kd.R_slice HO_0.out
              subst eo22
              have p213 : 0 ≤ ((ji16) : Int) := of_decide_eq_true (by first | (with_reducible assumption) | assumption)
              have q213 : (ji16) < (x0_1.length : Int) := of_decide_eq_true (by first | (with_reducible assumption) | assumption)
              obtain ⟨ad213, e213, hx213_0⟩ := Kd.at_int (Kd.R_reads' HO_0.out).2.2 (ji16) p213 q213
              cases e213
              replace p213 := eq_true p213
              replace q213 := eq_true q213
              go_wp2_with (first | ((with_reducible refine gate_callee (f := 44) rfl ?_); refine goesL_ (some 68) rfl rfl Tryd.func44 (by kernel_rfl) rfl #[.int .u32 (rd x0_1 (ji16)), .int .u32 ((x10_1) % 4294967296), .int .u32 x11_1] rfl (by (try simp only [List.map_toArray, List.map_cons, List.map_nil]); first | done | (simp only [hji16]; rfl) | rfl | (simp only [List.length_drop, List.length_take]; rfl)) ?_; (with_reducible refine (bits_Sub32.calls (rd x0_1 (ji16)) ((x10_1) % 4294967296) x11_1 t214 t215 _ A19.out).mono ?_); rintro e w' ⟨rfl, ⟨nd, rfl⟩⟩; refine ⟨_, rfl, ?_⟩; (try (rw [drewN_self wr]; generalize hq_ : World.drewN wr _ = wr; have n0_ : Aside0 (Kd.R (Kd.int .u32) 62 wr w0.heap.size (fun k_ => (P0_ k_ ∨ w.heap.size ≤ k_)) (.slice (some ad213) x0_1.length co22) x0_1) := ⟨by rw [← hq_]; exact (by (with_reducible repeat (first | apply Kd.R_alloc | apply Kd.R_drewN | apply Kd.R_drew)); exact HO_0.out)⟩; have n1_ : Aside0 (Kept w wr (fun k_ => P0_ k_)) := ⟨by rw [← hq_]; exact (by repeat (first | (with_reducible first | exact HK.out | apply Kept.alloc | apply Kept.drewN | apply Kept.drew) | exact HK.out))⟩; have n2_ : Aside0 (Below w0.heap.size w0 wr) := ⟨by rw [← hq_]; exact (by repeat (first | (with_reducible first | exact HB.out | apply below_alloc | apply pw_below_drewN | apply below_drew1) | exact HB.out))⟩; clear HO_0 HK HB hq_; have HO_0 := n0_; have HK := n1_; have HB := n2_; clear n0_ n1_ n2_)); have p20 : 0 ≤ ((ji16) : Int) := of_decide_eq_true (by first | (with_reducible assumption) | assumption); have q20 : ((ji16) : Int) < ((x0_1.length : Int) : Int) := of_decide_eq_true (by first | (with_reducible assumption) | assumption); obtain ⟨go20, co20, eo20, gb20, gl20, cl20, HG20⟩ := Kd.R_form HO_0.out (by omega); (first | cases eo20 | (injection eo20 with ea_ en_ ec_; (first | subst ea_ | (injection ea_ with ea_; subst ea_)); subst ec_; clear en_)); have GB20 := Aside0.mk gb20; have GG20 := Aside0.mk HG20; clear gb20 gl20 HG20; have HMgo20 := Aside0.mk (show (P0_ go20 ∨ w.heap.size ≤ go20) from (HO_0.out.1 _ rfl)); (first | simp only [add_plain] at hx213_0 | skip); obtain ⟨hx20_0, hf20_0⟩ := Kd.R_celln 0 HO_0.out ((ji16) : Int) p20 q20; replace p20 := eq_true p20; replace q20 := eq_true q20; obtain ⟨hy23_, hz23_⟩ := Kd.R_celln 0 HO_0.out ((ji16) : Int) (of_decide_eq_true (by first | (with_reducible assumption) | assumption)) (of_decide_eq_true (by first | (with_reducible assumption) | assumption)); have HP23 := Kd.R_putg HO_0.out ((ji16) : Int) t214) | ((with_reducible refine gate_store (t := 62) (p := 71) rfl ?_); refine store_event (t := 62) (p := 71) (v := ?vo_w24) (w1 := (wr.setCell ⟨go20, ((ji16) : Int).toNat, none⟩ (.int .u32 t214))) ?hg ?ho ?hn ?hr ?_; (case ho => rfl); (case hg => rfl); (case hn => rfl); (case hr => first | (go_simp; done) | (go_simp; rfl)); intro w24 hw; have hg : wr.grownBy w24 (some go20) := (by rw [hw]; exact HP23.2); have hp_ : Kd.R (Kd.int .u32) 62 w24 w0.heap.size (fun k_ => (P0_ k_ ∨ w.heap.size ≤ k_)) (.slice (some ⟨go20, 0, none⟩) x0_1.length co22) y216 := (by rw [hw, Ny216.out]; exact HP23.1); clear HP23; have n0_ := Aside0.mk (hp_); have n1_ := Aside0.mk ((by rw [hw]; exact below_set (HB.out) GB20.out : Below w0.heap.size w0 w24)); have n2_ := Aside0.mk (Kept.of_grown (S := (fun k_ => P0_ k_)) hg (by repeat (first | (with_reducible first | exact HK.out | apply Kept.alloc | apply Kept.drewN | apply Kept.drew) | exact HK.out)) (fun k_ e_ => (HO_0.out.1 k_ e_))); clear HO_0; clear HB; clear HK; have HO_0 := n0_; have HB := n1_; have HK := n2_; clear n0_ n1_ n2_; clear hg hw hp_))
              go_ret
              exact ⟨by first | rfl | (simp [errW_none, errW_some] <;> rfl) | (simp only [← hji16]; first | rfl | (simp [errW_none, errW_some] <;> rfl)) | (simp [*, errW_none, errW_some] <;> rfl), by (with_reducible repeat (first | apply Kd.R_alloc | apply Kd.R_drewN | apply Kd.R_drew)); exact HO_0.out, by repeat (first | (with_reducible first | exact HB.out | apply below_alloc | apply pw_below_drewN | apply below_drew1) | exact HB.out), by repeat (first | (with_reducible first | exact HK.out | apply Kept.alloc | apply Kept.drewN | apply Kept.drew) | exact HK.out)⟩
            · rw [if_neg c21] at H
              have c21b0 : (t215 == 0) = false := beq_eq_false_iff_ne.mpr c21
              have c21b1 : (t215 != 0) = true := bne_iff_ne.mpr c21
              have H' := Aside0.mk H
              clear H
              obtain ⟨Ao25, co25, eo25⟩ := Kd.R_slice HO_0.out
              subst eo25
              have p213 : 0 ≤ ((ji16) : Int) := of_decide_eq_true (by first | (with_reducible assumption) | assumption)
              have q213 : (ji16) < (x0_1.length : Int) := of_decide_eq_true (by first | (with_reducible assumption) | assumption)
              obtain ⟨ad213, e213, hx213_0⟩ := Kd.at_int (Kd.R_reads' HO_0.out).2.2 (ji16) p213 q213
              cases e213
              replace p213 := eq_true p213
              replace q213 := eq_true q213
              go_wp2_with (first | ((with_reducible refine gate_callee (f := 44) rfl ?_); refine goesL_ (some 68) rfl rfl Tryd.func44 (by kernel_rfl) rfl #[.int .u32 (rd x0_1 (ji16)), .int .u32 ((x10_1) % 4294967296), .int .u32 x11_1] rfl (by (try simp only [List.map_toArray, List.map_cons, List.map_nil]); first | done | (simp only [hji16]; rfl) | rfl | (simp only [List.length_drop, List.length_take]; rfl)) ?_; (with_reducible refine (bits_Sub32.calls (rd x0_1 (ji16)) ((x10_1) % 4294967296) x11_1 t214 t215 _ A19.out).mono ?_); rintro e w' ⟨rfl, ⟨nd, rfl⟩⟩; refine ⟨_, rfl, ?_⟩; (try (rw [drewN_self wr]; generalize hq_ : World.drewN wr _ = wr; have n0_ : Aside0 (Kd.R (Kd.int .u32) 62 wr w0.heap.size (fun k_ => (P0_ k_ ∨ w.heap.size ≤ k_)) (.slice (some ad213) x0_1.length co25) x0_1) := ⟨by rw [← hq_]; exact (by (with_reducible repeat (first | apply Kd.R_alloc | apply Kd.R_drewN | apply Kd.R_drew)); exact HO_0.out)⟩; have n1_ : Aside0 (Kept w wr (fun k_ => P0_ k_)) := ⟨by rw [← hq_]; exact (by repeat (first | (with_reducible first | exact HK.out | apply Kept.alloc | apply Kept.drewN | apply Kept.drew) | exact HK.out))⟩; have n2_ : Aside0 (Below w0.heap.size w0 wr) := ⟨by rw [← hq_]; exact (by repeat (first | (with_reducible first | exact HB.out | apply below_alloc | apply pw_below_drewN | apply below_drew1) | exact HB.out))⟩; clear HO_0 HK HB hq_; have HO_0 := n0_; have HK := n1_; have HB := n2_; clear n0_ n1_ n2_)); have p20 : 0 ≤ ((ji16) : Int) := of_decide_eq_true (by first | (with_reducible assumption) | assumption); have q20 : ((ji16) : Int) < ((x0_1.length : Int) : Int) := of_decide_eq_true (by first | (with_reducible assumption) | assumption); obtain ⟨go20, co20, eo20, gb20, gl20, cl20, HG20⟩ := Kd.R_form HO_0.out (by omega); (first | cases eo20 | (injection eo20 with ea_ en_ ec_; (first | subst ea_ | (injection ea_ with ea_; subst ea_)); subst ec_; clear en_)); have GB20 := Aside0.mk gb20; have GG20 := Aside0.mk HG20; clear gb20 gl20 HG20; have HMgo20 := Aside0.mk (show (P0_ go20 ∨ w.heap.size ≤ go20) from (HO_0.out.1 _ rfl)); (first | simp only [add_plain] at hx213_0 | skip); obtain ⟨hx20_0, hf20_0⟩ := Kd.R_celln 0 HO_0.out ((ji16) : Int) p20 q20; replace p20 := eq_true p20; replace q20 := eq_true q20; obtain ⟨hy26_, hz26_⟩ := Kd.R_celln 0 HO_0.out ((ji16) : Int) (of_decide_eq_true (by first | (with_reducible assumption) | assumption)) (of_decide_eq_true (by first | (with_reducible assumption) | assumption)); have HP26 := Kd.R_putg HO_0.out ((ji16) : Int) t214) | ((with_reducible refine gate_store (t := 62) (p := 71) rfl ?_); refine store_event (t := 62) (p := 71) (v := ?vo_w27) (w1 := (wr.setCell ⟨go20, ((ji16) : Int).toNat, none⟩ (.int .u32 t214))) ?hg ?ho ?hn ?hr ?_; (case ho => rfl); (case hg => rfl); (case hn => rfl); (case hr => first | (go_simp; done) | (go_simp; rfl)); intro w27 hw; have hg : wr.grownBy w27 (some go20) := (by rw [hw]; exact HP26.2); have hp_ : Kd.R (Kd.int .u32) 62 w27 w0.heap.size (fun k_ => (P0_ k_ ∨ w.heap.size ≤ k_)) (.slice (some ⟨go20, 0, none⟩) x0_1.length co25) y216 := (by rw [hw, Ny216.out]; exact HP26.1); clear HP26; have n0_ := Aside0.mk (hp_); have n1_ := Aside0.mk ((by rw [hw]; exact below_set (HB.out) GB20.out : Below w0.heap.size w0 w27)); have n2_ := Aside0.mk (Kept.of_grown (S := (fun k_ => P0_ k_)) hg (by repeat (first | (with_reducible first | exact HK.out | apply Kept.alloc | apply Kept.drewN | apply Kept.drew) | exact HK.out)) (fun k_ e_ => (HO_0.out.1 k_ e_))); clear HO_0; clear HB; clear HK; have HO_0 := n0_; have HB := n1_; have HK := n2_; clear n0_ n1_ n2_; clear hg hw hp_))
              (try simp only [Act.put, List.setIfInBounds_toArray, List.set_cons_zero, List.set_cons_succ])
              go_loopg [15, 78] k1 (fun kq v15 v78 w' => ∃ (x0_2 : List Int) (x15_2 : Int) (x78_2 : Int), v15 = .int .u32 x15_2 ∧ v78 = .int .i64 x78_2 ∧ Aside0 (nat_reduce.l1 kq x0_2 a2 a3 (l1.length : Int) x15_2 l1 (l1.length : Int) x78_2 = some (r1, r2)) ∧ Aside0 (kq ≤ k1) ∧ Aside0 (Kd.R (Kd.int .u32) 62 w' w0.heap.size (fun k_ => (P0_ k_ ∨ w.heap.size ≤ k_)) (.slice (some ⟨go20, 0, none⟩) x0_1.length co25) x0_2) ∧ Aside0 (Kept w w' (fun k_ => P0_ k_)) ∧ Aside0 (Below w0.heap.size w0 w'))
              case atStart => exact ⟨(y216), (0), (0), (by first | rfl | (simp; done) | (simp [*]; done)), (by first | rfl | (simp; done) | (simp [*]; done)), H', ⟨Nat.le_refl _⟩, ⟨by (with_reducible repeat (first | apply Kd.R_alloc | apply Kd.R_drewN | apply Kd.R_drew)); exact HO_0.out⟩, ⟨by repeat (first | (with_reducible first | exact HK.out | apply Kept.alloc | apply Kept.drewN | apply Kept.drew) | exact HK.out)⟩, ⟨by repeat (first | (with_reducible first | exact HB.out | apply below_alloc | apply pw_below_drewN | apply below_drew1) | exact HB.out)⟩⟩
              case round =>
                clear H'
                try clear c1
                try clear p1
                try clear q1
                try clear hx1
                try clear c2
                try clear p2
                try clear q2
                try clear hx2
                try clear c4
                try clear c5
                try clear c5b0
                try clear c6
                try clear c6b0
                try clear p6
                try clear c7
                try clear c7b0
                try clear c9
                try clear c9b0
                try clear c10
                try clear c10b0
                try clear p12
                try clear q12
                try clear hx12
                try clear hf12
                try clear c17
                try clear c17b0
                try clear c18
                try clear c18b0
                try clear p20
                try clear q20
                try clear hx20
                try clear hf20
                try clear c21
                try clear c21b0
                try clear c21b1
                try clear p21
                try clear q21
                try clear hx21
                try clear hx12_0
                try clear hx208_0
                try clear hx209_0
                try clear hx20_0
                try clear hx213_0
                try clear p12
                try clear p2
                try clear p20
                try clear p208
                try clear p209
                try clear p213
                try clear q12
                try clear q20
                try clear q208
                try clear q209
                try clear q213
                obtain ⟨x0_2, x15_2, x78_2, rfl, rfl, HA, HK2, HO_0, HK, HB⟩ := hrel
                have hl0_2 := (Kd.R_reads' HO_0.out).1
                rw [hl0_2] at HO_0
                (try simp only [hl0_2])
                cases gk with
                | zero => exact absurd HA.out (by simp [nat_reduce.l1])
                | succ k2 =>
                  have H := HA.out
                  clear HA
                  simp only [nat_reduce.l1] at H
                  by_cases c28 : x78_2 < (l1.length : Int)
                  · rw [if_pos c28] at H
                    have c28b0 : decide (x78_2 < (l1.length : Int)) = true := decide_eq_true c28
                    (try (have c28bl := c28b0; simp only [hl0_2] at c28bl))
                    clear c28
                    by_cases c29 : 0 ≤ x78_2
                    · rw [if_pos c29] at H
                      have c29b0 : decide (0 ≤ x78_2) = true := decide_eq_true c29
                      clear c29
                      by_cases c30 : x78_2 < (l1.length : Int)
                      · rw [if_pos c30] at H
                        have c30b0 : decide (x78_2 < (l1.length : Int)) = true := decide_eq_true c30
                        (try (have c30bl := c30b0; simp only [hl0_2] at c30bl))
                        clear c30
                        obtain ⟨ji31, hji31⟩ : ∃ j_ : Int, (wrap64 (x78_2 + a2)) = j_ := ⟨_, rfl⟩
                        replace H : (if 0 ≤ (ji31) then (if (ji31) < (x0_2.length : Int) then ((bits_Add32.f (rd x0_2 (ji31)) (rd l1 x78_2) x15_2).bind fun bt219 => (nat_reduce.l1 k2 (x0_2.set ((ji31) : Int).toNat bt219.1) a2 a3 (l1.length : Int) bt219.2 l1 (l1.length : Int) (wrap64 (x78_2 + 1)))) else (none)) else (none)) = some (r1, r2) := by first | (rw [hji31] at H; exact H) | (simp only [hji31] at H ⊢; exact H)
                        have hji31w : (IntKind.i64.wrap (x78_2 + a2)) = ji31 := (i64_w _).trans hji31
                        by_cases c32 : 0 ≤ (ji31)
                        · rw [if_pos c32] at H
                          have c32b0 : decide (0 ≤ (ji31)) = true := decide_eq_true c32
                          clear c32
                          by_cases c33 : (ji31) < (x0_2.length : Int)
                          · rw [if_pos c33] at H
                            have c33b0 : decide ((ji31) < (x0_2.length : Int)) = true := decide_eq_true c33
                            (try (have c33bl := c33b0; simp only [hl0_2] at c33bl))
                            clear c33
                            replace H := Option.bind_eq_some_iff.mp H
                            obtain ⟨⟨t219, t220⟩, A340, H⟩ := H
                            replace H : (nat_reduce.l1 k2 (x0_2.set ((ji31) : Int).toNat t219) a2 a3 (l1.length : Int) t220 l1 (l1.length : Int) (wrap64 (x78_2 + 1))) = some (r1, r2) := H
                            have A34 := Aside0.mk A340
                            clear A340
                            obtain ⟨y221, hy221⟩ : ∃ y_ : List Int, y_ = (x0_2.set ((ji31) : Int).toNat t219) := ⟨_, rfl⟩
                            replace H : (nat_reduce.l1 k2 y221 a2 a3 (l1.length : Int) t220 l1 (l1.length : Int) (wrap64 (x78_2 + 1))) = some (r1, r2) := by first | (rw [hy221]; with_reducible exact H) | (have H2_ := (Option.bind_some _ _).symm.trans H; rw [hy221]; with_reducible exact H2_) | (have H2_ := (Option.bind_some _ _).symm.trans H; with_reducible exact H2_) | with_reducible exact H | (rw [hy221]; exact H) | exact H
                            have Ny221 := Aside0.mk hy221
                            clear hy221
                            have H' := Aside0.mk H
                            clear H
                            have p217 : 0 ≤ (x78_2 : Int) := of_decide_eq_true (by first | (with_reducible assumption) | assumption)
                            have q217 : x78_2 < (l1.length : Int) := of_decide_eq_true (by first | (with_reducible assumption) | assumption)
                            obtain ⟨ad217, e217, hx217_0⟩ := Kd.at_int (Kd.C_kept_now HR1.out HK.out) x78_2 p217 q217
                            cases e217
                            replace p217 := eq_true p217
                            replace q217 := eq_true q217
                            have p218 : 0 ≤ ((ji31) : Int) := of_decide_eq_true (by first | (with_reducible assumption) | assumption)
                            have q218 : (ji31) < (x0_2.length : Int) := of_decide_eq_true (by first | (with_reducible assumption) | assumption)
                            obtain ⟨ad218, e218, hx218_0⟩ := Kd.at_int (Kd.R_reads' HO_0.out).2.2 (ji31) p218 q218
                            obtain rfl : (⟨go20, 0, none⟩ : Addr) = ad218 := (by injection e218)
                            (first | simp only [add_plain] at hx218_0 | simp only [add_at] at hx218_0 | simp only [Addr.add, Nat.zero_add] at hx218_0 | skip)
                            replace p218 := eq_true p218
                            replace q218 := eq_true q218
                            go_wp2_with (first | ((with_reducible refine gate_callee (f := 42) rfl ?_); refine goesL_ (some 96) rfl rfl Tryd.func42 (by kernel_rfl) rfl #[.int .u32 (rd x0_2 (ji31)), .int .u32 (rd l1 x78_2), .int .u32 x15_2] rfl (by (try simp only [List.map_toArray, List.map_cons, List.map_nil]); first | done | (simp only [hji31]; rfl) | rfl | (simp only [List.length_drop, List.length_take]; rfl)) ?_; (with_reducible refine (bits_Add32.calls (rd x0_2 (ji31)) (rd l1 x78_2) x15_2 t219 t220 _ A34.out).mono ?_); rintro e w' ⟨rfl, ⟨nd, rfl⟩⟩; refine ⟨_, rfl, ?_⟩; (try (rw [drewN_self wr]; generalize hq_ : World.drewN wr _ = wr; have n0_ : Aside0 (Kd.R (Kd.int .u32) 62 wr w0.heap.size (fun k_ => (P0_ k_ ∨ w.heap.size ≤ k_)) (.slice (some ⟨go20, 0, none⟩) x0_2.length co25) x0_2) := ⟨by rw [← hq_]; exact (by (with_reducible repeat (first | apply Kd.R_alloc | apply Kd.R_drewN | apply Kd.R_drew)); exact HO_0.out)⟩; have n1_ : Aside0 (Kept w wr (fun k_ => P0_ k_)) := ⟨by rw [← hq_]; exact (by repeat (first | (with_reducible first | exact HK.out | apply Kept.alloc | apply Kept.drewN | apply Kept.drew) | exact HK.out))⟩; have n2_ : Aside0 (Below w0.heap.size w0 wr) := ⟨by rw [← hq_]; exact (by repeat (first | (with_reducible first | exact HB.out | apply below_alloc | apply pw_below_drewN | apply below_drew1) | exact HB.out))⟩; clear HO_0 HK HB hq_; have HO_0 := n0_; have HK := n1_; have HB := n2_; clear n0_ n1_ n2_)); have p35 : 0 ≤ ((ji31) : Int) := of_decide_eq_true (by first | (with_reducible assumption) | assumption); have q35 : ((ji31) : Int) < ((x0_2.length : Int) : Int) := of_decide_eq_true (by first | (with_reducible assumption) | assumption); obtain ⟨hx35_0, hf35_0⟩ := Kd.R_celln 0 HO_0.out ((ji31) : Int) p35 q35; replace p35 := eq_true p35; replace q35 := eq_true q35; obtain ⟨hy36_, hz36_⟩ := Kd.R_celln 0 HO_0.out ((ji31) : Int) (of_decide_eq_true (by first | (with_reducible assumption) | assumption)) (of_decide_eq_true (by first | (with_reducible assumption) | assumption)); have HP36 := Kd.R_putg HO_0.out ((ji31) : Int) t219) | ((with_reducible refine gate_store (t := 62) (p := 99) rfl ?_); refine store_event (t := 62) (p := 99) (v := ?vo_w37) (w1 := (wr.setCell ⟨go20, ((ji31) : Int).toNat, none⟩ (.int .u32 t219))) ?hg ?ho ?hn ?hr ?_; (case ho => rfl); (case hg => rfl); (case hn => rfl); (case hr => first | (go_simp; done) | (go_simp; rfl)); intro w37 hw; have hg : wr.grownBy w37 (some go20) := (by rw [hw]; exact HP36.2); have hp_ : Kd.R (Kd.int .u32) 62 w37 w0.heap.size (fun k_ => (P0_ k_ ∨ w.heap.size ≤ k_)) (.slice (some ⟨go20, 0, none⟩) x0_2.length co25) y221 := (by rw [hw, Ny221.out]; exact HP36.1); clear HP36; have n0_ := Aside0.mk (hp_); have n1_ := Aside0.mk ((by rw [hw]; exact below_set (HB.out) GB20.out : Below w0.heap.size w0 w37)); have n2_ := Aside0.mk (Kept.of_grown (S := (fun k_ => P0_ k_)) hg (by repeat (first | (with_reducible first | exact HK.out | apply Kept.alloc | apply Kept.drewN | apply Kept.drew) | exact HK.out)) (fun k_ e_ => (HO_0.out.1 k_ e_))); clear HO_0; clear HB; clear HK; have HO_0 := n0_; have HB := n1_; have HK := n2_; clear n0_ n1_ n2_; clear hg hw hp_))
                            (try simp only [← hl0_2])
                            go_roundg k2
                            case measure => have := HK1.out; have := HK2.out; omega
                            case rel => exact ⟨(y221), (t220), (wrap64 (x78_2 + 1)), (by first | rfl | (simp; done) | (simp [*]; done)), (by first | rfl | (simp; done) | (simp [*]; done)), H', ⟨by have := HK1.out; have := HK2.out; omega⟩, ⟨by (try simp only [hl0_2]); (with_reducible repeat (first | apply Kd.R_alloc | apply Kd.R_drewN | apply Kd.R_drew)); exact HO_0.out⟩, ⟨by repeat (first | (with_reducible first | exact HK.out | apply Kept.alloc | apply Kept.drewN | apply Kept.drew) | exact HK.out)⟩, ⟨by repeat (first | (with_reducible first | exact HB.out | apply below_alloc | apply pw_below_drewN | apply below_drew1) | exact HB.out)⟩⟩
                          · rw [if_neg c33] at H
                            exact absurd H (by simp)
                        · rw [if_neg c32] at H
                          exact absurd H (by simp)
                      · rw [if_neg c30] at H
                        exact absurd H (by simp)
                    · rw [if_neg c29] at H
                      exact absurd H (by simp)
                  · rw [if_neg c28] at H
                    have c28b0 : decide (x78_2 < (l1.length : Int)) = false := decide_eq_false c28
                    (try (have c28bl := c28b0; simp only [hl0_2] at c28bl))
                    clear c28
                    obtain ⟨ji38, hji38⟩ : ∃ j_ : Int, (wrap64 (a2 + (l1.length : Int))) = j_ := ⟨_, rfl⟩
                    (try (have hqji16ji38 : ji16 = ji38 := hji16.symm.trans hji38))
                    replace H : (if 0 ≤ (ji38) then (if (ji38) < (x0_2.length : Int) then (some ((IntKind.u64.wrap (a3 - 1)) % 4294967296, (x0_2.set ((ji38) : Int).toNat (((rd x0_2 (ji38)) + x15_2) % 4294967296)))) else (none)) else (none)) = some (r1, r2) := by first | (rw [hji38] at H; exact H) | (simp only [hji38] at H ⊢; exact H)
                    have hji38w : (IntKind.i64.wrap (a2 + (l1.length : Int))) = ji38 := (i64_w _).trans hji38
                    by_cases c39 : 0 ≤ (ji38)
                    · rw [if_pos c39] at H
                      have c39b0 : decide (0 ≤ (ji38)) = true := decide_eq_true c39
                      clear c39
                      by_cases c40 : (ji38) < (x0_2.length : Int)
                      · rw [if_pos c40] at H
                        have c40b0 : decide ((ji38) < (x0_2.length : Int)) = true := decide_eq_true c40
                        (try (have c40bl := c40b0; simp only [hl0_2] at c40bl))
                        clear c40
                        obtain ⟨y223, hy223⟩ : ∃ y_ : List Int, y_ = (x0_2.set ((ji38) : Int).toNat (((rd x0_2 (ji38)) + x15_2) % 4294967296)) := ⟨_, rfl⟩
                        replace H : (some ((IntKind.u64.wrap (a3 - 1)) % 4294967296, y223)) = some (r1, r2) := by first | (rw [hy223]; with_reducible exact H) | (have H2_ := (Option.bind_some _ _).symm.trans H; rw [hy223]; with_reducible exact H2_) | (have H2_ := (Option.bind_some _ _).symm.trans H; with_reducible exact H2_) | with_reducible exact H | (rw [hy223]; exact H) | exact H
                        have Ny223 := Aside0.mk hy223
                        clear hy223
                        simp only [Option.some.injEq, Prod.mk.injEq] at H
                        obtain ⟨rfl, rfl⟩ := H
                        have p222 : 0 ≤ ((ji38) : Int) := of_decide_eq_true (by first | (with_reducible assumption) | assumption)
                        have q222 : (ji38) < (x0_2.length : Int) := of_decide_eq_true (by first | (with_reducible assumption) | assumption)
                        obtain ⟨ad222, e222, hx222_0⟩ := Kd.at_int (Kd.R_reads' HO_0.out).2.2 (ji38) p222 q222
                        obtain rfl : (⟨go20, 0, none⟩ : Addr) = ad222 := (by injection e222)
                        (first | simp only [add_plain] at hx222_0 | simp only [add_at] at hx222_0 | simp only [Addr.add, Nat.zero_add] at hx222_0 | skip)
                        replace p222 := eq_true p222
                        replace q222 := eq_true q222
                        have p41 : 0 ≤ ((ji38) : Int) := of_decide_eq_true (by first | (with_reducible assumption) | assumption)
                        have q41 : ((ji38) : Int) < ((x0_2.length : Int) : Int) := of_decide_eq_true (by first | (with_reducible assumption) | assumption)
                        obtain ⟨hx41_0, hf41_0⟩ := Kd.R_celln 0 HO_0.out ((ji38) : Int) p41 q41
                        replace p41 := eq_true p41
                        replace q41 := eq_true q41
                        have HP42 := Kd.R_putg HO_0.out ((ji38) : Int) (((rd x0_2 (ji38)) + x15_2) % 4294967296)
                        go_wp2_with (first | ((with_reducible refine gate_store (t := 62) (p := 109) rfl ?_); refine store_event (t := 62) (p := 109) (v := ?vo_w43) (w1 := (wr.setCell ⟨go20, ((ji38) : Int).toNat, none⟩ (.int .u32 (((rd x0_2 (ji38)) + x15_2) % 4294967296)))) ?hg ?ho ?hn ?hr ?_; (case ho => rfl); (case hg => rfl); (case hn => rfl); (case hr => first | (go_simp; done) | (go_simp; rfl)); intro w43 hw; have hg : wr.grownBy w43 (some go20) := (by rw [hw]; exact HP42.2); have hp_ : Kd.R (Kd.int .u32) 62 w43 w0.heap.size (fun k_ => (P0_ k_ ∨ w.heap.size ≤ k_)) (.slice (some ⟨go20, 0, none⟩) x0_2.length co25) y223 := (by rw [hw, Ny223.out]; exact HP42.1); clear HP42; have n0_ := Aside0.mk (hp_); have n1_ := Aside0.mk ((by rw [hw]; exact below_set (HB.out) GB20.out : Below w0.heap.size w0 w43)); have n2_ := Aside0.mk (Kept.of_grown (S := (fun k_ => P0_ k_)) hg (by repeat (first | (with_reducible first | exact HK.out | apply Kept.alloc | apply Kept.drewN | apply Kept.drew) | exact HK.out)) (fun k_ e_ => (HO_0.out.1 k_ e_))); clear HO_0; clear HB; clear HK; have HO_0 := n0_; have HB := n1_; have HK := n2_; clear n0_ n1_ n2_; clear hg hw hp_))
                        go_ret
                        exact ⟨by first | rfl | (simp [errW_none, errW_some] <;> rfl) | (simp only [← hji16, ← hji38]; first | rfl | (simp [errW_none, errW_some] <;> rfl)) | (simp [*, errW_none, errW_some] <;> rfl), (by first | exact (by (with_reducible repeat (first | apply Kd.R_alloc | apply Kd.R_drewN | apply Kd.R_drew)); exact HO_0.out) | (simp only [hl0_2]; exact (by (with_reducible repeat (first | apply Kd.R_alloc | apply Kd.R_drewN | apply Kd.R_drew)); exact HO_0.out))), by repeat (first | (with_reducible first | exact HB.out | apply below_alloc | apply pw_below_drewN | apply below_drew1) | exact HB.out), by repeat (first | (with_reducible first | exact HK.out | apply Kept.alloc | apply Kept.drewN | apply Kept.drew) | exact HK.out)⟩
                      · rw [if_neg c40] at H
                        exact absurd H (by simp)
                    · rw [if_neg c39] at H
                      exact absurd H (by simp)
          · rw [if_neg c18] at H
            exact absurd H (by simp)
        · rw [if_neg c17] at H
          exact absurd H (by simp)
end Go.Proofs.YtmjkhbjfacfmcaaDoor.PA
end
section
namespace Go.Proofs.YtmjkhbjfacfmcaaDoor.PA
open Go.RowKit Go.Proofs.YtmjkhbjfacfmcaaDoorW.PrintWords Go.Proofs.YtmjkhbjfacfmcaaDoorW.PrintLast Go.Proofs.YtmjkhbjfacfmcaaDoorW.PrintMore
attribute [local go_sem] max2_int min2_int max_two min_two max_three min_three max_four min_four
set_option linter.unusedVariables false
set_option linter.unusedSimpArgs false
mutual
def nat_guess.l0 : Nat → List Int → List Int → Int → Int → Int → Int → Option (Int)
  | 0, _, _, _, _, _, _ => none
  | k + 1, x0, x1, x2, x7, x9, x10 => if (x9 / 4294967296) > 0 then (nat_guess.j1 k x0 x1 x2 x7 x9 x10 true) else (if 0 ≤ (wrap64 (x7 - 2)) then (if (wrap64 (x7 - 2)) < (x1.length : Int) then (if 0 ≤ (wrap64 ((wrap64 (x2 + x7)) - 2)) then (if (wrap64 ((wrap64 (x2 + x7)) - 2)) < (x0.length : Int) then (nat_guess.j1 k x0 x1 x2 x7 x9 x10 (decide ((IntKind.u64.wrap (x9 * (IntKind.u64.wrap (rd x1 (wrap64 (x7 - 2)))))) > (Go.bits .or .u64 (IntKind.u64.wrap (x10 * 4294967296)) (IntKind.u64.wrap (rd x0 (wrap64 ((wrap64 (x2 + x7)) - 2)))))))) else (none)) else (none)) else (none)) else (none))
def nat_guess.j1 : Nat → List Int → List Int → Int → Int → Int → Int → Bool → Option (Int)
  | 0, _, _, _, _, _, _, _ => none
  | k + 1, x0, x1, x2, x7, x9, x10, x70 => if x70 = true then (if 0 ≤ (wrap64 (x7 - 1)) then (if (wrap64 (x7 - 1)) < (x1.length : Int) then (if ((IntKind.u64.wrap (x10 + (IntKind.u64.wrap (rd x1 (wrap64 (x7 - 1)))))) / 4294967296) > 0 then (some (IntKind.u64.wrap (x9 - 1))) else (nat_guess.l0 k x0 x1 x2 x7 (IntKind.u64.wrap (x9 - 1)) (IntKind.u64.wrap (x10 + (IntKind.u64.wrap (rd x1 (wrap64 (x7 - 1)))))))) else (none)) else (none)) else (some x9)
end
def nat_guess.f (k : Nat) (l0 : List Int) (l1 : List Int) (a2 : Int) : Option (Int) := if 0 ≤ (wrap64 (a2 + (l1.length : Int))) then (if (wrap64 (a2 + (l1.length : Int))) < (l0.length : Int) then (if 0 ≤ (wrap64 ((wrap64 (a2 + (l1.length : Int))) - 1)) then (if (wrap64 ((wrap64 (a2 + (l1.length : Int))) - 1)) < (l0.length : Int) then (if 0 ≤ (wrap64 ((l1.length : Int) - 1)) then (if (wrap64 ((l1.length : Int) - 1)) < (l1.length : Int) then (if (IntKind.u64.wrap (rd l1 (wrap64 ((l1.length : Int) - 1)))) = 0 then (none) else (nat_guess.l0 k l0 l1 a2 (l1.length : Int) (IntKind.u64.wrap (Int.tdiv (Go.bits .or .u64 (IntKind.u64.wrap ((IntKind.u64.wrap (rd l0 (wrap64 (a2 + (l1.length : Int))))) * 4294967296)) (IntKind.u64.wrap (rd l0 (wrap64 ((wrap64 (a2 + (l1.length : Int))) - 1))))) (IntKind.u64.wrap (rd l1 (wrap64 ((l1.length : Int) - 1)))))) (Int.tmod (Go.bits .or .u64 (IntKind.u64.wrap ((IntKind.u64.wrap (rd l0 (wrap64 (a2 + (l1.length : Int))))) * 4294967296)) (IntKind.u64.wrap (rd l0 (wrap64 ((wrap64 (a2 + (l1.length : Int))) - 1))))) (IntKind.u64.wrap (rd l1 (wrap64 ((l1.length : Int) - 1))))))) else (none)) else (none)) else (none)) else (none)) else (none)) else (none)
theorem nat_guess.mono_l : ∀ k, (∀ y0 y1 y2 y3 y4 y5, LeO (nat_guess.l0 k y0 y1 y2 y3 y4 y5) (nat_guess.l0 (k + 1) y0 y1 y2 y3 y4 y5)) ∧ (∀ y0 y1 y2 y3 y4 y5 y6, LeO (nat_guess.j1 k y0 y1 y2 y3 y4 y5 y6) (nat_guess.j1 (k + 1) y0 y1 y2 y3 y4 y5 y6))
  | 0 => ⟨fun _ _ _ _ _ _ r h => by simp [nat_guess.l0] at h, fun _ _ _ _ _ _ _ r h => by simp [nat_guess.j1] at h⟩
  | k + 1 => by
    obtain ⟨ih0, ih1⟩ := nat_guess.mono_l k
    refine ⟨?_, ?_⟩
    · intro y0 y1 y2 y3 y4 y5
      unfold nat_guess.l0
      repeat' first
      | (with_reducible exact ih0 _ _ _ _ _ _)
      | (with_reducible exact ih1 _ _ _ _ _ _ _)
      | (with_reducible exact LeO.refl _)
      | (with_reducible exact LeO.none _)
      | (with_reducible refine LeO.ite ?_ ?_)
      | (with_reducible refine LeO.bind ?_ (fun _ => ?_))
      | exact ih0 _ _ _ _ _ _
      | exact ih1 _ _ _ _ _ _ _
      | exact LeO.none _
      | refine LeO.ite ?_ ?_
      | refine LeO.bind ?_ (fun _ => ?_)
    · intro y0 y1 y2 y3 y4 y5 y6
      unfold nat_guess.j1
      repeat' first
      | (with_reducible exact ih0 _ _ _ _ _ _)
      | (with_reducible exact ih1 _ _ _ _ _ _ _)
      | (with_reducible exact LeO.refl _)
      | (with_reducible exact LeO.none _)
      | (with_reducible refine LeO.ite ?_ ?_)
      | (with_reducible refine LeO.bind ?_ (fun _ => ?_))
      | exact ih0 _ _ _ _ _ _
      | exact ih1 _ _ _ _ _ _ _
      | exact LeO.none _
      | refine LeO.ite ?_ ?_
      | refine LeO.bind ?_ (fun _ => ?_)
theorem nat_guess.mono : ∀ a0 a1 a2 k, LeO (nat_guess.f k a0 a1 a2) (nat_guess.f (k + 1) a0 a1 a2) := by
  intro a0 a1 a2 k
  obtain ⟨ih0, ih1⟩ := nat_guess.mono_l k
  unfold nat_guess.f
  repeat' first
      | (with_reducible exact ih0 _ _ _ _ _ _)
      | (with_reducible exact ih1 _ _ _ _ _ _ _)
      | (with_reducible exact LeO.refl _)
      | (with_reducible exact LeO.none _)
      | (with_reducible refine LeO.ite ?_ ?_)
      | (with_reducible refine LeO.bind ?_ (fun _ => ?_))
      | exact ih0 _ _ _ _ _ _
      | exact ih1 _ _ _ _ _ _ _
      | exact LeO.none _
      | refine LeO.ite ?_ ?_
      | refine LeO.bind ?_ (fun _ => ?_)
set_option maxHeartbeats 8000000 in
set_option maxRecDepth 100000 in
theorem nat_guess.calls (k : Nat) (A0 : Option Addr) (c0 : Nat) (l0 : List Int) (A1 : Option Addr) (c1 : Nat) (l1 : List Int) (a2 : Int) (r : Int) (w : World) (hr0 : Kd.C (Kd.int .u32) w A0 l0.length l0) (hc0 : l0.length ≤ c0) (hr1 : Kd.C (Kd.int .u32) w A1 l1.length l1) (hc1 : l1.length ≤ c1) (h : nat_guess.f k l0 l1 a2 = some r) :
    Calls Tryd.prog 41 #[.slice A0 l0.length c0, .slice A1 l1.length c1, .int .i64 a2] w fun e w' => e = .returned (.int .u64 r) ∧ Drawn0 w w' := by
  have HR0 := Aside0.mk hr0
  have HC0 := Aside0.mk hc0
  clear hr0 hc0
  have HR1 := Aside0.mk hr1
  have HC1 := Aside0.mk hc1
  clear hr1 hc1
  have H : (if 0 ≤ (wrap64 (a2 + (l1.length : Int))) then (if (wrap64 (a2 + (l1.length : Int))) < (l0.length : Int) then (if 0 ≤ (wrap64 ((wrap64 (a2 + (l1.length : Int))) - 1)) then (if (wrap64 ((wrap64 (a2 + (l1.length : Int))) - 1)) < (l0.length : Int) then (if 0 ≤ (wrap64 ((l1.length : Int) - 1)) then (if (wrap64 ((l1.length : Int) - 1)) < (l1.length : Int) then (if (IntKind.u64.wrap (rd l1 (wrap64 ((l1.length : Int) - 1)))) = 0 then (none) else (nat_guess.l0 k l0 l1 a2 (l1.length : Int) (IntKind.u64.wrap (Int.tdiv (Go.bits .or .u64 (IntKind.u64.wrap ((IntKind.u64.wrap (rd l0 (wrap64 (a2 + (l1.length : Int))))) * 4294967296)) (IntKind.u64.wrap (rd l0 (wrap64 ((wrap64 (a2 + (l1.length : Int))) - 1))))) (IntKind.u64.wrap (rd l1 (wrap64 ((l1.length : Int) - 1)))))) (Int.tmod (Go.bits .or .u64 (IntKind.u64.wrap ((IntKind.u64.wrap (rd l0 (wrap64 (a2 + (l1.length : Int))))) * 4294967296)) (IntKind.u64.wrap (rd l0 (wrap64 ((wrap64 (a2 + (l1.length : Int))) - 1))))) (IntKind.u64.wrap (rd l1 (wrap64 ((l1.length : Int) - 1))))))) else (none)) else (none)) else (none)) else (none)) else (none)) else (none)) = some r := h
  clear h
  obtain ⟨ji4, hji4⟩ : ∃ j_ : Int, (wrap64 (a2 + (l1.length : Int))) = j_ := ⟨_, rfl⟩
  replace H : (if 0 ≤ (ji4) then (if (ji4) < (l0.length : Int) then (if 0 ≤ (wrap64 ((ji4) - 1)) then (if (wrap64 ((ji4) - 1)) < (l0.length : Int) then (if 0 ≤ (wrap64 ((l1.length : Int) - 1)) then (if (wrap64 ((l1.length : Int) - 1)) < (l1.length : Int) then (if (IntKind.u64.wrap (rd l1 (wrap64 ((l1.length : Int) - 1)))) = 0 then (none) else (nat_guess.l0 k l0 l1 a2 (l1.length : Int) (IntKind.u64.wrap (Int.tdiv (Go.bits .or .u64 (IntKind.u64.wrap ((IntKind.u64.wrap (rd l0 (ji4))) * 4294967296)) (IntKind.u64.wrap (rd l0 (wrap64 ((ji4) - 1))))) (IntKind.u64.wrap (rd l1 (wrap64 ((l1.length : Int) - 1)))))) (Int.tmod (Go.bits .or .u64 (IntKind.u64.wrap ((IntKind.u64.wrap (rd l0 (ji4))) * 4294967296)) (IntKind.u64.wrap (rd l0 (wrap64 ((ji4) - 1))))) (IntKind.u64.wrap (rd l1 (wrap64 ((l1.length : Int) - 1))))))) else (none)) else (none)) else (none)) else (none)) else (none)) else (none)) = some r := by first | (rw [hji4] at H; exact H) | (simp only [hji4] at H ⊢; exact H)
  have hji4w : (IntKind.i64.wrap (a2 + (l1.length : Int))) = ji4 := (i64_w _).trans hji4
  by_cases c5 : 0 ≤ (ji4)
  · rw [if_pos c5] at H
    have c5b0 : decide (0 ≤ (ji4)) = true := decide_eq_true c5
    clear c5
    by_cases c6 : (ji4) < (l0.length : Int)
    · rw [if_pos c6] at H
      have c6b0 : decide ((ji4) < (l0.length : Int)) = true := decide_eq_true c6
      clear c6
      obtain ⟨ji7, hji7⟩ : ∃ j_ : Int, (wrap64 ((ji4) - 1)) = j_ := ⟨_, rfl⟩
      replace H : (if 0 ≤ (ji7) then (if (ji7) < (l0.length : Int) then (if 0 ≤ (wrap64 ((l1.length : Int) - 1)) then (if (wrap64 ((l1.length : Int) - 1)) < (l1.length : Int) then (if (IntKind.u64.wrap (rd l1 (wrap64 ((l1.length : Int) - 1)))) = 0 then (none) else (nat_guess.l0 k l0 l1 a2 (l1.length : Int) (IntKind.u64.wrap (Int.tdiv (Go.bits .or .u64 (IntKind.u64.wrap ((IntKind.u64.wrap (rd l0 (ji4))) * 4294967296)) (IntKind.u64.wrap (rd l0 (ji7)))) (IntKind.u64.wrap (rd l1 (wrap64 ((l1.length : Int) - 1)))))) (Int.tmod (Go.bits .or .u64 (IntKind.u64.wrap ((IntKind.u64.wrap (rd l0 (ji4))) * 4294967296)) (IntKind.u64.wrap (rd l0 (ji7)))) (IntKind.u64.wrap (rd l1 (wrap64 ((l1.length : Int) - 1))))))) else (none)) else (none)) else (none)) else (none)) = some r := by first | (rw [hji7] at H; exact H) | (simp only [hji7] at H ⊢; exact H)
      have hji7w : (IntKind.i64.wrap ((ji4) - 1)) = ji7 := (i64_w _).trans hji7
      by_cases c8 : 0 ≤ (ji7)
      · rw [if_pos c8] at H
        have c8b0 : decide (0 ≤ (ji7)) = true := decide_eq_true c8
        clear c8
        by_cases c9 : (ji7) < (l0.length : Int)
        · rw [if_pos c9] at H
          have c9b0 : decide ((ji7) < (l0.length : Int)) = true := decide_eq_true c9
          clear c9
          obtain ⟨ji10, hji10⟩ : ∃ j_ : Int, (wrap64 ((l1.length : Int) - 1)) = j_ := ⟨_, rfl⟩
          replace H : (if 0 ≤ (ji10) then (if (ji10) < (l1.length : Int) then (if (IntKind.u64.wrap (rd l1 (ji10))) = 0 then (none) else (nat_guess.l0 k l0 l1 a2 (l1.length : Int) (IntKind.u64.wrap (Int.tdiv (Go.bits .or .u64 (IntKind.u64.wrap ((IntKind.u64.wrap (rd l0 (ji4))) * 4294967296)) (IntKind.u64.wrap (rd l0 (ji7)))) (IntKind.u64.wrap (rd l1 (ji10))))) (Int.tmod (Go.bits .or .u64 (IntKind.u64.wrap ((IntKind.u64.wrap (rd l0 (ji4))) * 4294967296)) (IntKind.u64.wrap (rd l0 (ji7)))) (IntKind.u64.wrap (rd l1 (ji10)))))) else (none)) else (none)) = some r := by first | (rw [hji10] at H; exact H) | (simp only [hji10] at H ⊢; exact H)
          have hji10w : (IntKind.i64.wrap ((l1.length : Int) - 1)) = ji10 := (i64_w _).trans hji10
          by_cases c11 : 0 ≤ (ji10)
          · rw [if_pos c11] at H
            have c11b0 : decide (0 ≤ (ji10)) = true := decide_eq_true c11
            clear c11
            by_cases c12 : (ji10) < (l1.length : Int)
            · rw [if_pos c12] at H
              have c12b0 : decide ((ji10) < (l1.length : Int)) = true := decide_eq_true c12
              clear c12
              by_cases c13 : (IntKind.u64.wrap (rd l1 (ji10))) = 0
              · rw [if_pos c13] at H
                exact absurd H (by simp)
              · rw [if_neg c13] at H
                have c13b0 : ((IntKind.u64.wrap (rd l1 (ji10))) == 0) = false := beq_eq_false_iff_ne.mpr c13
                have c13b1 : ((IntKind.u64.wrap (rd l1 (ji10))) != 0) = true := bne_iff_ne.mpr c13
                have H' := Aside0.mk H
                clear H
                have p224 : 0 ≤ ((ji4) : Int) := of_decide_eq_true (by first | (with_reducible assumption) | assumption)
                have q224 : (ji4) < (l0.length : Int) := of_decide_eq_true (by first | (with_reducible assumption) | assumption)
                obtain ⟨ad224, e224, hx224_0⟩ := Kd.at_int HR0.out (ji4) p224 q224
                cases e224
                replace p224 := eq_true p224
                replace q224 := eq_true q224
                have p225 : 0 ≤ ((ji7) : Int) := of_decide_eq_true (by first | (with_reducible assumption) | assumption)
                have q225 : (ji7) < (l0.length : Int) := of_decide_eq_true (by first | (with_reducible assumption) | assumption)
                obtain ⟨ad225, e225, hx225_0⟩ := Kd.at_int HR0.out (ji7) p225 q225
                obtain rfl : ad224 = ad225 := (by injection e225)
                replace p225 := eq_true p225
                replace q225 := eq_true q225
                have p226 : 0 ≤ ((ji10) : Int) := of_decide_eq_true (by first | (with_reducible assumption) | assumption)
                have q226 : (ji10) < (l1.length : Int) := of_decide_eq_true (by first | (with_reducible assumption) | assumption)
                obtain ⟨ad226, e226, hx226_0⟩ := Kd.at_int HR1.out (ji10) p226 q226
                cases e226
                replace p226 := eq_true p226
                replace q226 := eq_true q226
                have p227 : 0 ≤ ((ji10) : Int) := of_decide_eq_true (by first | (with_reducible assumption) | assumption)
                have q227 : (ji10) < (l1.length : Int) := of_decide_eq_true (by first | (with_reducible assumption) | assumption)
                obtain ⟨ad227, e227, hx227_0⟩ := Kd.at_int HR1.out (ji10) p227 q227
                obtain rfl : ad226 = ad227 := (by injection e227)
                replace p227 := eq_true p227
                replace q227 := eq_true q227
                go_enter Tryd.func41, Tryd.ntmps41
                go_wp2
                repeat (go_quiet (fail); try go_wp2)
                (try simp only [Act.put, List.setIfInBounds_toArray, List.set_cons_zero, List.set_cons_succ])
                go_loopg [9, 10] k (fun kq v9 v10 w' => ∃ (x9_1 : Int) (x10_1 : Int), v9 = .int .u64 x9_1 ∧ v10 = .int .u64 x10_1 ∧ Aside0 (nat_guess.l0 kq l0 l1 a2 (l1.length : Int) x9_1 x10_1 = some r) ∧ Aside0 (kq ≤ k) ∧ Drawn0 w w')
                case atStart => exact ⟨(IntKind.u64.wrap (Int.tdiv (Go.bits .or .u64 (IntKind.u64.wrap ((IntKind.u64.wrap (rd l0 (ji4))) * 4294967296)) (IntKind.u64.wrap (rd l0 (ji7)))) (IntKind.u64.wrap (rd l1 (ji10))))), (Int.tmod (Go.bits .or .u64 (IntKind.u64.wrap ((IntKind.u64.wrap (rd l0 (ji4))) * 4294967296)) (IntKind.u64.wrap (rd l0 (ji7)))) (IntKind.u64.wrap (rd l1 (ji10)))), (by first | rfl | (simp; done) | (simp only [← hji4, ← hji7, ← hji10] <;> (first | rfl | simp)) | (simp [*]; done)), (by first | rfl | (simp; done) | (simp only [← hji4, ← hji7, ← hji10] <;> (first | rfl | simp)) | (simp [*]; done)), H', ⟨Nat.le_refl _⟩, by repeat (first | exact Drawn0.refl _ | apply Drawn0.step)⟩
                case round =>
                  clear H'
                  try clear c1
                  try clear p2
                  try clear q2
                  try clear hx2
                  try clear c4
                  try clear c5
                  try clear c5b0
                  try clear c6
                  try clear c6b0
                  try clear p6
                  try clear c8
                  try clear c8b0
                  try clear c9
                  try clear c9b0
                  try clear c11
                  try clear c11b0
                  try clear c12
                  try clear c12b0
                  try clear c13
                  try clear c13b0
                  try clear c13b1
                  try clear hx224_0
                  try clear hx225_0
                  try clear hx226_0
                  try clear hx227_0
                  try clear p224
                  try clear p225
                  try clear p226
                  try clear p227
                  try clear q224
                  try clear q225
                  try clear q226
                  try clear q227
                  obtain ⟨x9_1, x10_1, rfl, rfl, HA, HK1, ⟨m1, rfl⟩⟩ := hrel
                  cases gk with
                  | zero => exact absurd HA.out (by simp [nat_guess.l0])
                  | succ k1 =>
                    have H := HA.out
                    clear HA
                    simp only [nat_guess.l0] at H
                    have HC14 := Aside0.mk H
                    clear H
                    go_upto_region 4 with (fail)
                    repeat (go_quiet (fail); go_upto_region 4 with (fail))
                    go_cut [70] (fun v70 wc => ∃ (kq : Nat) (x70_13 : Bool), v70 = .bool x70_13 ∧ Aside0 (nat_guess.j1 kq l0 l1 a2 (l1.length : Int) x9_1 x10_1 x70_13 = some r) ∧ Aside0 (kq ≤ k1) ∧ Drawn0 w wc)
                    case first =>
                      have H := HC14.out
                      clear HC14
                      by_cases c15 : (x9_1 / 4294967296) > 0
                      · rw [if_pos c15] at H
                        have c15b0 : decide (0 < (x9_1 / 4294967296)) = true := decide_eq_true c15
                        clear c15
                        (first | rw [c15b0] | (simp only [i64_w, i32_w]; rw [c15b0]) | skip)
                        have H' := Aside0.mk H
                        clear H
                        go_wp2
                        repeat (go_quiet (fail); try go_wp2)
                        go_meet
                        case rel => exact ⟨_, (true), (by first | rfl | (simp; done) | (simp [*]; done)), H', ⟨by have := HK1.out; first | omega | exact Nat.le_refl _⟩, by repeat (first | exact Drawn0.refl _ | apply Drawn0.step)⟩
                      · rw [if_neg c15] at H
                        have c15b0 : decide (0 < (x9_1 / 4294967296)) = false := decide_eq_false c15
                        clear c15
                        (first | rw [c15b0] | (simp only [i64_w, i32_w]; rw [c15b0]) | skip)
                        obtain ⟨ji16, hji16⟩ : ∃ j_ : Int, (wrap64 ((l1.length : Int) - 2)) = j_ := ⟨_, rfl⟩
                        replace H : (if 0 ≤ (ji16) then (if (ji16) < (l1.length : Int) then (if 0 ≤ (wrap64 ((wrap64 (a2 + (l1.length : Int))) - 2)) then (if (wrap64 ((wrap64 (a2 + (l1.length : Int))) - 2)) < (l0.length : Int) then (nat_guess.j1 k1 l0 l1 a2 (l1.length : Int) x9_1 x10_1 (decide ((IntKind.u64.wrap (x9_1 * (IntKind.u64.wrap (rd l1 (ji16))))) > (Go.bits .or .u64 (IntKind.u64.wrap (x10_1 * 4294967296)) (IntKind.u64.wrap (rd l0 (wrap64 ((wrap64 (a2 + (l1.length : Int))) - 2)))))))) else (none)) else (none)) else (none)) else (none)) = some r := by first | (rw [hji16] at H; exact H) | (simp only [hji16] at H ⊢; exact H)
                        have hji16w : (IntKind.i64.wrap ((l1.length : Int) - 2)) = ji16 := (i64_w _).trans hji16
                        by_cases c17 : 0 ≤ (ji16)
                        · rw [if_pos c17] at H
                          have c17b0 : decide (0 ≤ (ji16)) = true := decide_eq_true c17
                          clear c17
                          by_cases c18 : (ji16) < (l1.length : Int)
                          · rw [if_pos c18] at H
                            have c18b0 : decide ((ji16) < (l1.length : Int)) = true := decide_eq_true c18
                            clear c18
                            obtain ⟨ji19, hji19⟩ : ∃ j_ : Int, (wrap64 ((wrap64 (a2 + (l1.length : Int))) - 2)) = j_ := ⟨_, rfl⟩
                            replace H : (if 0 ≤ (ji19) then (if (ji19) < (l0.length : Int) then (nat_guess.j1 k1 l0 l1 a2 (l1.length : Int) x9_1 x10_1 (decide ((IntKind.u64.wrap (x9_1 * (IntKind.u64.wrap (rd l1 (ji16))))) > (Go.bits .or .u64 (IntKind.u64.wrap (x10_1 * 4294967296)) (IntKind.u64.wrap (rd l0 (ji19))))))) else (none)) else (none)) = some r := by first | (rw [hji19] at H; exact H) | (simp only [hji19] at H ⊢; exact H)
                            have hji19w : (IntKind.i64.wrap ((wrap64 (a2 + (l1.length : Int))) - 2)) = ji19 := (i64_w _).trans hji19
                            (try (have hrji4ji19 := hji19w; rw [hji4] at hrji4ji19))
                            (try (have hsji4ji19 := hji19; rw [hji4] at hsji4ji19))
                            by_cases c20 : 0 ≤ (ji19)
                            · rw [if_pos c20] at H
                              have c20b0 : decide (0 ≤ (ji19)) = true := decide_eq_true c20
                              clear c20
                              by_cases c21 : (ji19) < (l0.length : Int)
                              · rw [if_pos c21] at H
                                have c21b0 : decide ((ji19) < (l0.length : Int)) = true := decide_eq_true c21
                                clear c21
                                have H' := Aside0.mk H
                                clear H
                                have p228 : 0 ≤ ((ji16) : Int) := of_decide_eq_true (by first | (with_reducible assumption) | assumption)
                                have q228 : (ji16) < (l1.length : Int) := of_decide_eq_true (by first | (with_reducible assumption) | assumption)
                                obtain ⟨ad228, e228, hx228_0⟩ := Kd.at_int HR1.out (ji16) p228 q228
                                obtain rfl : ad226 = ad228 := (by injection e228)
                                replace p228 := eq_true p228
                                replace q228 := eq_true q228
                                have p229 : 0 ≤ ((ji19) : Int) := of_decide_eq_true (by first | (with_reducible assumption) | assumption)
                                have q229 : (ji19) < (l0.length : Int) := of_decide_eq_true (by first | (with_reducible assumption) | assumption)
                                obtain ⟨ad229, e229, hx229_0⟩ := Kd.at_int HR0.out (ji19) p229 q229
                                obtain rfl : ad224 = ad229 := (by injection e229)
                                replace p229 := eq_true p229
                                replace q229 := eq_true q229
                                go_wp2
                                repeat (go_quiet (fail); try go_wp2)
                                go_meet
                                case rel => exact ⟨_, (decide ((IntKind.u64.wrap (x9_1 * (IntKind.u64.wrap (rd l1 (ji16))))) > (Go.bits .or .u64 (IntKind.u64.wrap (x10_1 * 4294967296)) (IntKind.u64.wrap (rd l0 (ji19)))))), (by first | rfl | (simp; done) | (simp only [← hji16, ← hji19] <;> (first | rfl | simp)) | (simp [*]; done)), H', ⟨by have := HK1.out; first | omega | exact Nat.le_refl _⟩, by repeat (first | exact Drawn0.refl _ | apply Drawn0.step)⟩
                              · rw [if_neg c21] at H
                                exact absurd H (by simp)
                            · rw [if_neg c20] at H
                              exact absurd H (by simp)
                          · rw [if_neg c18] at H
                            exact absurd H (by simp)
                        · rw [if_neg c17] at H
                          exact absurd H (by simp)
                    case rest =>
                      clear HC14
                      try clear c1
                      try clear c2
                      try clear p2
                      try clear q2
                      try clear hx2
                      try clear c4
                      try clear c5
                      try clear c5b0
                      try clear c6
                      try clear c6b0
                      try clear p6
                      try clear c8
                      try clear c8b0
                      try clear c9
                      try clear c9b0
                      try clear c11
                      try clear c11b0
                      try clear c12
                      try clear c12b0
                      try clear c13
                      try clear c13b0
                      try clear c13b1
                      try clear c15
                      try clear c15b0
                      try clear c17
                      try clear c17b0
                      try clear c18
                      try clear c18b0
                      try clear c20
                      try clear c20b0
                      try clear c21
                      try clear c21b0
                      try clear hx224_0
                      try clear hx225_0
                      try clear hx226_0
                      try clear hx227_0
                      try clear hx228_0
                      try clear hx229_0
                      try clear p2
                      try clear p224
                      try clear p225
                      try clear p226
                      try clear p227
                      try clear p228
                      try clear p229
                      try clear p6
                      try clear q2
                      try clear q224
                      try clear q225
                      try clear q226
                      try clear q227
                      try clear q228
                      try clear q229
                      obtain ⟨kq, x70_13, rfl, HA, HJ13, ⟨mc13, rfl⟩⟩ := hcut
                      cases kq with
                      | zero => exact absurd HA.out (by simp [nat_guess.j1])
                      | succ kj13 =>
                        have H := HA.out
                        clear HA
                        simp only [nat_guess.j1] at H
                        by_cases c22 : x70_13 = true
                        · subst c22
                          have H1 : (if 0 ≤ (wrap64 ((l1.length : Int) - 1)) then (if (wrap64 ((l1.length : Int) - 1)) < (l1.length : Int) then (if ((IntKind.u64.wrap (x10_1 + (IntKind.u64.wrap (rd l1 (wrap64 ((l1.length : Int) - 1)))))) / 4294967296) > 0 then (some (IntKind.u64.wrap (x9_1 - 1))) else (nat_guess.l0 kj13 l0 l1 a2 (l1.length : Int) (IntKind.u64.wrap (x9_1 - 1)) (IntKind.u64.wrap (x10_1 + (IntKind.u64.wrap (rd l1 (wrap64 ((l1.length : Int) - 1)))))))) else (none)) else (none)) = some r := by rw [if_pos rfl] at H; exact H
                          clear H
                          have H := H1
                          clear H1
                          obtain ⟨ji23, hji23⟩ : ∃ j_ : Int, (wrap64 ((l1.length : Int) - 1)) = j_ := ⟨_, rfl⟩
                          (try (have hqji10ji23 : ji10 = ji23 := hji10.symm.trans hji23))
                          replace H : (if 0 ≤ (ji23) then (if (ji23) < (l1.length : Int) then (if ((IntKind.u64.wrap (x10_1 + (IntKind.u64.wrap (rd l1 (ji23))))) / 4294967296) > 0 then (some (IntKind.u64.wrap (x9_1 - 1))) else (nat_guess.l0 kj13 l0 l1 a2 (l1.length : Int) (IntKind.u64.wrap (x9_1 - 1)) (IntKind.u64.wrap (x10_1 + (IntKind.u64.wrap (rd l1 (ji23))))))) else (none)) else (none)) = some r := by first | (rw [hji23] at H; exact H) | (simp only [hji23] at H ⊢; exact H)
                          have hji23w : (IntKind.i64.wrap ((l1.length : Int) - 1)) = ji23 := (i64_w _).trans hji23
                          by_cases c24 : 0 ≤ (ji23)
                          · rw [if_pos c24] at H
                            have c24b0 : decide (0 ≤ (ji23)) = true := decide_eq_true c24
                            clear c24
                            by_cases c25 : (ji23) < (l1.length : Int)
                            · rw [if_pos c25] at H
                              have c25b0 : decide ((ji23) < (l1.length : Int)) = true := decide_eq_true c25
                              clear c25
                              by_cases c26 : ((IntKind.u64.wrap (x10_1 + (IntKind.u64.wrap (rd l1 (ji23))))) / 4294967296) > 0
                              · rw [if_pos c26] at H
                                have c26b0 : decide (0 < ((IntKind.u64.wrap (x10_1 + (IntKind.u64.wrap (rd l1 (ji23))))) / 4294967296)) = true := decide_eq_true c26
                                clear c26
                                obtain rfl := Option.some.inj H
                                have p230 : 0 ≤ ((ji23) : Int) := of_decide_eq_true (by first | (with_reducible assumption) | assumption)
                                have q230 : (ji23) < (l1.length : Int) := of_decide_eq_true (by first | (with_reducible assumption) | assumption)
                                obtain ⟨ad230, e230, hx230_0⟩ := Kd.at_int HR1.out (ji23) p230 q230
                                obtain rfl : ad226 = ad230 := (by injection e230)
                                replace p230 := eq_true p230
                                replace q230 := eq_true q230
                                go_wp2
                                repeat (go_quiet (fail); try go_wp2)
                                go_ret
                                exact ⟨by first | rfl | (simp; done) | (simp only [← hji4, ← hji7, ← hji10, ← hji23] <;> (first | rfl | simp)) | (simp [*]; done), by repeat (first | exact Drawn0.refl _ | apply Drawn0.step)⟩
                              · rw [if_neg c26] at H
                                have c26b0 : decide (0 < ((IntKind.u64.wrap (x10_1 + (IntKind.u64.wrap (rd l1 (ji23))))) / 4294967296)) = false := decide_eq_false c26
                                clear c26
                                have H' := Aside0.mk H
                                clear H
                                have p230 : 0 ≤ ((ji23) : Int) := of_decide_eq_true (by first | (with_reducible assumption) | assumption)
                                have q230 : (ji23) < (l1.length : Int) := of_decide_eq_true (by first | (with_reducible assumption) | assumption)
                                obtain ⟨ad230, e230, hx230_0⟩ := Kd.at_int HR1.out (ji23) p230 q230
                                obtain rfl : ad226 = ad230 := (by injection e230)
                                replace p230 := eq_true p230
                                replace q230 := eq_true q230
                                go_wp2
                                repeat (go_quiet (fail); try go_wp2)
                                (try simp only [← hqji10ji23])
                                go_roundg kj13
                                case measure => have := HK1.out; have := HJ13.out; omega
                                case rel => exact ⟨(IntKind.u64.wrap (x9_1 - 1)), (IntKind.u64.wrap (x10_1 + (IntKind.u64.wrap (rd l1 (ji23))))), (by first | rfl | (simp only [hqji10ji23]; done) | (simp; done) | (simp [*]; done)), (by first | rfl | (simp only [hqji10ji23]; done) | (simp; done) | (simp only [← hji23] <;> (first | rfl | simp)) | (simp [*]; done)), H', ⟨by have := HK1.out; have := HJ13.out; omega⟩, by repeat (first | exact Drawn0.refl _ | apply Drawn0.step)⟩
                            · rw [if_neg c25] at H
                              exact absurd H (by simp)
                          · rw [if_neg c24] at H
                            exact absurd H (by simp)
                        · replace c22 := Bool.eq_false_iff.mpr c22
                          subst c22
                          have H1 : (some x9_1) = some r := by rw [if_neg (show ¬ (false = true) by decide)] at H; exact H
                          clear H
                          have H := H1
                          clear H1
                          obtain rfl := Option.some.inj H
                          go_wp2
                          repeat (go_quiet (fail); try go_wp2)
                          go_ret
                          exact ⟨by first | rfl | (simp; done) | (simp only [← hji4, ← hji7, ← hji10] <;> (first | rfl | simp)) | (simp [*]; done), by repeat (first | exact Drawn0.refl _ | apply Drawn0.step)⟩
            · rw [if_neg c12] at H
              exact absurd H (by simp)
          · rw [if_neg c11] at H
            exact absurd H (by simp)
        · rw [if_neg c9] at H
          exact absurd H (by simp)
      · rw [if_neg c8] at H
        exact absurd H (by simp)
    · rw [if_neg c6] at H
      exact absurd H (by simp)
  · rw [if_neg c5] at H
    exact absurd H (by simp)
end Go.Proofs.YtmjkhbjfacfmcaaDoor.PA
end
