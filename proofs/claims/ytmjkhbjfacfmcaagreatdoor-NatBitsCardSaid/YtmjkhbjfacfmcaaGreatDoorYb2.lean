/- Of, Uint64, Bits and IsZero return the specified results for all numbers of 64 bits, and for numbers of up to 12 digits of 32 bits. This is part 2 of the proof: texts joined in order (VF VG VH VI VJ VK VL VM VQ NatM). Conditions: each theorem's own. -/
import Derived.Test.YtmjkhbjfacfmcaaGreatDoorYb1
import Derived.LaidEqlPtr
import Derived.Laws.BytesString
import Derived.Lib.UnsafeStr
import Derived.RowKit3
import Derived.PlainAid
section
namespace Go.Proofs.YtmjkhbjfacfmcaaGreatDoor.VX
open Go Go.RowKit
set_option linter.unusedVariables false
set_option linter.unusedSimpArgs false
section
variable {X : Ctx} {R : Run X} {φ : Nat → Option Pl} {S : St} {w : World} {a : Act}
theorem upd_env (A : At R φ S a.tmps w) {heap' : Heap} {w' : World} {r : E} {u : Value} (n : Next R.w0 R.mine R.ok0 φ S.heap w heap' w' (fun e => e) r u) :
    ∃ φ', At R φ' ⟨S.env, heap'⟩ a.tmps w' ∧ RepE w' (okOf R.w0 R.ok0 φ' heap' w') φ' (lnOf heap') r u := A.next n
theorem lenOne {α β : Type} {f : α → β} {l : List α} {x : α} (h : l = [x]) : l.map f = [f x] := by rw [h]; rfl
theorem notInt_spec {P : Program} {t : TypeId} (h : notInt P (some t) = true) : ∃ d, P.underlying t = some d ∧ ∀ k, d ≠ .int k := by
  simp only [notInt] at h
  split at h
  · cases h
  · rename_i d hd hne
    exact ⟨d, hne, fun k he => hd k he⟩
  · cases h
theorem At.grew {tm : Array Value} (A : At R φ S tm w) {w' : World} (hold : ∀ b, b < w.heap.size → w'.heap[b]? = w.heap[b]?) (hs : w.heap.size ≤ w'.heap.size) (ho : w'.os = w.os) (ht : w'.tape = w.tape) (hu : w'.output = w.output) : At R φ S tm w' := by
  have hok : ∀ b, okOf R.w0 R.ok0 φ S.heap w b → okOf R.w0 R.ok0 φ S.heap w' b ∧ w'.heap[b]? = w.heap[b]? := fun b hb => ⟨⟨hb.1, Nat.lt_of_lt_of_le hb.2.1 hs, hb.2.2⟩, hold b hb.2.1⟩
  refine ⟨⟨fun id b hb => ?_, A.h.inj, fun id pl h1 h2 => ?_, fun b hb hm => ?_, ho.trans A.h.os, ht.trans A.h.tape, hu.trans A.h.output, Nat.le_trans A.h.size hs, A.h.ok0⟩, fun t => (A.env t).mono' hok fun id L hl => ⟨hl, rfl⟩, A.size, A.pin⟩
  · exact (A.h.blk id b hb).mono hok (fun id L hl => ⟨hl, rfl⟩) rfl fun pl hpl => hold _ (A.h.own id pl (by rw [hb]; rfl) hpl).1
  · obtain ⟨g1, g2⟩ := A.h.own id pl h1 h2
    exact ⟨Nat.lt_of_lt_of_le g1 hs, g2⟩
  · rw [← A.h.old b hb hm]
    exact hold b (Nat.lt_of_lt_of_le hb A.h.size)
theorem flatL_get : ∀ {l : List V}, flatL l = true → ∀ (i : Nat) x, l[i]? = some x → x.flat = true
  | [], _, i, x, h => by simp at h
  | y :: l, h, i, x, hx => by
    rw [flatL, Bool.and_eq_true] at h
    cases i with
    | zero =>
      obtain rfl : y = x := by simpa using hx
      exact h.1
    | succ i => exact flatL_get h.2 i x (by simpa using hx)
theorem flat_rep {w w' : World} {ok ok' : Nat → Prop} {x : V} {u : Value} (hf : x.flat = true) (h : RepV w ok x u) : RepV w' ok' x u := by
  induction h with
  | sc v => exact .sc v
  | st cs us h0 h1 _ ih => exact .st cs us h0 h1 fun i x u hx hu => ih i x u hx hu (flatL_get hf i x hx)
  | tu cs us h0 _ ih => exact .tu cs us h0 fun i x u hx hu => ih i x u hx hu (flatL_get hf i x hx)
  | sn sz => exact .sn sz
  | sl sz l a n c h0 h1 h2 h3 ha u hc _ ih =>
    obtain rfl : l = [] := by simpa [V.flat] using hf
    simp at h0
    subst h0
    exact .sl sz [] a 0 c rfl h1 h2 (by simp) (fun h => absurd h (by omega)) (fun _ _ => undef) (by simp) (by simp)
  | pt cs a ha u hc _ ih => simp [V.flat] at hf
  | cl fn a b us vs h0 h1 _ _ ih ik => simp [V.flat] at hf
  | ni t u => exact .ni t u
theorem pur_rep {w0 w : World} {mine ok0 : Nat → Prop} {φ : Nat → Option Pl} {heap : Heap} (H : HRep w0 mine ok0 φ heap w) {e : E} {x : V} {u : Value} (hp : purE heap e = some x) (h : RepE w (okOf w0 ok0 φ heap w) φ (lnOf heap) e u) :
    RepV w (fun b => b < w.heap.size) x u := by
  unfold purE at hp
  split at hp
  · cases hp
    cases h with | v _ _ h => exact h.mono fun b hb => ⟨hb.2.1, rfl⟩
  · rename_i id lo n
    split at hp
    · rename_i e0 sz l hid
      cases hp
      have h0 := (H.blk id _ hid).1
      obtain ⟨A, m, c, cells, rfl, g1, g2, g3, C⟩ := cont_spec H.blk h (sz := sz) (l := (l.drop lo).take n) (by unfold contE; simp only [hid]) h0
      cases A with
      | none =>
        have hm := g3 rfl
        have : (l.drop lo).take n = [] := List.eq_nil_of_length_eq_zero (by rw [C.len, hm])
        rw [this]
        cases h with
        | osn => exact .sn sz
      | some a =>
        have hcap : c ≤ maxLen := by
          cases h with
          | os _ _ _ _ _ pl L hl hp' h1 h2 h3 ha =>
            obtain ⟨_, g | ⟨pl', cur, q1, q2, q3, q4, _⟩⟩ := H.blk id _ hid
            · rw [g.1] at hp'; cases hp'
            · rw [hp'] at q1; cases q1; omega
        have hcell : ∀ (j f : Nat) r x, ((l.drop lo).take n)[j]? = some r → r[f]? = some x → ∃ u, w.cell? (a.add (j * sz + f)) = some u ∧ u.oneCell' = true ∧ RepV w (okOf w0 ok0 φ heap w) x u := fun j f r x hj hf => by
          obtain ⟨u, hu, hr⟩ := C.rep j f r x hj hf
          obtain ⟨b, hb, hcc⟩ := C.at_ _ u hu
          cases hb
          exact ⟨u, hcc, C.one u (List.mem_of_getElem? hu), hr⟩
        refine .sl sz _ a m c C.len g1 hcap C.row (fun hm => ?_) (fun j f => (w.cell? (a.add (j * sz + f))).getD undef) (fun j f r x hj hf => ?_) fun j f r x hj hf => ?_
        · have h1 : 0 < ((l.drop lo).take n).length := by rw [C.len]; exact hm
          have hr := C.row _ (List.getElem_mem h1)
          obtain ⟨u, hu, _⟩ := hcell 0 0 _ _ (List.getElem?_eq_getElem h1) (List.getElem?_eq_getElem (by omega))
          have := block_lt_of_cell hu
          rwa [add_block] at this
        · obtain ⟨u, hu, ho, _⟩ := hcell j f r x hj hf
          rw [hu]; exact ⟨rfl, ho⟩
        · obtain ⟨u, hu, _, hv⟩ := hcell j f r x hj hf
          rw [hu]; exact hv.mono fun b hb => ⟨hb.2.1, rfl⟩
    · cases hp
  · cases hp
theorem purL_rep {w0 w : World} {mine ok0 : Nat → Prop} {φ : Nat → Option Pl} {heap : Heap} (H : HRep w0 mine ok0 φ heap w) : ∀ {es : List E} {xs : List V} {us : List Value}, purL heap es = some xs → RepAs w (okOf w0 ok0 φ heap w) φ (lnOf heap) es us →
    us.length = xs.length ∧ ∀ (i : Nat) x u, xs[i]? = some x → us[i]? = some u → RepV w (fun b => b < w.heap.size) x u
  | [], xs, us, h, A => by
    simp [purL] at h
    subst h
    exact ⟨by simpa using A.1, by simp⟩
  | e :: es, xs, [], h, A => absurd A.1 (by simp)
  | e :: es, xs, u :: us, h, A => by
    unfold purL at h
    split at h
    · rename_i x xs' hx hxs
      cases h
      obtain ⟨h1, h2⟩ := purL_rep H hxs (us := us) ⟨by simpa using A.1, fun i x u hx hu => A.2 (i + 1) x u (by simpa using hx) (by simpa using hu)⟩
      refine ⟨by simp [h1], fun i y v hy hv => ?_⟩
      cases i with
      | zero =>
        obtain rfl : x = y := by simpa using hy
        obtain rfl : u = v := by simpa using hv
        exact pur_rep H hx (A.2 0 e u rfl rfl)
      | succ i => exact h2 i y v (by simpa using hy) (by simpa using hv)
    · cases h
theorem callp_call {f : Nat} {es : List E} {K : E → Prop} (h : evCallp X f es K) : evCall X f es S fun r S' => K r ∧ S' = S := by
  intro R φ tm w vals A hargs
  obtain ⟨xs, r, e1, hfn, hK⟩ := h
  rw [e1] at hargs
  obtain ⟨gw, ng⟩ := A.gw
  have hnoH : ∀ b, okOf w (okOf R.w0 R.ok0 φ S.heap w) φ noH w b ↔ okOf R.w0 R.ok0 φ S.heap w b := fun b => by
    constructor
    · rintro ⟨h1 | h1, h2, _⟩
      · exact h1
      · omega
    · intro h; exact ⟨.inl h, h.2.1, fun id pl hs => by cases hs⟩
  have hM : ∀ b, ¬ Mine noH φ b := fun b ⟨id, pl, h1, _⟩ => by cases h1
  have hH : HRep w (Mine noH φ) (okOf R.w0 R.ok0 φ S.heap w) φ noH w :=
    ⟨fun id b hb => (by cases hb), fun id id' pl pl' h1 => (by cases h1), fun id pl h1 => (by cases h1), fun b hb _ => rfl, rfl, rfl, rfl, Nat.le_refl _, fun b hb => ⟨hb.2.1, hM b⟩⟩
  have hRA : RepAs w (okOf w (okOf R.w0 R.ok0 φ S.heap w) φ noH w) φ (lnOf noH) (xs.map .v) (vals) := by
    refine ⟨hargs.1, fun i x u hx hu => ?_⟩
    have h3 := hargs.2 i x u hx hu
    rw [List.getElem?_map, Option.map_eq_some_iff] at hx
    obtain ⟨y, hy, rfl⟩ := hx
    cases h3 with | v _ _ h3 => exact .v _ _ (h3.mono fun b hb => ⟨(hnoH b).2 hb, rfl⟩)
  refine (hfn w (okOf R.w0 R.ok0 φ S.heap w) φ (vals) gw ng hH (fun b hb => absurd hb (hM b)) (fun id h => by cases h) hRA).mono ?_
  rintro e w' ⟨v, H1, r', φ', rfl, ⟨rfl, rfl⟩, hH', hr, _⟩
  have hold : ∀ b, b < w.heap.size → w'.heap[b]? = w.heap[b]? := fun b hb => hH'.old b hb (hM b)
  have hok : ∀ b, okOf R.w0 R.ok0 φ S.heap w b → okOf R.w0 R.ok0 φ S.heap w' b ∧ w'.heap[b]? = w.heap[b]? := fun b hb => ⟨⟨hb.1, Nat.lt_of_lt_of_le hb.2.1 hH'.size, hb.2.2⟩, hold b hb.2.1⟩
  have A' : At R φ S tm w' := by
    refine ⟨⟨fun id b hb => ?_, A.h.inj, fun id pl h1 h2 => ?_, fun b hb hm => ?_, hH'.os.trans A.h.os, hH'.tape.trans A.h.tape, hH'.output.trans A.h.output, Nat.le_trans A.h.size hH'.size, A.h.ok0⟩, fun t => (A.env t).mono' hok fun id L hl => ⟨hl, rfl⟩, A.size, A.pin⟩
    · exact (A.h.blk id b hb).mono hok (fun id L hl => ⟨hl, rfl⟩) rfl fun pl hpl => hold _ (A.h.own id pl (by rw [hb]; rfl) hpl).1
    · obtain ⟨g1, g2⟩ := A.h.own id pl h1 h2
      exact ⟨Nat.lt_of_lt_of_le g1 hH'.size, g2⟩
    · rw [← A.h.old b hb hm]
      exact hold b (Nat.lt_of_lt_of_le hb A.h.size)
  refine ⟨v, _, S, φ, rfl, ⟨hK, rfl⟩, A', ?_⟩
  cases hr with | v _ _ hr =>
  refine .v _ _ (hr.mono fun b hb => ⟨⟨?_, hb.2.1, fun id pl h1 h2 he => ?_⟩, rfl⟩)
  · rcases hb.1 with h | h
    · exact h.1
    · exact .inr (Nat.le_trans A.h.size h)
  · rcases hb.1 with h | h
    · exact h.2.2 id pl h1 h2 he
    · have := (A.h.own id pl h1 h2).1
      omega
theorem run_fv {P : Program} {c : Call} {y : Operand} {f : Nat} {ty : TypeId} {us vs : Array Value} (hc : c.callee = .value y) (hy : a.eval y = .func (.func f) us vs) (hf : okF P f = true) {w : World} :
    (do let d ← resolve a.eval c ty; invoke d.target d.args : Sem Go.Next).run P w = .ok (.enter f (us ++ c.args.map a.eval ++ vs)) w := by
  unfold okF at hf
  split at hf
  · rename_i fn hfn
    rw [Bool.and_eq_true, bne_iff_ne] at hf
    obtain ⟨body, hb⟩ := Option.isSome_iff_exists.1 hf.2
    simp [resolve, hc, hy, Deferred.ofValue, invoke, callFunc, hfn, hf.1, hb, Sem.run_bind]
  · cases hf
theorem repAs_app {w : World} {ok : Nat → Prop} {ln : Nat → Option Nat} {es fs : List E} {us vs : List Value} (h : RepAs w ok φ ln es us) (k : RepAs w ok φ ln fs vs) : RepAs w ok φ ln (es ++ fs) (us ++ vs) := by
  refine ⟨by simp [h.1, k.1], fun i x u hx hu => ?_⟩
  rw [List.getElem?_append] at hx hu
  rw [h.1] at hu
  split at hx
  · rename_i hlt; rw [if_pos hlt] at hu; exact h.2 i x u hx hu
  · rename_i hge; rw [if_neg hge] at hu; exact k.2 _ x u hx hu
theorem repAs_tail {w : World} {ok : Nat → Prop} {ln : Nat → Option Nat} {e : E} {es : List E} {u : Value} {us : List Value} (h : RepAs w ok φ ln (e :: es) (u :: us)) : RepE w ok φ ln e u ∧ RepAs w ok φ ln es us :=
  ⟨h.2 0 e u rfl rfl, by simpa using h.1, fun i x v hx hv => h.2 (i + 1) x v (by simpa using hx) (by simpa using hv)⟩
theorem repAs_of {w : World} {ok : Nat → Prop} {ln : Nat → Option Nat} {a : List E} {us : Array Value} (h0 : us.size = a.length) (h : ∀ (i : Nat) x u, a[i]? = some x → us[i]? = some u → RepE w ok φ ln x u) : RepAs w ok φ ln a us.toList :=
  ⟨by simpa using h0, fun i x u hx hu => h i x u hx (by simpa using hu)⟩
theorem repAs_v {w : World} {ok : Nat → Prop} {ln : Nat → Option Nat} {a : List V} {us : Array Value} (h0 : us.size = a.length) (h : ∀ (i : Nat) x u, a[i]? = some x → us[i]? = some u → RepV w ok x u) : RepAs w ok φ ln (a.map .v) us.toList :=
  ⟨by simpa using h0, fun i x u hx hu => by
    rw [List.getElem?_map, Option.map_eq_some_iff] at hx
    obtain ⟨y, hy, rfl⟩ := hx
    exact .v _ _ (h i y u hy (by simpa using hu))⟩
theorem cx_run {c : Call} {y : Operand} {ty : TypeId} {x : E} {es : List E} {K : E → St → Prop} (A : At R φ S a.tmps w) (hc : c.callee = .value y) (hx : RepE w (okOf R.w0 R.ok0 φ S.heap w) φ (lnOf S.heap) x (a.eval y))
    (hes : RepAs w (okOf R.w0 R.ok0 φ S.heap w) φ (lnOf S.heap) es (c.args.toList.map a.eval)) (h : evCx X x es S K) :
    ∃ f args fs, (do let d ← resolve a.eval c ty; invoke d.target d.args : Sem Go.Next).run X.P w = .ok (.enter f args.toArray) w ∧ evCall X f fs S K ∧ RepAs w (okOf R.w0 R.ok0 φ S.heap w) φ (lnOf S.heap) fs args := by
  unfold evCx at h
  split at h
  · rename_i f b d
    generalize hy : a.eval y = u at hx
    cases hx with | cl _ _ _ us vs h0 h1 k0 k1 =>
    refine ⟨f, us.toList ++ c.args.toList.map a.eval ++ vs.toList, _, ?_, h.2, repAs_app (repAs_app (repAs_of h0 k0) hes) (repAs_of h1 k1)⟩
    rw [run_fv hc hy h.1]
    congr 2
    apply Array.ext'
    simp
  · rename_i f b d
    cases hx with | v _ _ hv =>
    generalize hy : a.eval y = u at hv
    cases hv with | cl _ _ _ us vs h0 h1 k0 k1 =>
    refine ⟨f, us.toList ++ c.args.toList.map a.eval ++ vs.toList, _, ?_, h.2, repAs_app (repAs_app (repAs_v h0 k0) hes) (repAs_v h1 k1)⟩
    rw [run_fv hc hy h.1]
    congr 2
    apply Array.ext'
    simp
  · rename_i f us vs
    obtain ⟨rfl, rfl, hf, h⟩ := h
    refine ⟨f, c.args.toList.map a.eval, _, ?_, h, hes⟩
    rw [run_fv hc (repV_sc hx) hf]
    congr 2
    apply Array.ext'
    simp
  · exact h.elim
theorem cxp_cx {x : E} {es : List E} {K : E → Prop} (h : evCxp X x es K) : evCx X x es S fun r S' => K r ∧ S' = S := by
  unfold evCxp at h
  unfold evCx
  split at h
  · exact ⟨h.1, callp_call h.2⟩
  · exact ⟨h.1, h.2.1, h.2.2.1, callp_call h.2.2.2⟩
  · exact h.elim
theorem eq_run {P : Program} {neg : Bool} {t : TypeId} {x y : Operand} {u v : Value} {b : Bool} {w : World} {op : BinOp} (ho : (op == (if neg then BinOp.neq else .eql)) = true) (h1 : binOp .eql t u v = (do pure (.bool (← Op.equal t u v)))) (h2 : binOp .neq t u v = (do pure (.bool !(← Op.equal t u v))))
    (hg : ∀ op, (eqGuard op t x y u v).run P w = .ok () w) (h : ∀ d, (Op.equalIn (d + 2) t u v).run P w = .ok b w) :
    (do eqGuard op t x y u v; binOp op t u v : Sem Value).run P w = .ok (.bool (if neg then !b else b)) w := by
  rw [beq_iff_eq] at ho
  subst ho
  rw [Sem.run_bind, hg]
  cases neg
  · simp only [Bool.false_eq_true, if_false, h1]
    simp [Op.equal, Op.maxDepth, h 9998]
  · simp only [if_true, h2]
    simp [Op.equal, Op.maxDepth, h 9998]
section
variable {P : Program} {t e : TypeId} {w : World}
theorem eqIn_pp {j : TypeInfo} (hp : P.underlying t = some (.pointer e)) (hj : P.info? e = some j) (a : Addr) (d : Nat) : (Op.equalIn (d + 2) t (.pointer (some a)) (.pointer (some a))).run P w = .ok true w := by
  simp [Op.equalIn, run_underlying hp, Go.sizeOf, typeInfo, hj, run_sameAddr_same]
theorem eqIn_pn (hp : P.underlying t = some (.pointer e)) (a : Addr) (d : Nat) : (Op.equalIn (d + 2) t (.pointer (some a)) (.pointer none)).run P w = .ok false w := by
  simp [Op.equalIn, run_underlying hp]
theorem eqIn_nn (hp : P.underlying t = some (.pointer e)) (d : Nat) : (Op.equalIn (d + 2) t (.pointer none) (.pointer none)).run P w = .ok true w := by
  simp [Op.equalIn, run_underlying hp]
theorem eqIn_in {ms : Array (String × TypeId)} (hp : P.underlying t = some (.interface ms)) (k : TypeId) (u : Value) (d : Nat) : (Op.equalIn (d + 2) t (.iface k u) .nilIface).run P w = .ok false w := by
  simp [Op.equalIn, run_underlying hp]
theorem eqIn_ii {ms : Array (String × TypeId)} (hp : P.underlying t = some (.interface ms)) (d : Nat) : (Op.equalIn (d + 2) t .nilIface .nilIface).run P w = .ok true w := by
  simp [Op.equalIn, run_underlying hp]
end
set_option maxHeartbeats 1000000 in
theorem snd_G0 (A : At R φ S a.tmps w) {g : G0} {xs : List O} {o : Oper} (hc : chkG0 X.P g xs o.op = true) {K : E → Prop} (h : evG0 g (xs.map (evO S.env)) K) :
    ∃ (u : Value) (r : E), (execOp a.eval o).run X.P w = .ok (.value u) w ∧ RepE w (okOf R.w0 R.ok0 φ S.heap w) φ (lnOf S.heap) r u ∧ K r := by
  obtain ⟨dst, op, type, pos, after, guard⟩ := o
  dsimp only at hc ⊢
  unfold chkG0 at hc
  split at hc
  · rename_i f n fn us vs
    simp only [Bool.and_eq_true, beq_iff_eq] at hc
    obtain ⟨⟨h1, h2⟩, h3⟩ := hc
    rw [fnIs_spec h1]
    have hr := rep_Os A.env h3
    refine ⟨_, _, rfl, rep_mkCl ?_, h⟩
    have hl := hr.1
    simp only [List.length_map, List.length_append, Array.length_toList] at hl
    refine .cl _ _ _ _ _ (by simp; omega) (by simp; omega) (fun i x u hx hu => ?_) fun i x u hx hu => ?_
    · rw [List.getElem?_take] at hx
      split at hx
      · rename_i hlt
        refine hr.2 i x u hx ?_
        rw [List.map_append, List.getElem?_append_left (by simp; omega)]
        simpa using hu
      · cases hx
    · rw [List.getElem?_drop] at hx
      refine hr.2 _ x u hx ?_
      rw [List.map_append, List.getElem?_append_right (by simp; omega)]
      rw [← hu]
      simp [h2]
  · rename_i neg op t x y yt
    simp only [Bool.and_eq_true] at hc
    obtain ⟨⟨h1, h2⟩, h3⟩ := hc
    obtain ⟨e, j, h4, h5⟩ := isPtr_spec h3
    have hr := rep_Os A.env h2
    simp only [evG0] at h
    split at h
    · rename_i x' y' hxs
      rw [hxs] at hr
      have r1 := hr.2 0 _ _ rfl rfl
      have r2 := hr.2 1 _ _ rfl rfl
      have fin : ∀ b, binOp .eql t (a.eval x) (a.eval y) = (do pure (.bool (← Op.equal t (a.eval x) (a.eval y)))) → binOp .neq t (a.eval x) (a.eval y) = (do pure (.bool !(← Op.equal t (a.eval x) (a.eval y)))) → (∀ op, (eqGuard op t x y (a.eval x) (a.eval y)).run X.P w = .ok () w) → (∀ d, (Op.equalIn (d + 2) t (a.eval x) (a.eval y)).run X.P w = .ok b w) → K (.v (.sc (.bool (if neg then !b else b)))) →
          ∃ (u : Value) (r : E), (execOp a.eval ⟨dst, .binOp op t x y yt, type, pos, after, guard⟩).run X.P w = .ok (.value u) w ∧ RepE w (okOf R.w0 R.ok0 φ S.heap w) φ (lnOf S.heap) r u ∧ K r :=
        fun b e1 e2 hg hb hK => ⟨_, _, by
          have hr := eq_run h1 e1 e2 hg hb
          show ((do pure (Go.Next.value (← (do eqGuard op t x y (a.eval x) (a.eval y); binOp op t (a.eval x) (a.eval y) : Sem Value))) : Sem Go.Next)).run X.P w = _
          rw [Sem.run_bind, hr]
          rfl, .v _ _ (.sc _), hK⟩
      unfold evPeq at h
      split at h
      · obtain ⟨rfl, rfl, rfl, h⟩ := h
        rename_i i0 j0 f0
        have e1 : a.eval x = a.eval y := by
          generalize a.eval x = u at r1
          generalize a.eval y = v at r2
          cases r1 with | op _ _ _ pl L hl hp hj hf =>
          cases r2 with | op _ _ _ pl' L' hl' hp' hj' hf' =>
          rw [hp] at hp'
          cases hp'
          rfl
        rw [← e1] at fin
        generalize a.eval x = u at r1 fin
        cases r1 with | op _ _ _ pl L hl hp hj hf =>
        exact fin true rfl rfl (fun op => by cases op <;> rfl) (eqIn_pp h4 h5 _) (by cases neg <;> exact h)
      · rw [repV_sc r2] at fin
        generalize a.eval x = u at r1 fin
        cases r1 with | op _ _ _ pl L hl hp hj hf => exact fin false rfl rfl (fun op => by cases op <;> rfl) (eqIn_pn h4 _) (by cases neg <;> exact h)
      · rw [repV_sc r2] at fin
        generalize a.eval x = u at r1 fin
        cases r1 with | v _ _ r1 => cases r1 with | pt _ _ _ _ _ _ => exact fin false rfl rfl (fun op => by cases op <;> rfl) (eqIn_pn h4 _) (by cases neg <;> exact h)
      · rw [repV_sc r1, repV_sc r2] at fin
        exact fin true rfl rfl (fun op => by cases op <;> rfl) (eqIn_nn h4) (by cases neg <;> exact h)
      · exact h.elim
    · exact h.elim
  · rename_i neg op t x vy yt
    obtain ⟨y, hy⟩ : ∃ y, Operand.const vy = y := ⟨_, rfl⟩
    simp only [Bool.and_eq_true] at hc
    obtain ⟨⟨h1, h2⟩, h3⟩ := hc
    obtain ⟨ms, h4⟩ := isIfc_spec h3
    have hr := rep_Os A.env h2
    simp only [evG0] at h
    split at h
    · rename_i x' y' hxs
      rw [hxs] at hr
      have r1 := hr.2 0 _ _ rfl rfl
      have r2 := hr.2 1 _ _ rfl rfl
      have fin : ∀ b, binOp .eql t (a.eval x) (a.eval y) = (do pure (.bool (← Op.equal t (a.eval x) (a.eval y)))) → binOp .neq t (a.eval x) (a.eval y) = (do pure (.bool !(← Op.equal t (a.eval x) (a.eval y)))) → (∀ op, (eqGuard op t x y (a.eval x) (a.eval y)).run X.P w = .ok () w) → (∀ d, (Op.equalIn (d + 2) t (a.eval x) (a.eval y)).run X.P w = .ok b w) → K (.v (.sc (.bool (if neg then !b else b)))) →
          ∃ (u : Value) (r : E), (execOp a.eval ⟨dst, .binOp op t x y yt, type, pos, after, guard⟩).run X.P w = .ok (.value u) w ∧ RepE w (okOf R.w0 R.ok0 φ S.heap w) φ (lnOf S.heap) r u ∧ K r :=
        fun b e1 e2 hg hb hK => ⟨_, _, by
          have hr := eq_run h1 e1 e2 hg hb
          show ((do pure (Go.Next.value (← (do eqGuard op t x y (a.eval x) (a.eval y); binOp op t (a.eval x) (a.eval y) : Sem Value))) : Sem Go.Next)).run X.P w = _
          rw [Sem.run_bind, hr]
          rfl, .v _ _ (.sc _), hK⟩
      subst hy
      unfold evIeq at h
      split at h
      · rw [repV_sc r2] at fin
        generalize a.eval x = u at r1 fin
        cases r1 with | v _ _ r1 => cases r1 with | ni t u => exact fin false rfl rfl (fun op => by cases op <;> rfl) (eqIn_in h4 _ _) (by cases neg <;> exact h)
      · rw [repV_sc r1, repV_sc r2] at fin
        exact fin true rfl rfl (fun op => by cases op <;> simp [eqGuard]) (eqIn_ii h4) (by cases neg <;> exact h)
      · exact h.elim
    · exact h.elim
  · cases hc
theorem fold_bytes : ∀ (l : List UInt8) (r : ByteArray), (l.map (fun b => (b.toNat : Int))).foldl (fun r n => r.push (UInt8.ofNat n.toNat)) r = ⟨r.data ++ l.toArray⟩
  | [], r => by simp
  | b :: l, r => by
    simp only [List.map_cons, List.foldl_cons]
    rw [fold_bytes l]
    simp [ByteArray.push]
theorem bytes_cells {w : World} {ok : Nat → Prop} {s : ByteArray} {A : Option Addr} {m : Nat} {cells : List Value} (C : Cells w ok 1 (bytesV s) A m cells) : cells = (bytesI s).map (Value.int .u8) := by
  refine List.ext_getElem? fun k => ?_
  have e1 := C.size
  have e2 := C.len
  have hb : (bytesV s).length = (bytesI s).length := by simp [bytesV]
  rcases Nat.lt_or_ge k (bytesI s).length with hk | hk
  · obtain ⟨u, hu, hr⟩ := C.rep k 0 [.sc (.int .u8 (bytesI s)[k])] (.sc (.int .u8 (bytesI s)[k])) (by simp [bytesV, List.getElem?_eq_getElem hk]) rfl
    cases hr
    rw [Nat.mul_one, Nat.add_zero] at hu
    rw [hu, List.getElem?_map, List.getElem?_eq_getElem hk]
    rfl
  · rw [List.getElem?_eq_none (by omega), List.getElem?_eq_none (by simpa using hk)]
theorem isU8s_spec {P : Program} {t : TypeId} (h : isU8s P t = true) : ∃ e, P.underlying t = some (.slice e) ∧ P.underlying e = some (.int .u8) := by
  unfold isU8s at h
  split at h
  · rename_i e he; exact ⟨e, elOf_spec he, isInt_spec h⟩
  · cases h
theorem snd_b2s (A : At R φ S a.tmps w) {src dst : TypeId} {x : E} {v : Value} (h1 : isU8s X.P src = true) (h2 : isStr X.P dst = true) (hx : RepE w (okOf R.w0 R.ok0 φ S.heap w) φ (lnOf S.heap) x v) {K : E → Prop} (h : evB2s x S.heap K) :
    ∃ u r, (convert src dst v).run X.P w = .ok u w ∧ RepE w (okOf R.w0 R.ok0 φ S.heap w) φ (lnOf S.heap) r u ∧ K r := by
  obtain ⟨e, h3, h4⟩ := isU8s_spec h1
  have h5 := isStr_spec h2
  unfold evB2s at h
  split at h
  · rename_i sz rows hcont
    obtain ⟨rfl, s, rfl, hK⟩ := h
    obtain ⟨B, m, c, cells, rfl, g1, g2, g3, C⟩ := cont_spec A.h.blk hx hcont (by omega)
    refine ⟨.string s, _, ?_, .v _ _ (.sc _), hK⟩
    rw [run_convert_bytes_string w src dst e B m c h3 h4 h5]
    have hcs := bytes_cells C
    cases B with
    | none =>
      have hm := g3 rfl
      have e2 := C.len
      have hs : s = ByteArray.empty := by
        have : s.data.toList = [] := List.eq_nil_of_length_eq_zero (by simpa [bytesV, bytesI, hm] using e2)
        cases s with | mk d => simp at this; subst this; rfl
      subst hs hm
      simp [Conv.bytesToString]
    | some b =>
      have hl : (loadCells b m).run X.P w = .ok ((bytesI s).map (Value.int .u8)).toArray w := by
        have := run_first (P := X.P) (c := c) C g3 w rfl
        simp only [Builtin.firstCells, Nat.mul_one] at this
        rw [this, hcs]
      rw [run_bytesToString w b m c (bytesI s) hl]
      unfold bytesI
      rw [fold_bytes]
      simp
  · exact h.elim
theorem snd_usd (A : At R φ S a.tmps w) {x : E} {v : Value} {ts : Array TypeId} {ty : TypeId} (hx : RepE w (okOf R.w0 R.ok0 φ S.heap w) φ (lnOf S.heap) x v) {K : E → Prop} (h : evUsd x S.heap K) :
    ∃ u r, (Builtin.unsafeSliceData_ ts ty #[v]).run X.P w = .ok u w ∧ RepE w (okOf R.w0 R.ok0 φ S.heap w) φ (lnOf S.heap) r u ∧ K r := by
  unfold evUsd at h
  split at h
  · rename_i id lo n
    split at h
    · rename_i e0 sz l hid
      obtain ⟨h0, hK⟩ := h
      cases hx with
      | osn _ L hl hp => omega
      | os _ _ _ b cp pl L hl hp q1 q2 q3 ha =>
        obtain ⟨z0, hb | ⟨pl', cur, g1, g2, _⟩⟩ := A.h.blk id _ hid
        · rw [hb.1] at hp; cases hp
        · rw [hp] at g1
          cases g1
          refine ⟨_, _, Lib.run_unsafeSliceData_row _ _ _ _ _ _ (by omega), ?_, hK⟩
          rw [ha (by omega)]
          obtain rfl : L = l.length := by
            unfold lnOf at hl
            rw [hid] at hl
            simpa [Blk.len] using hl.symm
          have := RepE.op (w := w) (ok := okOf R.w0 R.ok0 φ S.heap w) (φ := φ) (ln := lnOf S.heap) id lo 0 _ _ hl hp (by omega) (by omega)
          simpa using this
    · exact h.elim
  · exact h.elim
theorem lies_bytes {P : Program} {e : TypeId} (hc : P.cellsOf e = 1) (count off n : Nat) (hn : off + n ≤ count) : liesAt P P.depth e count off e n = true := by
  have hd : P.depth = (2 * (P.types.size + Made.depth) + 1) + 1 := rfl
  rw [hd]
  simp only [liesAt, Bool.or_eq_true]
  left
  rw [hd]
  simp [rowAt, hc, hn, sameLayout, Nat.mod_one]
theorem run_ust {P : Program} (pt it ty e : TypeId) (hp : P.underlying pt = some (.pointer e)) (hc : P.cellsOf e = 1) (w : World) (b : Addr) (cells : Nat) (hsh : w.shape? b.block = some (e, cells)) (l : List UInt8) (h0 : l ≠ []) (hn : b.off + l.length ≤ cells) (h63 : l.length ≤ 9223372036854775807)
    (hcell : ∀ j x, l[j]? = some x → w.cell? (b.add j) = some (.int .u8 x.toNat)) :
    (Builtin.unsafeString_ #[pt, it] ty #[.pointer (some b), .int .i64 l.length]).run P w = .ok (.string ⟨l.toArray⟩) (w.freeze b l.length) := by
  have hl : l.length ≠ 0 := by simpa using h0
  have hlb := Lib.run_loadBytes (P := P) w l b .empty hcell
  have hlies := lies_bytes (P := P) hc (cells / P.cellsOf e) b.off l.length (by rw [hc]; simpa using hn)
  have h63' : ¬ (9223372036854775807 : Int) < (l.length : Int) := by omega
  have hdef : Builtin.unsafeString_ #[pt, it] ty #[.pointer (some b), .int .i64 l.length] =
      (do
        let n ← asInt (.int .i64 l.length)
        if n < 0 then runtimePanic (.error "unsafe.String: len out of range")
        if n > IntKind.i64.max then unsupported (.unsafePointer "String: a length above the largest int")
        if n = 0 then pure (.string .empty)
        else if ← variablesAt b (← elemOf pt) n.toNat then do
          let s ← loadBytes b .empty n.toNat
          freeze b n.toNat
          pure (.string s)
        else unsupported (.unsafePointer "String: not so many bytes at ptr")) := rfl
  rw [hdef]
  have hmax : IntKind.i64.max = 9223372036854775807 := rfl
  have hneg : ¬ (l.length : Int) < 0 := by omega
  simp [asInt, asIntOf, hmax, h63', hneg, hl, variablesAt, hsh, elemOf, run_underlying hp, hlies, hlb]
theorem snd_ust (A : At R φ S a.tmps w) {pt it ty e : TypeId} (hp : X.P.underlying pt = some (.pointer e)) (hc : X.P.cellsOf e = 1) {x y : E} {v1 v2 : Value} (h1 : RepE w (okOf R.w0 R.ok0 φ S.heap w) φ (lnOf S.heap) x v1) (h2 : RepE w (okOf R.w0 R.ok0 φ S.heap w) φ (lnOf S.heap) y v2)
    {K : E → St → Prop} (h : evUst e x y S K) :
    ∃ u w' r S' φ', (Builtin.unsafeString_ #[pt, it] ty #[v1, v2]).run X.P w = .ok u w' ∧ K r S' ∧ At R φ' S' a.tmps w' ∧ RepE w' (okOf R.w0 R.ok0 φ' S'.heap w') φ' (lnOf S'.heap) r u := by
  unfold evUst at h
  split at h
  · rename_i id j f n
    rw [repV_sc h2]
    split at h
    · rename_i e0 sz rows hid
      obtain ⟨rfl, rfl, rfl, rfl, h50, h0, hn, s, rfl, hK⟩ := h
      have hlen : (bytesV s).length = s.data.toList.length := by simp [bytesV, bytesI]
      have hmax : maxLen = 9223372036854775807 := by decide
      cases h1 with | op _ _ _ pl L hl hp' hj hf =>
      have hb0 := A.h.blk id _ hid
      obtain ⟨z0, hb | ⟨pl', cur, g1, g2, g3, g4, g5, g6, g7, g8⟩⟩ := hb0
      · rw [hb.1] at hp'; cases hp'
      obtain rfl : pl = pl' := Option.some.inj (hp'.symm.trans g1)
      have hne : s.data.toList ≠ [] := fun he => by
        rw [hlen, he] at hn
        have : (([] : List UInt8).length : Int) = 0 := rfl
        omega
      have hcell : ∀ (j : Nat) x, s.data.toList[j]? = some x → cur[pl.off + j]? = some (.int .u8 x.toNat) := fun j x hx => by
        obtain ⟨u, hu, _, hr⟩ := g8 j 0 [.sc (.int .u8 (x.toNat : Int))] (.sc (.int .u8 (x.toNat : Int))) (by simp only [bytesV, bytesI, List.map_map, List.getElem?_map, hx]; rfl) rfl
        cases hr
        simpa using hu
      have hrun := run_ust (P := X.P) pt it ty e0 hp hc w ⟨pl.b, pl.off + (0 * pl.sz + 0), none⟩ cur.size (by simp [World.shape?, g6]) s.data.toList hne (by simp only; rw [hlen] at g3; omega) (by omega) (fun j x hx => by
        rw [add_at, cell_of_row w pl.b _ cur e0 (0, 0) g6]
        rw [← hcell j x hx]
        congr 1
        omega)
      rw [← hlen, ← hn] at hrun
      have hfz : ∀ b, b ≠ pl.b → (w.freeze ⟨pl.b, pl.off + (0 * pl.sz + 0), none⟩ (bytesV s).length).heap[b]? = w.heap[b]? := fun b hb => by
        unfold World.freeze
        split
        · rfl
        · simp only [Array.getElem?_modify]
          rw [if_neg (by omega)]
      have hsz : (w.freeze ⟨pl.b, pl.off + (0 * pl.sz + 0), none⟩ (bytesV s).length).heap.size = w.heap.size := by
        unfold World.freeze
        split
        · rfl
        · simp
      have hos : (w.freeze ⟨pl.b, pl.off + (0 * pl.sz + 0), none⟩ (bytesV s).length).os = w.os ∧ (w.freeze ⟨pl.b, pl.off + (0 * pl.sz + 0), none⟩ (bytesV s).length).tape = w.tape ∧ (w.freeze ⟨pl.b, pl.off + (0 * pl.sz + 0), none⟩ (bytesV s).length).output = w.output := by
        unfold World.freeze
        split <;> exact ⟨rfl, rfl, rfl⟩
      generalize w.freeze ⟨pl.b, pl.off + (0 * pl.sz + 0), none⟩ (bytesV s).length = w' at *
      have C : Chg φ S.heap w w' id none := ⟨fun b _ hb => hfz b fun he => hb pl (by rw [hid]; rfl) hp' he.symm, by omega, hos.1, hos.2.1, hos.2.2, fun pl h => by cases h⟩
      have nx : Next R.w0 R.mine R.ok0 φ S.heap w (upd (heapTr (E.kill id) S.heap) id (some (.p e0 1 []))) w' (E.kill id) (.v (.sc (.string s))) (.string s) :=
        ⟨upd φ id none, C.rep (f := E.kill id) A.h (C.kill A.h) ⟨by omega, .inl ⟨upd_same _ _ _, rfl⟩⟩, C.kill A.h, .v _ _ (.sc _), fun k hk => ⟨upd_ne _ _ _ (by omega), by rw [lnOf_upd, if_neg (by omega), lnOf_tr]⟩⟩
      obtain ⟨φ', k1, k2⟩ := A.next nx
      exact ⟨_, w', _, _, φ', hrun, hK, k1, k2⟩
    · exact h.elim
  · exact h.elim
theorem snd_alo {nid : Nat} (h50 : 50 ≤ nid) {el : TypeId} {i : TypeInfo} {zv : Value} (hi : X.P.info? el = some i) (hz : i.zero = some zv) {z : List V} (h0 : 0 < z.length) : ∀ {subs : List (Nat × Nat × Nat × Nat)} {cs : List E} {S : St} {φ : Nat → Option Pl} {tm : Array Value} {K : E → St → Prop},
    At R φ S tm w → chkSubs z zv.cells.toList subs = true → cs.length = z.length → RepL w (okOf R.w0 R.ok0 φ S.heap w) φ (lnOf S.heap) cs zv.cells.toList → evAlo nid el subs cs S K →
    ∃ u w' r S' φ', (Instr.alloc el true undef).run X.P w = .ok u w' ∧ K r S' ∧ At R φ' S' tm w' ∧ RepE w' (okOf R.w0 R.ok0 φ' S'.heap w') φ' (lnOf S'.heap) r u
  | [], cs, S, φ, tm, K, A, hc, hl, hr, h => by
    obtain ⟨hn, hK⟩ := h
    have n := snd_newM h50 A.h hn (Pushed.alloc w zv.cells el) (by omega) hr
    obtain ⟨φ', h1, h2⟩ := A.next n
    exact ⟨.pointer (some ⟨w.heap.size, 0, none⟩), w.alloc (.cells zv.cells el), _, _, φ', by simp [Instr.alloc, undef, zeroValue, typeInfo, hi, hz, newVar, newRow], hK, h1, h2⟩
  | (k, n, e', sz) :: l, cs, S, φ, tm, K, A, hc, hl, hr, h => by
    simp only [chkSubs, Bool.and_eq_true, decide_eq_true_eq] at hc
    obtain ⟨⟨⟨c1, c2⟩, c3⟩, c4⟩ := hc
    obtain ⟨hn, hK⟩ := h
    have nx := snd_nl (e := e') c1 c2 A.h hn
    obtain ⟨φ', H', hE, hs, hpin⟩ := nx
    have A' : At R φ' ⟨S.env, upd S.heap n (some (.p e' sz []))⟩ tm w := by
      refine ⟨H', fun t => hE _ _ (A.env t), A.size, fun q hq hsome => ?_⟩
      have hqn : q ≠ n := by omega
      have : (S.heap q).isSome = true := by simpa [upd_ne _ _ _ hqn] using hsome
      obtain ⟨a1, a2⟩ := A.pin q hq this
      obtain ⟨b1, b2⟩ := hpin q hq
      exact ⟨b1.trans a1, b2.trans a2⟩
    refine snd_alo h50 hi hz h0 A' c4 (by simpa using hl) ⟨by simpa using hr.1, hr.2.1, fun j x u hx hu => ?_⟩ hK
    by_cases hj : j = k
    · subst hj
      have hlt : j < cs.length := by
        have := (List.getElem?_eq_some_iff.1 hx).1
        simpa using this
      rw [List.getElem?_set_self hlt] at hx
      cases hx
      rw [hu] at c3
      rw [isNil_spec c3]
      exact hs
    · rw [List.getElem?_set_ne (by omega)] at hx
      exact hE _ _ (hr.2.2 j x u hx hu)
theorem snd_I (A : At R φ S a.tmps w) {i : I} {o : Oper} (hc : chkI X.P i o.op = true) {K : E → St → Prop} (h : evI X S K i) {next : Act → World → Prop} {Q : Exit → Act → World → Prop}
    (hk : ∀ r S' φ' u w', K r S' → At R φ' S' a.tmps w' → RepE w' (okOf R.w0 R.ok0 φ' S'.heap w') φ' (lnOf S'.heap) r u → next (a.put o.dst u) w') : o.wp X.P a w next Q := by
  have hp := placed A
  have hln : ∀ id, lnOf S.heap id = (S.heap id).map Blk.len := fun _ => rfl
  have fin : ∀ (u : Value) (r : E), K r S → RepE w (okOf R.w0 R.ok0 φ S.heap w) φ (lnOf S.heap) r u → next (a.put o.dst u) w := fun u r hK hr => hk r S φ u w hK A hr
  have new : ∀ {nid : Nat} {b : Blk} {r : E} {u : Value} {w' : World}, K r ⟨S.env, upd S.heap nid (some b)⟩ → Next R.w0 R.mine R.ok0 φ S.heap w (upd S.heap nid (some b)) w' (fun e => e) r u → next (a.put o.dst u) w' := fun hK n => by
    obtain ⟨φ', h1, h2⟩ := upd_env A n
    exact hk _ _ φ' _ _ hK h1 h2
  obtain ⟨dst, op, type, pos, after, guard⟩ := o
  dsimp only at hc hk fin new
  unfold chkI at hc
  split at hc <;> (try simp only [evI] at h)
        
  · refine wp_val (s := pure _) rfl (w' := w) rfl (fin _ _ h (rep_O hc A.env))
  · refine wp_val (s := pure _) rfl (w' := w) rfl (fin _ _ h (rep_O hc A.env))
       
  · simp only [Bool.and_eq_true, decide_eq_true_eq] at hc
    obtain ⟨⟨h50, h0⟩, hn⟩ := hc
    rw [isNil_spec hn]
    exact wp_val (s := pure _) rfl (w' := w) rfl (new h.2 (snd_nl h50 h0 A.h h.1))
  · simp only [Bool.and_eq_true, decide_eq_true_eq] at hc
    obtain ⟨⟨h50, h0⟩, hn⟩ := hc
    rw [isNil_spec hn]
    exact wp_val (s := pure _) rfl (w' := w) rfl (new h.2 (snd_nl h50 h0 A.h h.1))
        
  · simp only [Bool.and_eq_true, beq_iff_eq] at hc
    obtain ⟨⟨rfl, h1⟩, h2⟩ := hc
    obtain ⟨u, r, g1, g2, g3⟩ := snd_bin (rep_O h1 A.env) (rep_O h2 A.env) h
    exact wp_val rfl (g1 w) (fin _ _ g3 g2)
        
  · simp only [Bool.and_eq_true, beq_iff_eq] at hc
    obtain ⟨⟨⟨rfl, h1⟩, h2⟩, h3⟩ := hc
    obtain ⟨u, r, g1, g2, g3⟩ := snd_beq (isBoo_spec h3) (rep_O h1 A.env) (rep_O h2 A.env) h
    exact wp_val rfl (g1 w) (fin _ _ g3 g2)
       
  · simp only [Bool.and_eq_true, beq_iff_eq] at hc
    obtain ⟨rfl, h1⟩ := hc
    obtain ⟨u, r, g1, g2, g3⟩ := snd_un (rep_O h1 A.env) h
    exact wp_val rfl (g1 w) (fin _ _ g3 g2)
       
  · simp only [Bool.and_eq_true] at hc
    obtain ⟨⟨h1, h2⟩, h3⟩ := hc
    obtain ⟨u, r, g1, g2, g3⟩ := snd_cv h1 (isInt_spec h2) (rep_O h3 A.env) h
    exact wp_val rfl (g1 w) (fin _ _ g3 g2)
       
  · rw [Bool.and_eq_true] at hc
    obtain ⟨h1, h2⟩ := hc
    split at h2
    · rename_i f hf
      rw [Bool.and_eq_true, beq_iff_eq] at h2
      obtain ⟨h2, h3⟩ := h2
      split at h3
      · rename_i n hn
        obtain ⟨fs, q1, q2⟩ := fldOf_spec hf
        obtain ⟨it, q3, q4⟩ := szOf_spec hn
        obtain ⟨u, r, g1, g2, g3⟩ := snd_fa ⟨fs, f, it, q1, q2, h2, q3, by rw [q4]; simpa using h3⟩ hp hln (rep_O h1 A.env) h
        exact wp_val rfl (g1 w) (fin _ _ g3 g2)
      · cases h3
    · cases h2
       
  · rw [Bool.and_eq_true] at hc
    obtain ⟨h1, h2⟩ := hc
    split at h2
    · rename_i f hf
      simp only [Bool.and_eq_true, beq_iff_eq] at h2
      obtain ⟨⟨h2, h3⟩, h4⟩ := h2
      obtain ⟨fs, q1, q2⟩ := fldOf_spec hf
      obtain ⟨it, q3, q4⟩ := szOf_spec h3
      obtain ⟨d, q5, q6⟩ := agOf_spec h4
      obtain ⟨u, r, g1, g2, g3⟩ := snd_fd ⟨fs, f, d, it, q1, q2, h2, q5, q6, q3, q4⟩ (rep_O h1 A.env) h
      exact wp_val rfl (g1 w) (fin _ _ g3 g2)
    · cases h2
       
  · simp only [Bool.and_eq_true, decide_eq_true_eq] at hc
    obtain ⟨⟨⟨h1, h2⟩, h0⟩, h3⟩ := hc
    split at h3
    · rename_i e he
      rw [beq_iff_eq] at h3
      obtain ⟨it, q3, q4⟩ := szOf_spec h3
      obtain ⟨u, r, g1, g2, g3⟩ := snd_ia h0 ⟨e, it, elOf_spec he, q3, q4⟩ hp hln (rep_O h1 A.env) (rep_O h2 A.env) h
      exact wp_val rfl (g1 w) (fin _ _ g3 g2)
    · cases h3
        
  · simp only [Bool.and_eq_true] at hc
    obtain ⟨⟨h1, h2⟩, h3⟩ := hc
    split at h3
    · rename_i n e he
      simp only [Bool.and_eq_true, beq_iff_eq] at h3
      obtain ⟨rfl, h3⟩ := h3
      obtain ⟨it, q3, q4⟩ := szOf_spec h3
      obtain ⟨u, r, g1, g2, g3⟩ := snd_iaa ⟨e, it, arOf_spec he, q3, q4⟩ hp hln (rep_O h1 A.env) (rep_O h2 A.env) h
      exact wp_val rfl (g1 w) (fin _ _ g3 g2)
    · cases h3
       
  · simp only [Bool.and_eq_true] at hc
    obtain ⟨⟨h1, h2⟩, h3⟩ := hc
    obtain ⟨u, r, g1, g2, g3⟩ := snd_ix (isStr_spec h3) (rep_O h1 A.env) (rep_O h2 A.env) h
    exact wp_val rfl (g1 w) (fin _ _ g3 g2)
        
  · simp only [Bool.and_eq_true] at hc
    obtain ⟨⟨h1, h2⟩, h3⟩ := hc
    split at h3
    · rename_i m e he
      simp only [Bool.and_eq_true, beq_iff_eq] at h3
      obtain ⟨⟨rfl, h3⟩, h4⟩ := h3
      obtain ⟨it, q3, q4⟩ := szOf_spec h3
      obtain ⟨d, q5, q6⟩ := agOf_spec h4
      obtain ⟨u, r, g1, g2, g3⟩ := snd_ixa ⟨e, d, it, arOf_spec he, q5, q6, q3, q4⟩ (rep_O h1 A.env) (rep_O h2 A.env) h
      exact wp_val rfl (g1 w) (fin _ _ g3 g2)
    · cases h3
       
  · simp only [Bool.and_eq_true, beq_iff_eq] at hc
    obtain ⟨⟨h1, h2⟩, h3⟩ := hc
    obtain ⟨it, q3, q4⟩ := szOf_spec h2
    obtain ⟨d, q5, q6⟩ := agOf_spec h3
    obtain ⟨u, r, g1, g2, g3⟩ := snd_ld (P := X.P) ⟨d, it, q5, q6, q3, q4⟩ A.h.blk hln (rep_O h1 A.env) h
    exact wp_val rfl g1 (fin _ _ g3 g2)
        
  · simp only [Bool.and_eq_true] at hc
    obtain ⟨⟨⟨h1, h2⟩, h3⟩, h4⟩ := hc
    obtain ⟨u, r, g1, g2, g3⟩ := snd_sls (isStr_spec h4) (rep_O h1 A.env) (rep_Oo h2 A) (rep_Oo h3 A) h
    exact wp_val rfl (g1 w) (fin _ _ g3 g2)
        
  · simp only [Bool.and_eq_true] at hc
    obtain ⟨⟨⟨⟨h1, h2⟩, h3⟩, h4⟩, h5⟩ := hc
    split at h5
    · rename_i e he
      rw [beq_iff_eq] at h5
      obtain ⟨it, q3, q4⟩ := szOf_spec h5
      obtain ⟨u, r, g1, g2, g3⟩ := snd_slc ⟨e, it, elOf_spec he, q3, q4⟩ hp (rep_O h1 A.env) (rep_Oo h2 A) (rep_Oo h3 A) (rep_Oo h4 A) h
      exact wp_val rfl (g1 w) (fin _ _ g3 g2)
    · cases h5
        
  · simp only [Bool.and_eq_true, beq_iff_eq] at hc
    obtain ⟨h1, rfl⟩ := hc
    obtain ⟨u, r, g1, g2, g3⟩ := snd_ext (P := X.P) (rep_O h1 A.env) h
    exact wp_val rfl (g1 w) (fin _ _ g3 g2)
        
  · rename_i str x c
    rw [Bool.and_eq_true] at hc
    obtain ⟨h1, h2⟩ := hc
    split at h2
    · rename_i b t hargs htys
      rw [Bool.and_eq_true] at h2
      obtain ⟨h2, h3⟩ := h2
      obtain ⟨u, r, g1, g2, g3⟩ := snd_len (P := X.P) (ty := type) (t := t) (by cases str; exact isRow_spec h3; exact isStr_spec h3) (rep_O h2 A.env) h
      have htys' : c.argTypes = #[t] := by apply Array.ext'; simpa using htys
      unfold Oper.wp
      rw [show execOp a.eval ⟨dst, .call c, type, pos, after, guard⟩ = (do let d ← resolve a.eval c type; invoke d.target d.args) from rfl]
      rw [run_builtin h1 (lenOne hargs) (s := Builtin.len_ #[t] type #[a.eval b]) (fun cs => by rw [htys']; rfl) (g1 w)]
      exact fin _ _ g3 g2
    · cases h2
       
  · rename_i mx x y c
    rw [Bool.and_eq_true] at hc
    obtain ⟨h1, h2⟩ := hc
    obtain ⟨q1, q2⟩ := rep_Os A.env h2
    have hl : c.args.toList.length = 2 := by simpa using q1
    obtain ⟨b1, b2, hb⟩ : ∃ b1 b2, c.args.toList = [b1, b2] := by
      match hh : c.args.toList, hl with
      | [b1, b2], _ => exact ⟨b1, b2, rfl⟩
    rw [hb] at q2
    obtain ⟨u, r, g1, g2, g3⟩ := snd_mm (P := X.P) (mx := mx) (ts := c.argTypes) (ty := type) (q2 0 _ _ rfl rfl) (q2 1 _ _ rfl rfl) h
    unfold Oper.wp
    rw [show execOp a.eval ⟨dst, .call c, type, pos, after, guard⟩ = (do let d ← resolve a.eval c type; invoke d.target d.args) from rfl]
    rw [run_builtin h1 (args := [a.eval b1, a.eval b2]) (by rw [hb]; rfl) (s := if mx then Builtin.max_ c.argTypes type #[a.eval b1, a.eval b2] else Builtin.min_ c.argTypes type #[a.eval b1, a.eval b2]) (fun cs => by cases mx <;> rfl) (g1 w)]
    exact fin _ _ g3 g2
       
  · rename_i x y
    have hr := rep_O hc A.env
    generalize hev : a.eval y = vv at hr
    unfold evNc at h
    split at h
    · rename_i id j f he
      rw [he] at hr
      have hr0 := hr
      cases hr with | op _ _ _ pl L hl hp' hj hf =>
      refine wp_val (s := pure _) ?_ (w' := w) rfl (fin _ _ h hr0)
      simp only [execOp, hev]
      rfl
    · rename_i cs he
      rw [he] at hr
      have hr0 := hr
      cases hr with | v _ _ hv0 =>
      cases hv0
      refine wp_val (s := pure _) ?_ (w' := w) rfl (fin _ _ h hr0)
      simp only [execOp, hev]
      rfl
    · exact h.elim
       
  · rename_i c x y a' b' d'
    simp only [Bool.and_eq_true] at hc
    obtain ⟨⟨h1, h2⟩, h3⟩ := hc
    have hcc := rep_O h1 A.env
    unfold evPk at h
    split at h
    · rename_i t he
      rw [he] at hcc
      cases t with
      | true => exact wp_val (s := pure _) (by simp only [execOp, repV_sc hcc]; rfl) (w' := w) rfl (fin _ _ (h.1 rfl) (rep_O h2 A.env))
      | false => exact wp_val (s := pure _) (by simp only [execOp, repV_sc hcc]; rfl) (w' := w) rfl (fin _ _ (h.2 rfl) (rep_O h3 A.env))
    · exact h.elim
       
  · rename_i z ps t qs
    simp only [Bool.and_eq_true] at hc
    obtain ⟨⟨h0, h1⟩, h2⟩ := hc
    split at h1
    · rename_i zs s b hz
      obtain ⟨zv, q1, q2⟩ := built_place hz h0
      obtain ⟨q3, q4⟩ := rep_Ps A.env h2
      obtain ⟨u, r, g1, g2, g3⟩ := snd_bd (P := X.P) (w := w) (ok := okOf R.w0 R.ok0 φ S.heap w) (φ := φ) (ln := lnOf S.heap) (place := placeOf X.P t) (ps := ps.map fun p => (p.1, p.2.1, evO S.env p.2.2)) (qs := qs.map fun q => (q.1, a.eval q.2)) ⟨zv, by rw [q1]; exact h1, q2⟩ (by simpa using q3) (fun i p q hp hq => q4 i p q hp (by simpa using hq)) h
      exact wp_val rfl (g1 w) (fin _ _ g3 g2)
    · cases h1
       
  · simp only [Bool.and_eq_true, decide_eq_true_eq, beq_iff_eq] at hc
    obtain ⟨⟨⟨rfl, h50⟩, h0⟩, h1⟩ := hc
    split at h1
    · rename_i zs s b hz
      obtain ⟨it, zv, q1, q2, rfl, q4, q5⟩ := zOf_spec hz
      obtain ⟨u, w', g1, g2⟩ := snd_al (P := X.P) h50 q1 q2 h1 h0 A.h h.1
      exact wp_val rfl g1 (new h.2 g2)
    · cases h1
       
  · simp only [Bool.and_eq_true, decide_eq_true_eq, beq_iff_eq] at hc
    obtain ⟨⟨rfl, h50⟩, h1⟩ := hc
    unfold evBx at h
    split at h
    · rename_i cs hcs
      obtain ⟨u, w', g1, g2⟩ := snd_bx (P := X.P) h50 A.h h.2.1 (rep_O h1 A.env) hcs h.1
      exact wp_val rfl g1 (new h.2.2 g2)
    · exact h.elim
       
  · rename_i ps t n qs
    simp only [Bool.and_eq_true, decide_eq_true_eq, beq_iff_eq] at hc
    obtain ⟨⟨⟨⟨⟨⟨⟨rfl, h1⟩, h50⟩, h2⟩, h3⟩, h4⟩, h5⟩, h6⟩ := hc
    split at h5
    · rename_i zs s b hz
      rw [beq_iff_eq] at h5
      subst h5
      obtain ⟨it, zv, q1, q2, q3, q4, q5⟩ := zOf_spec hz
      subst q4
      unfold evBsl at h
      split at h
      · rename_i rows hrows
        obtain ⟨q6, q7, q8⟩ := rep_Bs A.env h6
        obtain ⟨u, w', g1, g2⟩ := snd_bs (P := X.P) h50 (elOf_spec h4) q1 q2 h3 h2 A.h h.1 (vs := qs.toList.map fun q => a.eval q.2) (qs := qs.map fun q => (q.1, a.eval q.2)) (by simpa using q6) q7 (by simpa using h1) q8 hrows
        exact wp_val rfl g1 (new h.2 g2)
      · exact h.elim
    · cases h5
       
  · simp only [Bool.and_eq_true, decide_eq_true_eq, beq_iff_eq] at hc
    obtain ⟨⟨⟨⟨⟨⟨h50, h1⟩, h2⟩, h3⟩, h4⟩, h5⟩, h6⟩ := hc
    obtain ⟨it, zv, q1, q2, q3, q4, q5, q6, q7⟩ := rowEl_spec h2
    split at h4
    · rename_i zs s b hz
      obtain ⟨it', zv', p1, p2, p3, p4, p5⟩ := zOf_spec hz
      rw [q1] at p1
      cases p1
      rw [q2] at p2
      cases p2
      subst q4 q5 p3
      have hl := rep_O h5 A.env
      have hcc := rep_O h6 A.env
      unfold evMk at h
      split at h
      · rename_i kl L kc C e1 e2
        rw [e1] at hl
        rw [e2] at hcc
        obtain ⟨r1, r2, r3, r4, r5⟩ := h
        obtain ⟨u, w', g1, g2⟩ := snd_mk (P := X.P) (kl := kl) (kc := kc) h50 (elOf_spec h1) q1 q2 q6 q7 h4 h3 A.h r4 r1 r2 r3
        refine wp_val ?_ g1 (new r5 g2)
        simp only [execOp, repV_sc hl, repV_sc hcc]
      · exact h.elim
    · cases h4
        
  · rename_i c
    simp only [Bool.and_eq_true, decide_eq_true_eq] at hc
    obtain ⟨⟨⟨h1, h50⟩, h2⟩, h3⟩ := hc
    obtain ⟨it, zv, q1, q2, q3, q4, q5, q6, q7⟩ := rowEl_spec h2
    subst q4 q5
    split at h3
    · rename_i v b t t2 hargs htys
      simp only [Bool.and_eq_true, beq_iff_eq] at h3
      obtain ⟨⟨⟨h3, h4⟩, h5⟩, h6⟩ := h3
      obtain ⟨d2, p1, p2⟩ := notInt_spec h6
      unfold evAp0 at h
      split at h
      · rename_i sz' nr hcont
        obtain ⟨rfl, r1, r2, r3⟩ := h
        obtain ⟨u, w', g1, g2⟩ := snd_app0 (P := X.P) (ty := type) h50 (elOf_spec h5) p1 p2 q1 q2 q3 q6 A.h r2 (rep_O h4 A.env) hcont r1 q7
        have htys' : c.argTypes = #[t, t2] := by apply Array.ext'; simpa using htys
        unfold Oper.wp
        rw [show execOp a.eval ⟨dst, .call c, type, pos, after, guard⟩ = (do let d ← resolve a.eval c type; invoke d.target d.args) from rfl]
        rw [run_builtin h1 (args := [.slice none 0 0, a.eval b]) (by rw [hargs]; simp only [List.map_cons, List.map_nil, Act.eval, isNil_spec h3]) (s := Builtin.append_ #[t, t2] type #[.slice none 0 0, a.eval b]) (fun cs => by rw [htys']; rfl) g1]
        exact new r3 g2
      · exact h.elim
    · cases h3
       
  · rename_i c
    simp only [Bool.and_eq_true, decide_eq_true_eq] at hc
    obtain ⟨⟨h1, h2⟩, h3⟩ := hc
    obtain ⟨it, zv, q1, q2, q3, q4, q5, q6, q7⟩ := rowEl_spec h2
    subst q4 q5
    split at h3
    · rename_i b1 b t t2 hargs htys
      simp only [Bool.and_eq_true, beq_iff_eq] at h3
      obtain ⟨⟨⟨h3, h4⟩, h5⟩, h6⟩ := h3
      obtain ⟨d2, p1, p2⟩ := notInt_spec h6
      unfold evAp at h
      have hs := rep_O h3 A.env
      split at h
      · rename_i id lo n hev
        rw [hev] at hs
        split at h
        · rename_i e' sz' l hid
          split at h
          · rename_i sz2 nr hcont
            obtain ⟨h50, rfl, rfl, rfl, r1, r2⟩ := h
            obtain ⟨u, w', g1, g2⟩ := snd_app (P := X.P) (ty := type) h50 (elOf_spec h5) p1 p2 q1 q2 q3 q6 A.h hid hs (rep_O h4 A.env) hcont r1 q7
            have htys' : c.argTypes = #[t, t2] := by apply Array.ext'; simpa using htys
            unfold Oper.wp
            rw [show execOp a.eval ⟨dst, .call c, type, pos, after, guard⟩ = (do let d ← resolve a.eval c type; invoke d.target d.args) from rfl]
            rw [run_builtin h1 (args := [a.eval b1, a.eval b]) (by rw [hargs]; rfl) (s := Builtin.append_ #[t, t2] type #[a.eval b1, a.eval b]) (fun cs => by rw [htys']; rfl) g1]
            obtain ⟨φ', k1, k2⟩ := A.next g2
            exact hk _ _ φ' _ _ r2 k1 k2
          · exact h.elim
        · exact h.elim
      · exact h.elim
    · cases h3
       
  · rename_i ts x v t a1 a2
    replace h := h.2
    simp only [Bool.and_eq_true, beq_iff_eq] at hc
    obtain ⟨⟨h1, h2⟩, h3⟩ := hc
    obtain ⟨it, q3, rfl⟩ := szOf_spec h3
    obtain ⟨heap', w', g1, g2, g3⟩ := snd_st (P := X.P) q3 A.h (rep_O h1 A.env) (rep_O h2 A.env) h
    unfold Oper.wp
    have hrun : (execOp a.eval ⟨dst, .store t a1 a2, type, pos, after, guard⟩).run X.P w = .ok .skip w' := by
      simp only [execOp, Sem.run_bind, g1, Result.andThen_ok]
      rfl
    rw [hrun]
    obtain ⟨φ', k1, k2⟩ := upd_env A g2
    exact hk _ _ φ' _ _ g3 k1 k2
       
  · rename_i f args c
    rw [Bool.and_eq_true] at hc
    obtain ⟨h1, h2⟩ := hc
    obtain ⟨xs, r, e1, hfn, hK⟩ := h
    have hargs := rep_Os A.env h2
    rw [e1] at hargs
    unfold Oper.wp
    rw [show execOp a.eval ⟨dst, .call c, type, pos, after, guard⟩ = (do let d ← resolve a.eval c type; invoke d.target d.args) from rfl]
    rw [run_callee h1 rfl]
    refine (callp_call (S := S) (K := fun r => K r S) ⟨xs, r, e1, hfn, hK⟩ R φ a.tmps w _ A (e1 ▸ hargs)).mono ?_
    rintro e w' ⟨v, r, S', φ', rfl, ⟨hK, rfl⟩, A', hr⟩
    exact hk _ _ φ' _ _ hK A' hr
       
  · rename_i f nid e sz args c
    simp only [Bool.and_eq_true, decide_eq_true_eq] at hc
    obtain ⟨⟨h50, h1⟩, h2⟩ := hc
    obtain ⟨xs, rows, e1, hfn, h0, hK⟩ := h
    have hargs := rep_Os A.env h2
    rw [e1] at hargs
    unfold Oper.wp
    rw [show execOp a.eval ⟨dst, .call c, type, pos, after, guard⟩ = (do let d ← resolve a.eval c type; invoke d.target d.args) from rfl]
    rw [run_callee h1 rfl]
    refine (co_call (K := K) h50 hfn h0 hK R φ a.tmps w _ A hargs).mono ?_
    rintro e w' ⟨v, r, S', φ', rfl, hK', A', hr⟩
    exact hk r S' φ' v w' hK' A' hr
       
  · rename_i f args c
    rw [Bool.and_eq_true] at hc
    obtain ⟨h1, h2⟩ := hc
    obtain ⟨xs, r, e1, hfn, hfl, hK⟩ := h
    have hargs := rep_Os A.env h2
    unfold Oper.wp
    rw [show execOp a.eval ⟨dst, .call c, type, pos, after, guard⟩ = (do let d ← resolve a.eval c type; invoke d.target d.args) from rfl]
    rw [run_callee h1 rfl]
    obtain ⟨gw, ng⟩ := A.gw
    have hM : ∀ b, ¬ Mine noH φ b := fun b ⟨id, pl, h1, _⟩ => by cases h1
    have hH : HRep w (Mine noH φ) (fun b => b < w.heap.size) φ noH w :=
      ⟨fun id b hb => (by cases hb), fun id id' pl pl' h1 => (by cases h1), fun id pl h1 => (by cases h1), fun b hb _ => rfl, rfl, rfl, rfl, Nat.le_refl _, fun b hb => ⟨hb, hM b⟩⟩
    have hall : ∀ b, b < w.heap.size → okOf w (fun b => b < w.heap.size) φ noH w b := fun b hb => ⟨.inl hb, hb, fun id pl hs => by cases hs⟩
    obtain ⟨hxl, hxr⟩ := purL_rep A.h e1 hargs
    refine (hfn w (fun b => b < w.heap.size) φ (c.args.toList.map a.eval) gw ng hH (fun b hb => absurd hb (hM b)) (fun id h => by cases h) ⟨by simpa using hxl, fun i x u hx hu => ?_⟩).mono ?_
    · rw [List.getElem?_map, Option.map_eq_some_iff] at hx
      obtain ⟨y, hy, rfl⟩ := hx
      exact .v _ _ ((hxr i y u hy hu).mono fun b hb => ⟨hall b hb, rfl⟩)
    rintro e w' ⟨v, H1, r', φ', rfl, ⟨rfl, rfl⟩, hH', hr, _⟩
    have hold : ∀ b, b < w.heap.size → w'.heap[b]? = w.heap[b]? := fun b hb => hH'.old b hb (hM b)
    refine hk _ _ φ v w' hK (A.grew hold hH'.size hH'.os hH'.tape hH'.output) ?_
    cases hr with | v _ _ hr => exact .v _ _ (flat_rep hfl hr)
         
  · rename_i f args c
    rw [Bool.and_eq_true] at hc
    obtain ⟨h1, h2⟩ := hc
    unfold Oper.wp
    rw [show execOp a.eval ⟨dst, .call c, type, pos, after, guard⟩ = (do let d ← resolve a.eval c type; invoke d.target d.args) from rfl]
    rw [run_callee h1 rfl]
    refine (h R φ a.tmps w (c.args.toList.map a.eval) A (rep_Os A.env h2)).mono ?_
    rintro e w' ⟨v, r, S', φ', rfl, hK, A', hr⟩
    exact hk _ _ φ' _ _ hK A' hr
       
  · obtain ⟨u, r, g1, g2, g3⟩ := snd_G0 (o := ⟨dst, _, type, pos, after, guard⟩) A hc h
    unfold Oper.wp
    rw [g1]
    exact fin _ _ g3 g2
       
  · unfold chkG1 at hc
    split at hc
    · simp only [Bool.and_eq_true] at hc
      obtain ⟨⟨h1, h2⟩, h3⟩ := hc
      have hr := rep_Os A.env h3
      simp only [evG1] at h
      split at h
      · rename_i x' hxs
        rw [hxs] at hr
        obtain ⟨u, r, g1, g2, g3⟩ := snd_b2s A h1 h2 (hr.2 0 _ _ rfl rfl) h
        exact wp_val rfl g1 (fin _ _ g3 g2)
      · exact h.elim
    · rename_i c
      rw [Bool.and_eq_true] at hc
      obtain ⟨h1, h2⟩ := hc
      have hr := rep_Os A.env h2
      simp only [evG1] at h
      split at h
      · rename_i x' hxs
        rw [hxs] at hr
        obtain ⟨v, hv⟩ : ∃ v, c.args.toList.map a.eval = [v] := by
          have := hr.1
          match hh : c.args.toList.map a.eval, this with
          | [v], _ => exact ⟨v, rfl⟩
        rw [hv] at hr
        obtain ⟨u, r, g1, g2, g3⟩ := snd_usd (ts := c.argTypes) (ty := type) A (hr.2 0 _ _ rfl rfl) h
        unfold Oper.wp
        rw [show execOp a.eval ⟨dst, .call c, type, pos, after, guard⟩ = (do let d ← resolve a.eval c type; invoke d.target d.args) from rfl]
        rw [run_builtin h1 hv (s := Builtin.unsafeSliceData_ c.argTypes type #[v]) (fun cs => rfl) g1]
        exact fin _ _ g3 g2
      · exact h.elim
    · cases hc
       
  · unfold chkG5 at hc
    split at hc
    · rename_i c
      split at hc
      · rename_i y hy
        have hr := rep_Os A.env hc
        simp only [evG5] at h
        split at h
        · rename_i x as hxs
          rw [hxs] at hr
          obtain ⟨r1, r2⟩ := repAs_tail hr
          obtain ⟨f, args, fs, q1, q2, q3⟩ := cx_run (ty := type) A hy r1 r2 h
          unfold Oper.wp
          rw [show execOp a.eval ⟨dst, .call c, type, pos, after, guard⟩ = (do let d ← resolve a.eval c type; invoke d.target d.args) from rfl]
          rw [q1]
          refine (q2 R φ a.tmps w args A q3).mono ?_
          rintro e w' ⟨v, r, S', φ', rfl, hK, A', hr⟩
          exact hk _ _ φ' _ _ hK A' hr
        · exact h.elim
      · cases hc
    · rename_i nid e z subs t
      simp only [Bool.and_eq_true, decide_eq_true_eq, beq_iff_eq] at hc
      obtain ⟨⟨⟨rfl, h50⟩, h0⟩, h1⟩ := hc
      split at h1
      · rename_i zs s b hz
        rw [Bool.and_eq_true] at h1
        obtain ⟨it, zv, q1, q2, rfl, q4, q5⟩ := zOf_spec hz
        obtain ⟨k1, k2, k3⟩ := isKL_get h1.1
        have hrl : RepL w (okOf R.w0 R.ok0 φ S.heap w) φ (lnOf S.heap) (z.map .v) zv.cells.toList := ⟨by simp at k1 ⊢; omega, k2, fun j x u hx hu => by
          rw [List.getElem?_map, Option.map_eq_some_iff] at hx
          obtain ⟨y, hy, rfl⟩ := hx
          exact .v _ _ (isK_rep y u (k3 j y u hy hu))⟩
        obtain ⟨u, w', r, S', φ', g1, g2, g3, g4⟩ := snd_alo (X := X) h50 q1 q2 h0 A h1.2 (by simp) hrl h
        exact wp_val rfl g1 (hk r S' φ' u w' g2 g3 g4)
      · cases h1
    · rename_i c
      simp only [Bool.and_eq_true] at hc
      obtain ⟨⟨h1, h2⟩, h3⟩ := hc
      have hr := rep_Os A.env h2
      simp only [evG5] at h
      split at h
      · rename_i x' y' hxs
        rw [hxs] at hr
        split at h3
        · rename_i t it hts
          split at h3
          · rename_i e he
            rw [Bool.and_eq_true, beq_iff_eq, beq_iff_eq] at h3
            obtain ⟨rfl, h3⟩ := h3
            obtain ⟨v1, v2, hv⟩ : ∃ v1 v2, c.args.toList.map a.eval = [v1, v2] := by
              have := hr.1
              match hh : c.args.toList.map a.eval, this with
              | [v1, v2], _ => exact ⟨v1, v2, rfl⟩
            rw [hv] at hr
            have hts' : c.argTypes = #[t, it] := by apply Array.ext'; simpa using hts
            obtain ⟨u, w', r, S', φ', g1, g2, g3, g4⟩ := snd_ust (ty := type) (it := it) A he h3 (hr.2 0 _ _ rfl rfl) (hr.2 1 _ _ rfl rfl) h
            unfold Oper.wp
            rw [show execOp a.eval ⟨dst, .call c, type, pos, after, guard⟩ = (do let d ← resolve a.eval c type; invoke d.target d.args) from rfl]
            rw [run_builtin h1 hv (s := Builtin.unsafeString_ #[t, it] type #[v1, v2]) (fun cs => by rw [hts']; rfl) g1]
            exact hk r S' φ' u w' g2 g3 g4
          · cases h3
        · cases h3
      · exact h.elim
    · cases hc
        
  · rename_i x args c
    split at hc
    · rename_i y hy
      have hr := rep_Os A.env hc
      obtain ⟨r1, r2⟩ := repAs_tail (by simpa using hr : RepAs w _ φ _ (evO S.env x :: args.map (evO S.env)) (a.eval y :: c.args.toList.map a.eval))
      obtain ⟨f, as, fs, q1, q2, q3⟩ := cx_run (ty := type) A hy r1 r2 (cxp_cx h)
      unfold Oper.wp
      rw [show execOp a.eval ⟨dst, .call c, type, pos, after, guard⟩ = (do let d ← resolve a.eval c type; invoke d.target d.args) from rfl]
      rw [q1]
      refine (q2 R φ a.tmps w as A q3).mono ?_
      rintro e w' ⟨v, r, S', φ', rfl, ⟨hK, rfl⟩, A', hr⟩
      exact hk _ _ φ' _ _ hK A' hr
    · cases hc
  · cases hc
end
end Go.Proofs.YtmjkhbjfacfmcaaGreatDoor.VX
end
section
namespace Go.Proofs.YtmjkhbjfacfmcaaGreatDoor.VX
open Go Go.RowKit
set_option linter.unusedVariables false
set_option linter.unusedSimpArgs false
def I.cls : I → Nat
  | .mov _ | .bin .. | .beq .. | .un .. | .cv .. | .fd .. | .ix .. | .ixa .. | .sls .. | .ext .. | .len .. | .mm .. | .nc _ | .pk .. | .bd .. | .g0 .. => 0
  | .fa .. | .ia .. | .iaa .. | .ld .. | .slc .. | .g1 .. => 1
  | .nl .. | .al .. | .bx .. | .bs .. | .mk .. | .co .. => 2
  | .cp .. | .cxp .. => 3
  | .st .. => 4
  | .ap0 .. | .ap .. | .cb .. | .call .. | .g5 .. => 5
def evN (nid : Nat) (b : Blk) (r : E) (h : Heap) (K : E → Option (Nat × Blk) → Prop) : Prop := h nid = none ∧ K r (some (nid, b))
def evF (X : Ctx) (ρ : O → E) (h : Heap) (K : E → Option (Nat × Blk) → Prop) : I → Prop
  | .mov x => K (ρ x) none
  | .nl nid e sz => evN nid (.p e sz []) (.os nid 0 0) h K
  | .bin op x y => evBin op (ρ x) (ρ y) fun r => K r none
  | .beq neg x y => evBeq neg (ρ x) (ρ y) fun r => K r none
  | .un op x => evUn op (ρ x) fun r => K r none
  | .cv k x => evCv k (ρ x) fun r => K r none
  | .fa off x => evFa off (ρ x) h fun r => K r none
  | .fd off n ag x => evFd off n ag (ρ x) fun r => K r none
  | .ia sz x i => evIa sz (ρ x) (ρ i) h fun r => K r none
  | .iaa len sz x i => evIaa len sz (ρ x) (ρ i) h fun r => K r none
  | .ix x i => evIx (ρ x) (ρ i) fun r => K r none
  | .ixa len n ag x i => evIxa len n ag (ρ x) (ρ i) fun r => K r none
  | .ld n ag x => evLd n ag (ρ x) h fun r => K r none
  | .sls x lo hi => evSls (ρ x) (lo.map ρ) (hi.map ρ) fun r => K r none
  | .slc sz x lo hi mx => evSlc sz (ρ x) (lo.map ρ) (hi.map ρ) (mx.map ρ) h fun r => K r none
  | .ext x i => evExt (ρ x) i fun r => K r none
  | .len str x => evLen str (ρ x) fun r => K r none
  | .mm mx x y => evMm mx (ρ x) (ρ y) fun r => K r none
  | .nc x => evNc (ρ x) fun r => K r none
  | .pk c x y => evPk (ρ c) (ρ x) (ρ y) fun r => K r none
  | .bd z parts => evBd z (parts.map fun p => (p.1, p.2.1, ρ p.2.2)) fun r => K r none
  | .al nid e z => evN nid (.m e (z.map .v)) (.op nid 0 0) h K
  | .bx nid e x => match cellsE (ρ x) with
    | some cs => 0 < cs.length ∧ evN nid (.m e cs) (.op nid 0 0) h K
    | none => False
  | .bs nid e sz len parts => match rowsE sz (parts.map ρ) with
    | some rows => evN nid (.p e sz rows) (.os nid 0 len) h K
    | none => False
  | .mk nid e sz bytes z l c => match ρ l, ρ c with
    | .v (.sc (.int _ L)), .v (.sc (.int _ C)) => 0 ≤ L ∧ L ≤ C ∧ (bytes : Int) * C ≤ 281474976710656 ∧ evN nid (.p e sz (List.replicate L.toNat z)) (.os nid 0 L.toNat) h K
    | _, _ => False
  | .cp f args => evCallp X f (args.map ρ) fun r => K r none
  | .co f nid e sz args => ∃ xs rows, args.map ρ = xs.map .v ∧ FnO X f e sz xs rows ∧ evN nid (.p e sz rows) (.os nid 0 rows.length) h K
  | .g0 g xs => evG0 g (xs.map ρ) fun r => K r none
  | .g1 g xs => evG1 g (xs.map ρ) h fun r => K r none
  | .cxp x args => evCxp X (ρ x) (args.map ρ) fun r => K r none
  | _ => False
def St.addB (S : St) : Option (Nat × Blk) → St
  | none => S
  | some (nid, b) => ⟨S.env, upd S.heap nid (some b)⟩
theorem evI_evF {X : Ctx} {S : St} {K : E → St → Prop} {i : I} (hc : i.cls ≤ 3) : evI X S K i = evF X (evO S.env) S.heap (fun r nb => K r (S.addB nb)) i := by
  cases i <;> first | rfl | (simp [I.cls] at hc; done)
section
variable {X : Ctx} {ρ ρ' : O → E} {h h' : Heap} {K K' : E → Option (Nat × Blk) → Prop}
def Ang (T : (E → Prop) → Prop) : Prop := ∀ K : E → Prop, T K → ∃ r, T (fun e => e = r) ∧ K r
def Mono (T : (E → Prop) → Prop) : Prop := ∀ K K' : E → Prop, (∀ e, K e → K' e) → T K → T K'
theorem binK_ang {op : BinOp} {a b : Value} (K : Value → Prop) (h : binK op a b K) : ∃ r, binK op a b (fun e => e = r) ∧ K r := by
  unfold binK at h ⊢
  split at h
  · cases op <;> simp only at h ⊢ <;> first | exact ⟨_, ⟨h.1, rfl⟩, h.2⟩ | exact ⟨_, ⟨h.1, h.2.1, rfl⟩, h.2.2⟩
  · cases op <;> simp only at h ⊢ <;> first | exact h.elim | exact ⟨_, ⟨h.1, rfl⟩, h.2⟩ | exact ⟨_, rfl, h⟩
  · exact h.elim
theorem binK_mono {op : BinOp} {a b : Value} (K K' : Value → Prop) (hk : ∀ e, K e → K' e) (h : binK op a b K) : binK op a b K' := by
  obtain ⟨r, h1, h2⟩ := binK_ang K h
  unfold binK at h1 ⊢
  split at h1
  · cases op <;> simp only at h1 ⊢ <;> first | exact ⟨h1.1, by rw [h1.2]; exact hk _ h2⟩ | exact ⟨h1.1, h1.2.1, by rw [h1.2.2]; exact hk _ h2⟩
  · cases op <;> simp only at h1 ⊢ <;> first | exact h1.elim | exact ⟨h1.1, by rw [h1.2]; exact hk _ h2⟩ | (rw [h1]; exact hk _ h2)
  · exact h1.elim
theorem Ang.mono {T : (E → Prop) → Prop} (a : Ang T) (m : ∀ r (K : E → Prop), K r → T (fun e => e = r) → T K) : Mono T := fun K K' hk hT => by
  obtain ⟨r, h1, h2⟩ := a K hT
  exact m r K' (hk r h2) h1
theorem bin_ok (op : BinOp) (x y : E) : Ang (evBin op x y) ∧ Mono (evBin op x y) := by
  constructor
  · intro K hK
    unfold evBin at hK ⊢
    split at hK
    · obtain ⟨r, h1, h2⟩ := binK_ang _ hK
      exact ⟨_, binK_mono _ _ (fun e he => by rw [he]) h1, h2⟩
    · exact hK.elim
  · intro K K' hk hK
    unfold evBin at hK ⊢
    split at hK
    · exact binK_mono _ _ (fun e => hk _) hK
    · exact hK.elim
theorem beq_ok (neg : Bool) (x y : E) : Ang (evBeq neg x y) ∧ Mono (evBeq neg x y) := by
  constructor <;> intro K <;> unfold evBeq <;> split <;> intro hK
  · exact ⟨_, rfl, hK⟩
  · exact hK.elim
  · exact fun hk h => hk _ h
  · exact fun hk h => h
theorem un_ok (op : UnOp) (x : E) : Ang (evUn op x) ∧ Mono (evUn op x) := by
  constructor <;> intro K <;> unfold evUn <;> split <;> intro hK
  · exact ⟨_, rfl, hK⟩
  · exact ⟨_, rfl, hK⟩
  · exact ⟨_, rfl, hK⟩
  · exact hK.elim
  · exact fun hk h => hk _ h
  · exact fun hk h => hk _ h
  · exact fun hk h => hk _ h
  · exact fun hk h => h
theorem cv_ok (k : IntKind) (x : E) : Ang (evCv k x) ∧ Mono (evCv k x) := by
  constructor <;> intro K <;> unfold evCv <;> split <;> intro hK
  · exact ⟨_, rfl, hK⟩
  · exact hK.elim
  · exact fun hk h => hk _ h
  · exact fun hk h => h
theorem mm_ok (m : Bool) (x y : E) : Ang (evMm m x y) ∧ Mono (evMm m x y) := by
  constructor <;> intro K <;> unfold evMm <;> split <;> intro hK
  · exact ⟨_, ⟨hK.1, rfl⟩, hK.2⟩
  · exact hK.elim
  · exact fun hk h => ⟨h.1, hk _ h.2⟩
  · exact fun hk h => h
theorem nc_ok (x : E) : Ang (evNc x) ∧ Mono (evNc x) := by
  constructor <;> intro K <;> unfold evNc <;> split <;> intro hK
  · exact ⟨_, rfl, hK⟩
  · exact ⟨_, rfl, hK⟩
  · exact hK.elim
  · exact fun hk h => hk _ h
  · exact fun hk h => hk _ h
  · exact fun hk h => h
theorem pk_ok (c x y : E) : Ang (evPk c x y) ∧ Mono (evPk c x y) := by
  constructor <;> intro K <;> unfold evPk <;> split <;> intro hK
  · rename_i t
    cases t with
    | true => exact ⟨_, ⟨fun _ => rfl, fun h => by cases h⟩, hK.1 rfl⟩
    | false => exact ⟨_, ⟨fun h => by (cases h), fun _ => rfl⟩, hK.2 rfl⟩
  · exact hK.elim
  · exact fun hk h => ⟨fun t => hk _ (h.1 t), fun t => hk _ (h.2 t)⟩
  · exact fun hk h => h
theorem fa_ok (off : Nat) (x : E) (h : Heap) : Ang (evFa off x h) ∧ Mono (evFa off x h) := by
  constructor <;> intro K <;> unfold evFa <;> split <;> (try split) <;> intro hK
  · exact ⟨_, ⟨hK.1, rfl⟩, hK.2⟩
  · exact hK.elim
  · exact ⟨_, rfl, hK⟩
  · exact hK.elim
  · exact fun hk h => ⟨h.1, hk _ h.2⟩
  · exact fun hk h => h
  · exact fun hk h => hk _ h
  · exact fun hk h => h
theorem ia_ok (sz : Nat) (x i : E) (h : Heap) : Ang (evIa sz x i h) ∧ Mono (evIa sz x i h) := by
  constructor <;> intro K <;> unfold evIa <;> split <;> (try split) <;> (try split) <;> intro hK
  · exact ⟨_, ⟨hK.1, hK.2.1, hK.2.2.1, rfl⟩, hK.2.2.2⟩
  · exact hK.elim
  · obtain ⟨h1, h2, r, h3, h4⟩ := hK
    exact ⟨_, ⟨h1, h2, r, h3, rfl⟩, h4⟩
  · exact hK.elim
  · exact hK.elim
  · exact fun hk h => ⟨h.1, h.2.1, h.2.2.1, hk _ h.2.2.2⟩
  · exact fun hk h => h
  · exact fun hk h => ⟨h.1, h.2.1, h.2.2.imp fun r h => ⟨h.1, hk _ h.2⟩⟩
  · exact fun hk h => h
  · exact fun hk h => h
theorem iaa_ok (len sz : Nat) (x i : E) (h : Heap) : Ang (evIaa len sz x i h) ∧ Mono (evIaa len sz x i h) := by
  constructor <;> intro K <;> unfold evIaa <;> split <;> intro hK
  · obtain ⟨h1, h2, h3⟩ := hK
    obtain ⟨r, h4, h5⟩ := (fa_ok _ x h).1 K h3
    exact ⟨r, ⟨h1, h2, h4⟩, h5⟩
  · exact hK.elim
  · exact fun hk h' => ⟨h'.1, h'.2.1, (fa_ok _ x h).2 _ _ hk h'.2.2⟩
  · exact fun hk h => h
theorem fd_ok (off n : Nat) (ag : Bool) (x : E) : Ang (evFd off n ag x) ∧ Mono (evFd off n ag x) := by
  constructor <;> intro K <;> unfold evFd <;> (repeat' split) <;> intro hK <;>
    first | exact hK.elim | exact ⟨_, rfl, hK⟩ | exact fun hk h => h.elim | exact fun hk h => hk _ h
theorem ixa_ok (len n : Nat) (ag : Bool) (x i : E) : Ang (evIxa len n ag x i) ∧ Mono (evIxa len n ag x i) := by
  constructor <;> intro K <;> unfold evIxa <;> split <;> intro hK
  · obtain ⟨h1, h2, h3⟩ := hK
    obtain ⟨r, h4, h5⟩ := (fd_ok _ n ag x).1 K h3
    exact ⟨r, ⟨h1, h2, h4⟩, h5⟩
  · exact hK.elim
  · exact fun hk h' => ⟨h'.1, h'.2.1, (fd_ok _ n ag x).2 _ _ hk h'.2.2⟩
  · exact fun hk h => h
theorem ix_ok (x i : E) : Ang (evIx x i) ∧ Mono (evIx x i) := by
  constructor <;> intro K <;> unfold evIx <;> split <;> intro hK
  · exact ⟨_, ⟨hK.1, hK.2.1, rfl⟩, hK.2.2⟩
  · exact hK.elim
  · exact fun hk h => ⟨h.1, h.2.1, hk _ h.2.2⟩
  · exact fun hk h => h
theorem ext_ok (x : E) (i : Nat) : Ang (fun K => evExt x i K) ∧ Mono (fun K => evExt x i K) := by
  constructor <;> intro K <;> unfold evExt <;> (repeat' split) <;> intro hK <;>
    first | exact hK.elim | exact ⟨_, rfl, hK⟩ | exact fun hk h => h.elim | exact fun hk h => hk _ h
theorem len_ok (str : Bool) (x : E) : Ang (evLen str x) ∧ Mono (evLen str x) := by
  constructor <;> intro K <;> unfold evLen <;> (repeat' split) <;> intro hK <;>
    first | exact hK.elim | exact ⟨_, ⟨hK.1, rfl⟩, hK.2⟩ | exact fun hk h => h.elim | exact fun hk h => ⟨h.1, hk _ h.2⟩
theorem ld_ok (n : Nat) (ag : Bool) (x : E) (h : Heap) : Ang (evLd n ag x h) ∧ Mono (evLd n ag x h) := by
  constructor <;> intro K <;> unfold evLd <;> (repeat' split) <;> intro hK <;>
    first
    | exact hK.elim
    | exact ⟨_, rfl, hK⟩
    | (obtain ⟨h1, r, h2, h3⟩ := hK; exact ⟨_, ⟨h1, r, h2, rfl⟩, h3⟩)
    | (obtain ⟨r, c, h1, h2, h3⟩ := hK; exact ⟨_, ⟨r, c, h1, h2, rfl⟩, h3⟩)
    | exact ⟨_, ⟨hK.1, rfl⟩, hK.2⟩
    | exact fun hk h => h.elim
    | exact fun hk h => hk _ h
    | exact fun hk h => ⟨h.1, h.2.imp fun r h => ⟨h.1, hk _ h.2⟩⟩
    | exact fun hk h => h.imp fun r h => h.imp fun c h => ⟨h.1, h.2.1, hk _ h.2.2⟩
    | exact fun hk h => ⟨h.1, hk _ h.2⟩
theorem evB_imp {d : Int} {o : Option E} {K K' : Int → Prop} (hk : ∀ i, K i → K' i) (h : evB d o K) : evB d o K' := by
  unfold evB at h ⊢
  split at h
  · exact hk _ h
  · exact hk _ h
  · exact h.elim
theorem bs_ang {n : Int} {lo hi mx : Option E} (K : Nat → Nat → Prop) (h : evBs n lo hi mx K) : ∃ l m, evBs n lo hi mx (fun l' m' => l' = l ∧ m' = m) ∧ K l m := by
  unfold evBs at h ⊢
  have two : ∀ {d : Int} {o : Option E} {K : Int → Prop}, evB d o K → ∃ i, evB d o (fun j => j = i) ∧ K i := fun {d o K} h => by
    unfold evB at h ⊢
    split at h
    · exact ⟨_, rfl, h⟩
    · exact ⟨_, rfl, h⟩
    · exact h.elim
  obtain ⟨l, h1, h2⟩ := two h
  obtain ⟨m, h3, h4⟩ := two h2
  refine ⟨l.toNat, m.toNat, evB_imp (fun i hi => ?_) h1, h4.2.2.2.2.2⟩
  subst hi
  refine evB_imp (fun i hi => ?_) h3
  subst hi
  exact ⟨h4.1, h4.2.1, h4.2.2.1, h4.2.2.2.1, h4.2.2.2.2.1, rfl, rfl⟩
theorem bs_mono {n : Int} {lo hi mx : Option E} {K K' : Nat → Nat → Prop} (hk : ∀ l m, K l m → K' l m) (h : evBs n lo hi mx K) : evBs n lo hi mx K' :=
  evB_imp (fun l h => evB_imp (fun m h => ⟨h.1, h.2.1, h.2.2.1, h.2.2.2.1, h.2.2.2.2.1, hk _ _ h.2.2.2.2.2⟩) h) h
theorem sls_ok (x : E) (lo hi : Option E) : Ang (evSls x lo hi) ∧ Mono (evSls x lo hi) := by
  constructor <;> intro K <;> unfold evSls <;> split <;> intro hK
  · obtain ⟨l, m, h1, h2⟩ := bs_ang _ hK
    exact ⟨_, bs_mono (fun l' m' ⟨e1, e2⟩ => by rw [e1, e2]) h1, h2⟩
  · exact hK.elim
  · exact fun hk h => bs_mono (fun l m => hk _) h
  · exact fun hk h => h
theorem slc_ok (sz : Nat) (x : E) (lo hi mx : Option E) (h : Heap) : Ang (evSlc sz x lo hi mx h) ∧ Mono (evSlc sz x lo hi mx h) := by
  constructor <;> intro K <;> unfold evSlc <;> split <;> intro hK
  · obtain ⟨h0, hK⟩ := hK
    obtain ⟨l, m, h1, h2⟩ := bs_ang _ hK
    exact ⟨_, ⟨h0, bs_mono (fun l' m' ⟨e1, e2⟩ => by rw [e1, e2]) h1⟩, h2⟩
  · obtain ⟨h0, hK⟩ := hK
    obtain ⟨l, m, h1, h2⟩ := bs_ang _ hK
    exact ⟨_, ⟨h0, bs_mono (fun l' m' ⟨e1, e2⟩ => by rw [e1, e2]) h1⟩, h2⟩
  · exact hK.elim
  · exact fun hk h => ⟨h.1, bs_mono (fun l m => hk _) h.2⟩
  · exact fun hk h => ⟨h.1, bs_mono (fun l m => hk _) h.2⟩
  · exact fun hk h => h
theorem parts_ang : ∀ (ps : List (Nat × Nat × E)) (cs : List E) (K : List E → Prop), evParts cs ps K → ∃ r, evParts cs ps (fun e => e = r) ∧ K r
  | [], cs, K, h => ⟨cs, rfl, h⟩
  | (off, n, e) :: ps, cs, K, h => by
    unfold evParts at h ⊢
    split at h
    · obtain ⟨h1, h2, h3⟩ := h
      obtain ⟨r, h4, h5⟩ := parts_ang ps _ K h3
      exact ⟨r, ⟨h1, h2, h4⟩, h5⟩
    · exact h.elim
theorem parts_mono : ∀ (ps : List (Nat × Nat × E)) (cs : List E) (K K' : List E → Prop), (∀ l, K l → K' l) → evParts cs ps K → evParts cs ps K'
  | [], cs, K, K', hk, h => hk _ h
  | (off, n, e) :: ps, cs, K, K', hk, h => by
    unfold evParts at h ⊢
    split at h
    · exact ⟨h.1, h.2.1, parts_mono ps _ K K' hk h.2.2⟩
    · exact h.elim
theorem bd_ok (z : List V) (ps : List (Nat × Nat × E)) : Ang (evBd z ps) ∧ Mono (evBd z ps) := by
  constructor <;> intro K
  · intro h
    obtain ⟨r, h1, h2⟩ := parts_ang _ _ _ h
    exact ⟨_, parts_mono _ _ _ _ (fun l e => by rw [e]) h1, h2⟩
  · exact fun K' hk h => parts_mono _ _ _ _ (fun l => hk _) h
theorem peq_ok (neg : Bool) (x y : E) : Ang (evPeq neg x y) ∧ Mono (evPeq neg x y) := by
  constructor <;> intro K <;> unfold evPeq <;> (repeat' split) <;> intro hK <;>
    first | exact hK.elim | exact ⟨_, rfl, hK⟩ | exact ⟨_, ⟨hK.1, hK.2.1, hK.2.2.1, rfl⟩, hK.2.2.2⟩ | exact fun hk h => h.elim | exact fun hk h => hk _ h | exact fun hk h => ⟨h.1, h.2.1, h.2.2.1, hk _ h.2.2.2⟩
theorem ieq_ok (neg : Bool) (x y : E) : Ang (evIeq neg x y) ∧ Mono (evIeq neg x y) := by
  constructor <;> intro K <;> unfold evIeq <;> (repeat' split) <;> intro hK <;>
    first | exact hK.elim | exact ⟨_, rfl, hK⟩ | exact fun hk h => h.elim | exact fun hk h => hk _ h
theorem usd_ok (x : E) (h : Heap) : Ang (evUsd x h) ∧ Mono (evUsd x h) := by
  constructor <;> intro K <;> unfold evUsd <;> (repeat' split) <;> intro hK <;> first | exact hK.elim | exact ⟨_, ⟨hK.1, rfl⟩, hK.2⟩ | exact fun hk h => ⟨h.1, hk _ h.2⟩ | exact fun hk h => h
theorem none_ok : Ang (fun _ => False) ∧ Mono (fun _ => False) := ⟨fun _ h => h.elim, fun _ _ _ h => h⟩
theorem g0_ok (g : G0) (es : List E) : Ang (evG0 g es) ∧ Mono (evG0 g es) := by
  cases g with
  | mf f n => exact ⟨fun K h => ⟨_, rfl, h⟩, fun K K' hk h => hk _ h⟩
  | peq neg =>
    match es with
    | [x, y] => exact peq_ok neg x y
    | [] => exact none_ok
    | [_] => exact none_ok
    | _ :: _ :: _ :: _ => exact none_ok
  | ieq neg =>
    match es with
    | [x, y] => exact ieq_ok neg x y
    | [] => exact none_ok
    | [_] => exact none_ok
    | _ :: _ :: _ :: _ => exact none_ok
theorem b2s_ok (x : E) (h : Heap) : Ang (evB2s x h) ∧ Mono (evB2s x h) := by
  constructor <;> intro K <;> unfold evB2s <;> split <;> intro hK
  · obtain ⟨h1, s, h2, h3⟩ := hK
    exact ⟨_, ⟨h1, s, h2, rfl⟩, h3⟩
  · exact hK.elim
  · exact fun hk h => ⟨h.1, h.2.imp fun s h => ⟨h.1, hk _ h.2⟩⟩
  · exact fun hk h => h
theorem g1_ok (g : G1) (es : List E) (h : Heap) : Ang (evG1 g es h) ∧ Mono (evG1 g es h) := by
  cases g with
  | b2s =>
    match es with
    | [x] => exact b2s_ok x h
    | [] => exact none_ok
    | _ :: _ :: _ => exact none_ok
  | usd =>
    match es with
    | [x] => exact usd_ok x h
    | [] => exact none_ok
    | _ :: _ :: _ => exact none_ok
theorem callp_ok (X : Ctx) (f : Nat) (es : List E) : Ang (evCallp X f es) ∧ Mono (evCallp X f es) :=
  ⟨fun K ⟨xs, r, h1, h2, h3⟩ => ⟨_, ⟨xs, r, h1, h2, rfl⟩, h3⟩, fun K K' hk ⟨xs, r, h1, h2, h3⟩ => ⟨xs, r, h1, h2, hk _ h3⟩⟩
theorem cxp_ok (X : Ctx) (x : E) (es : List E) : Ang (evCxp X x es) ∧ Mono (evCxp X x es) := by
  constructor <;> intro K <;> unfold evCxp <;> (repeat' split) <;> intro hK
  · obtain ⟨r, h1, h2⟩ := (callp_ok X _ _).1 _ hK.2
    exact ⟨r, ⟨hK.1, h1⟩, h2⟩
  · obtain ⟨r, h1, h2⟩ := (callp_ok X _ _).1 _ hK.2.2.2
    exact ⟨r, ⟨hK.1, hK.2.1, hK.2.2.1, h1⟩, h2⟩
  · exact hK.elim
  · exact fun hk h => ⟨h.1, (callp_ok X _ _).2 _ _ hk h.2⟩
  · exact fun hk h => ⟨h.1, h.2.1, h.2.2.1, (callp_ok X _ _).2 _ _ hk h.2.2.2⟩
  · exact fun hk h => h
theorem lift_ok {T : (E → Prop) → Prop} (t : Ang T ∧ Mono T) (K : E → Option (Nat × Blk) → Prop) (h : T fun r => K r none) : ∃ r nb, (T fun r' => r' = r ∧ (none : Option (Nat × Blk)) = nb) ∧ K r nb := by
  obtain ⟨r, h1, h2⟩ := t.1 _ h
  exact ⟨r, none, t.2 _ _ (fun e he => ⟨he, rfl⟩) h1, h2⟩
theorem evN_ang {nid : Nat} {b : Blk} {r : E} {h : Heap} (K : E → Option (Nat × Blk) → Prop) (H : evN nid b r h K) : ∃ r' nb, evN nid b r h (fun x y => x = r' ∧ y = nb) ∧ K r' nb := ⟨_, _, ⟨H.1, rfl, rfl⟩, H.2⟩
theorem evF_ang {i : I} (H : evF X ρ h K i) : ∃ r nb, evF X ρ h (fun r' nb' => r' = r ∧ nb' = nb) i ∧ K r nb := by
  cases i <;> try exact H.elim
  case mov x => exact ⟨_, none, ⟨rfl, rfl⟩, H⟩
  case nl => exact evN_ang _ H
  case bin op x y => exact lift_ok (bin_ok op (ρ x) (ρ y)) K H
  case beq n x y => exact lift_ok (beq_ok n (ρ x) (ρ y)) K H
  case un op x => exact lift_ok (un_ok op (ρ x)) K H
  case cv k x => exact lift_ok (cv_ok k (ρ x)) K H
  case fa off x => exact lift_ok (fa_ok off (ρ x) h) K H
  case fd off n ag x => exact lift_ok (fd_ok off n ag (ρ x)) K H
  case ia sz x i => exact lift_ok (ia_ok sz (ρ x) (ρ i) h) K H
  case iaa len sz x i => exact lift_ok (iaa_ok len sz (ρ x) (ρ i) h) K H
  case ix x i => exact lift_ok (ix_ok (ρ x) (ρ i)) K H
  case ixa len n ag x i => exact lift_ok (ixa_ok len n ag (ρ x) (ρ i)) K H
  case ld n ag x => exact lift_ok (ld_ok n ag (ρ x) h) K H
  case sls x lo hi => exact lift_ok (sls_ok (ρ x) (lo.map ρ) (hi.map ρ)) K H
  case slc sz x lo hi mx => exact lift_ok (slc_ok sz (ρ x) (lo.map ρ) (hi.map ρ) (mx.map ρ) h) K H
  case ext x i => exact lift_ok (ext_ok (ρ x) i) K H
  case len s x => exact lift_ok (len_ok s (ρ x)) K H
  case mm m x y => exact lift_ok (mm_ok m (ρ x) (ρ y)) K H
  case nc x => exact lift_ok (nc_ok (ρ x)) K H
  case pk c x y => exact lift_ok (pk_ok (ρ c) (ρ x) (ρ y)) K H
  case bd z ps => exact lift_ok (bd_ok z (ps.map fun p : Nat × Nat × O => (p.1, p.2.1, ρ p.2.2))) K H
  case g0 g xs => exact lift_ok (g0_ok g (xs.map ρ)) K H
  case g1 g xs => exact lift_ok (g1_ok g (xs.map ρ) h) K H
  case cxp x args => exact lift_ok (cxp_ok X (ρ x) (args.map ρ)) K H
  case al => exact evN_ang _ H
  case bx nid e x =>
    unfold evF at H ⊢
    simp only at H ⊢
    split at H
    · obtain ⟨r, nb, h1, h2⟩ := evN_ang _ H.2; exact ⟨r, nb, ⟨H.1, h1⟩, h2⟩
    · exact H.elim
  case bs =>
    unfold evF at H ⊢
    simp only at H ⊢
    split at H
    · exact evN_ang _ H
    · exact H.elim
  case mk =>
    unfold evF at H ⊢
    simp only at H ⊢
    split at H
    · obtain ⟨h1, h2, h3, h4⟩ := H
      obtain ⟨r, nb, h5, h6⟩ := evN_ang _ h4
      exact ⟨r, nb, ⟨h1, h2, h3, h5⟩, h6⟩
    · exact H.elim
  case co f nid e sz args =>
    obtain ⟨xs, rows, h1, h2, h3⟩ := H
    obtain ⟨r, nb, h5, h6⟩ := evN_ang _ h3
    exact ⟨r, nb, ⟨xs, rows, h1, h2, h5⟩, h6⟩
  case cp f args =>
    obtain ⟨xs, r, h1, h2, h3⟩ := H
    exact ⟨_, none, ⟨xs, r, h1, h2, rfl, rfl⟩, h3⟩
theorem evF_mono {i : I} (hk : ∀ r nb, K r nb → K' r nb) (H : evF X ρ h K i) : evF X ρ h K' i := by
  cases i <;> try exact H.elim
  case mov x => exact hk _ _ H
  case nl => exact ⟨H.1, hk _ _ H.2⟩
  case bin op x y => exact (bin_ok op (ρ x) (ρ y)).2 _ _ (fun r => hk r none) H
  case beq n x y => exact (beq_ok n (ρ x) (ρ y)).2 _ _ (fun r => hk r none) H
  case un op x => exact (un_ok op (ρ x)).2 _ _ (fun r => hk r none) H
  case cv k x => exact (cv_ok k (ρ x)).2 _ _ (fun r => hk r none) H
  case fa off x => exact (fa_ok off (ρ x) h).2 _ _ (fun r => hk r none) H
  case fd off n ag x => exact (fd_ok off n ag (ρ x)).2 _ _ (fun r => hk r none) H
  case ia sz x i => exact (ia_ok sz (ρ x) (ρ i) h).2 _ _ (fun r => hk r none) H
  case iaa len sz x i => exact (iaa_ok len sz (ρ x) (ρ i) h).2 _ _ (fun r => hk r none) H
  case ix x i => exact (ix_ok (ρ x) (ρ i)).2 _ _ (fun r => hk r none) H
  case ixa len n ag x i => exact (ixa_ok len n ag (ρ x) (ρ i)).2 _ _ (fun r => hk r none) H
  case ld n ag x => exact (ld_ok n ag (ρ x) h).2 _ _ (fun r => hk r none) H
  case sls x lo hi => exact (sls_ok (ρ x) (lo.map ρ) (hi.map ρ)).2 _ _ (fun r => hk r none) H
  case slc sz x lo hi mx => exact (slc_ok sz (ρ x) (lo.map ρ) (hi.map ρ) (mx.map ρ) h).2 _ _ (fun r => hk r none) H
  case ext x i => exact (ext_ok (ρ x) i).2 _ _ (fun r => hk r none) H
  case len s x => exact (len_ok s (ρ x)).2 _ _ (fun r => hk r none) H
  case mm m x y => exact (mm_ok m (ρ x) (ρ y)).2 _ _ (fun r => hk r none) H
  case nc x => exact (nc_ok (ρ x)).2 _ _ (fun r => hk r none) H
  case pk c x y => exact (pk_ok (ρ c) (ρ x) (ρ y)).2 _ _ (fun r => hk r none) H
  case bd z ps => exact (bd_ok z (ps.map fun p : Nat × Nat × O => (p.1, p.2.1, ρ p.2.2))).2 _ _ (fun r => hk r none) H
  case g0 g xs => exact (g0_ok g (xs.map ρ)).2 _ _ (fun r => hk r none) H
  case g1 g xs => exact (g1_ok g (xs.map ρ) h).2 _ _ (fun r => hk r none) H
  case cxp x args => exact (cxp_ok X (ρ x) (args.map ρ)).2 _ _ (fun r => hk r none) H
  case al => exact ⟨H.1, hk _ _ H.2⟩
  case bx nid e x =>
    unfold evF at H ⊢
    simp only at H ⊢
    split at H
    · exact ⟨H.1, H.2.1, hk _ _ H.2.2⟩
    · exact H.elim
  case bs =>
    unfold evF at H ⊢
    simp only at H ⊢
    split at H
    · exact ⟨H.1, hk _ _ H.2⟩
    · exact H.elim
  case mk =>
    unfold evF at H ⊢
    simp only at H ⊢
    split at H
    · exact ⟨H.1, H.2.1, H.2.2.1, H.2.2.2.1, hk _ _ H.2.2.2.2⟩
    · exact H.elim
  case co f nid e sz args =>
    obtain ⟨xs, rows, h1, h2, h3⟩ := H
    exact ⟨xs, rows, h1, h2, h3.1, hk _ _ h3.2⟩
  case cp f args =>
    obtain ⟨xs, r, h1, h2, h3⟩ := H
    exact ⟨xs, r, h1, h2, hk _ _ h3⟩
end
end Go.Proofs.YtmjkhbjfacfmcaaGreatDoor.VX
end
section
namespace Go.Proofs.YtmjkhbjfacfmcaaGreatDoor.VX
open Go Go.RowKit
set_option linter.unusedVariables false
set_option linter.unusedSimpArgs false
def I.nid : I → Option Nat
  | .nl n _ _ | .al n _ _ | .bx n _ _ | .bs n _ _ _ _ | .mk n _ _ _ _ _ _ | .co _ n _ _ _ => some n
  | _ => none
def oTmps : List O → List Nat
  | [] => []
  | .t n :: l => n :: oTmps l
  | _ :: l => oTmps l
def IOp.looks (o : IOp) : List Nat := (match o.g with | some (t, _) => [t] | none => []) ++ oTmps o.i.os
def apartO (a b : IOp) : Bool :=
  (match a.d with | some d => !(b.looks).contains d && b.d != some d | none => true) && (match b.d with | some d => !(a.looks).contains d | none => true)
section
variable {X : Ctx} {ρ ρ' : O → E} {h h' : Heap} {K K' : E → Option (Nat × Blk) → Prop}
theorem evF_congr {i : I} (e : ∀ o ∈ i.os, ρ o = ρ' o) : evF X ρ h K i = evF X ρ' h K i := by
  have lm : ∀ l : List O, (∀ o ∈ l, ρ o = ρ' o) → l.map ρ = l.map ρ' := fun l hl => List.map_congr_left hl
  have om : ∀ o : Option O, (∀ x ∈ o.toList, ρ x = ρ' x) → o.map ρ = o.map ρ' := fun o ho => by
    cases o with
    | none => rfl
    | some x => simp only [Option.map_some]; rw [ho x (by simp)]
  cases i <;> simp only [I.os, List.mem_cons, List.not_mem_nil, or_false, forall_eq_or_imp, forall_eq, List.mem_append] at e <;> try rfl
  case sls x lo hi => simp only [evF]; rw [e.1, om lo fun x hx => e.2 x (.inl hx), om hi fun x hx => e.2 x (.inr hx)]
  case slc sz x lo hi mx => simp only [evF]; rw [e.1, om lo fun x hx => e.2 x (.inl (.inl hx)), om hi fun x hx => e.2 x (.inl (.inr hx)), om mx fun x hx => e.2 x (.inr hx)]
  case bd z ps =>
    simp only [evF]
    have : (ps.map fun p : Nat × Nat × O => (p.1, p.2.1, ρ p.2.2)) = ps.map fun p : Nat × Nat × O => (p.1, p.2.1, ρ' p.2.2) := List.map_congr_left fun p hp => by
      rw [e p.2.2 (List.mem_map.2 ⟨p, hp, rfl⟩)]
    rw [this]
  case bs nid e' sz len ps => simp only [evF]; rw [lm ps e]
  case cp f args => simp only [evF]; rw [lm args e]
  case co f nid e0 sz args => simp only [evF]; rw [lm args e]
  case g0 g xs => simp only [evF]; rw [lm xs e]
  case g1 g xs => simp only [evF]; rw [lm xs e]
  case cxp x args => simp only [evF]; rw [e.1, lm args e.2]
  all_goals (simp only [evF]; first | rw [e] | rw [e.1, e.2] | rw [e.1, e.2.1, e.2.2] | rfl)
theorem evF_nb {i : I} {r : E} {nb : Option (Nat × Blk)} (H : evF X ρ h (fun r' nb' => r' = r ∧ nb' = nb) i) : nb = none ∨ ∃ nid b, nb = some (nid, b) ∧ i.cls = 2 ∧ i.nid = some nid ∧ h nid = none := by
  have lift : ∀ {T : (E → Prop) → Prop}, Ang T ∧ Mono T → (T fun r' => r' = r ∧ none = nb) → nb = none := fun t hT => by
    obtain ⟨r', _, _, h2⟩ := t.1 _ hT
    exact h2.symm
  cases i <;> try exact H.elim
  case mov x => exact .inl H.2.symm
  case nl => exact .inr ⟨_, _, H.2.2.symm, rfl, rfl, H.1⟩
  case bin op x y => exact .inl (lift (bin_ok op (ρ x) (ρ y)) H)
  case beq n x y => exact .inl (lift (beq_ok n (ρ x) (ρ y)) H)
  case un op x => exact .inl (lift (un_ok op (ρ x)) H)
  case cv k x => exact .inl (lift (cv_ok k (ρ x)) H)
  case fa off x => exact .inl (lift (fa_ok off (ρ x) h) H)
  case fd off n ag x => exact .inl (lift (fd_ok off n ag (ρ x)) H)
  case ia sz x i => exact .inl (lift (ia_ok sz (ρ x) (ρ i) h) H)
  case iaa len sz x i => exact .inl (lift (iaa_ok len sz (ρ x) (ρ i) h) H)
  case ix x i => exact .inl (lift (ix_ok (ρ x) (ρ i)) H)
  case ixa len n ag x i => exact .inl (lift (ixa_ok len n ag (ρ x) (ρ i)) H)
  case ld n ag x => exact .inl (lift (ld_ok n ag (ρ x) h) H)
  case sls x lo hi => exact .inl (lift (sls_ok (ρ x) (lo.map ρ) (hi.map ρ)) H)
  case slc sz x lo hi mx => exact .inl (lift (slc_ok sz (ρ x) (lo.map ρ) (hi.map ρ) (mx.map ρ) h) H)
  case ext x i => exact .inl (lift (ext_ok (ρ x) i) H)
  case len s x => exact .inl (lift (len_ok s (ρ x)) H)
  case mm m x y => exact .inl (lift (mm_ok m (ρ x) (ρ y)) H)
  case nc x => exact .inl (lift (nc_ok (ρ x)) H)
  case pk c x y => exact .inl (lift (pk_ok (ρ c) (ρ x) (ρ y)) H)
  case bd z ps => exact .inl (lift (bd_ok z (ps.map fun p : Nat × Nat × O => (p.1, p.2.1, ρ p.2.2))) H)
  case g0 g xs => exact .inl (lift (g0_ok g (xs.map ρ)) H)
  case g1 g xs => exact .inl (lift (g1_ok g (xs.map ρ) h) H)
  case cxp x args => exact .inl (lift (cxp_ok X (ρ x) (args.map ρ)) H)
  case al => exact .inr ⟨_, _, H.2.2.symm, rfl, rfl, H.1⟩
  case bx nid e x =>
    unfold evF at H
    simp only at H
    split at H
    · exact .inr ⟨_, _, H.2.2.2.symm, rfl, rfl, H.2.1⟩
    · exact H.elim
  case bs =>
    unfold evF at H
    simp only at H
    split at H
    · exact .inr ⟨_, _, H.2.2.symm, rfl, rfl, H.1⟩
    · exact H.elim
  case mk =>
    unfold evF at H
    simp only at H
    split at H
    · exact .inr ⟨_, _, H.2.2.2.2.2.symm, rfl, rfl, H.2.2.2.1⟩
    · exact H.elim
  case co f nid e sz args =>
    obtain ⟨xs, rows, h1, h2, h3⟩ := H
    exact .inr ⟨_, _, h3.2.2.symm, rfl, rfl, h3.1⟩
  case cp f args =>
    obtain ⟨_, _, _, _, _, h3⟩ := H
    exact .inl h3.symm
theorem evF_03 {i : I} (hc : i.cls = 0 ∨ i.cls = 3) : evF X ρ h K i = evF X ρ h' K i := by
  cases i <;> first | rfl | (simp [I.cls] at hc; done)
theorem fa_heap {off : Nat} {x : E} {K : E → Prop} (e : ∀ id b, h id = some b → h' id = some b) (H : evFa off x h K) : evFa off x h' K := by
  unfold evFa at H ⊢
  split at H
  · split at H
    · rename_i b hb; simp only [e _ b hb]; exact H
    · exact H.elim
  · exact H
  · exact H.elim
theorem fa_ids {off : Nat} {x : E} {K : E → Prop} {p : Nat → Bool} (hx : x.ids p = true) (e : ∀ id, p id = true → h id = h' id) : evFa off x h K = evFa off x h' K := by
  unfold evFa
  split
  · rw [e _ hx]
  · rfl
  · rfl
theorem cont_heap {x : E} (e : ∀ id b, h id = some b → h' id = some b) {c : Nat × List (List V)} (H : contE h x = some c) : contE h' x = some c := by
  unfold contE at H ⊢
  split at H
  · exact H
  · split at H
    · rename_i e0 sz l hb; simp only [e _ _ hb]; exact H
    · cases H
  · cases H
theorem cont_ids {x : E} {p : Nat → Bool} (hx : x.ids p = true) (e : ∀ id, p id = true → h id = h' id) : contE h x = contE h' x := by
  unfold contE
  split
  · rfl
  · rw [e _ hx]
  · rfl
theorem b2s_heap {x : E} {K : E → Prop} (e : ∀ id b, h id = some b → h' id = some b) (H : evB2s x h K) : evB2s x h' K := by
  unfold evB2s at H ⊢
  split at H
  · rename_i sz rows hc; rw [cont_heap e hc]; exact H
  · exact H.elim
theorem b2s_ids {x : E} {K : E → Prop} {p : Nat → Bool} (hx : x.ids p = true) (e : ∀ id, p id = true → h id = h' id) : evB2s x h K = evB2s x h' K := by
  unfold evB2s
  rw [cont_ids hx e]
theorem g1_heap {g : G1} {es : List E} {K : E → Prop} (e : ∀ id b, h id = some b → h' id = some b) (H : evG1 g es h K) : evG1 g es h' K := by
  cases g with
  | b2s =>
    match es, H with
    | [x], H => exact b2s_heap e H
  | usd =>
    match es, H with
    | [x], H =>
      simp only [evG1, evUsd] at H ⊢
      split at H
      · split at H
        · rename_i hb; simp only [e _ _ hb]; exact H
        · exact H.elim
      · exact H.elim
theorem g1_ids {g : G1} {es : List E} {K : E → Prop} {p : Nat → Bool} (hx : ∀ x ∈ es, x.ids p = true) (e : ∀ id, p id = true → h id = h' id) (H : evG1 g es h K) : evG1 g es h' K := by
  cases g with
  | b2s =>
    match es, hx, H with
    | [x], hx, H =>
      show evB2s x h' K
      rw [← b2s_ids (hx x (by simp)) e]
      exact H
  | usd =>
    match es, hx, H with
    | [x], hx, H =>
      simp only [evG1, evUsd] at H ⊢
      split at H
      · rename_i id lo n
        rw [← e _ (hx _ (by simp) : (E.os id lo n).ids p = true)]
        exact H
      · exact H.elim
theorem evF_1 {i : I} (hc : i.cls = 1) (e : ∀ id b, h id = some b → h' id = some b) (H : evF X ρ h K i) : evF X ρ h' K i := by
  cases i <;> try (simp [I.cls] at hc; done)
  case fa off x => exact fa_heap (K := fun r => K r none) e H
  case g1 g xs => exact g1_heap (g := g) (K := fun r => K r none) e H
  case ia sz x i =>
    unfold evF evIa at H ⊢
    simp only at H ⊢
    split at H
    · split at H
      · split at H
        · rename_i b hb; simp only [e _ b hb]; exact H
        · exact H.elim
      · exact H
      · exact H.elim
    · exact H.elim
  case iaa len sz x i =>
    unfold evF evIaa at H ⊢
    simp only at H ⊢
    split at H
    · exact ⟨H.1, H.2.1, fa_heap e H.2.2⟩
    · exact H.elim
  case ld n ag x =>
    unfold evF evLd at H ⊢
    simp only at H ⊢
    split at H
    · split at H
      · rename_i e0 sz l hb; simp only [e _ _ hb]; exact H
      · rename_i e0 cs hb; simp only [e _ _ hb]; exact H
      · exact H.elim
    · exact H
    · exact H.elim
  case slc sz x lo hi mx =>
    unfold evF evSlc at H ⊢
    simp only at H ⊢
    split at H
    · obtain ⟨h1, h2⟩ := H
      split at h1
      · rename_i b hb; simp only [e _ b hb]; exact ⟨h1, h2⟩
      · exact h1.elim
    · exact H
    · exact H.elim
theorem nnC_get {nn : List Nat} {l : List O} (hn : nn ≠ []) (H : nnC nn ρ l) : ∀ o ∈ l, (ρ o).ids (fun i => !nn.contains i) = true := by
  unfold nnC at H
  split at H
  · exact absurd rfl hn
  · rename_i n ns
    clear hn
    induction l with
    | nil => intro o ho; cases ho
    | cons x l ih =>
      intro o ho
      rcases List.mem_cons.1 ho with rfl | ho
      · exact H.1
      · exact ih H.2 o ho
theorem evF_1' {i : I} (hc : i.cls = 1) {p : Nat → Bool} (hx : ∀ o ∈ i.os, (ρ o).ids p = true) (e : ∀ id, p id = true → h id = h' id) (H : evF X ρ h K i) : evF X ρ h' K i := by
  cases i <;> try (simp [I.cls] at hc; done)
  case g1 g xs =>
    refine g1_ids (g := g) (K := fun r => K r none) (fun y hy => ?_) e H
    obtain ⟨o, ho, rfl⟩ := List.mem_map.1 hy
    exact hx o ho
  case fa off x =>
    simp only [evF] at H ⊢
    rw [← fa_ids (hx x (by simp [I.os])) e]
    exact H
  case ia sz x i =>
    have h1 := hx x (by simp [I.os])
    unfold evF evIa at H ⊢
    simp only at H ⊢
    split at H
    · split at H
      · rename_i id lo n hxe
        rw [hxe] at h1
        rw [← e id h1]
        exact H
      · exact H
      · exact H.elim
    · exact H.elim
  case iaa len sz x i =>
    have h1 := hx x (by simp [I.os])
    unfold evF evIaa at H ⊢
    simp only at H ⊢
    split at H
    · exact ⟨H.1, H.2.1, by rw [← fa_ids h1 e]; exact H.2.2⟩
    · exact H.elim
  case ld n ag x =>
    have h1 := hx x (by simp [I.os])
    unfold evF evLd at H ⊢
    simp only at H ⊢
    split at H
    · rename_i id j f hxe
      rw [hxe] at h1
      rw [← e id h1]
      exact H
    · exact H
    · exact H.elim
  case slc sz x lo hi mx =>
    have h1 := hx x (by simp [I.os])
    unfold evF evSlc at H ⊢
    simp only at H ⊢
    split at H
    · rename_i id l0 n hxe
      rw [hxe] at h1
      rw [← e id h1]
      exact H
    · exact H
    · exact H.elim
theorem evN_heap {nid nid2 : Nat} {b b2 : Blk} {r : E} (hne : nid2 ≠ nid) : evN nid2 b2 r (upd h nid (some b)) K = evN nid2 b2 r h K := by
  unfold evN
  rw [upd_ne _ _ _ hne]
theorem evF_2 {i : I} (hc : i.cls = 2) {nid : Nat} {b : Blk} (hne : i.nid ≠ some nid) : evF X ρ (upd h nid (some b)) K i = evF X ρ h K i := by
  cases i <;> try (simp [I.cls] at hc; done)
  all_goals simp only [I.nid, ne_eq, Option.some.injEq] at hne
  case nl => exact evN_heap hne
  case al => exact evN_heap hne
  case bx n e x =>
    unfold evF
    simp only
    split
    · rw [evN_heap hne]
    · rfl
  case bs =>
    unfold evF
    simp only
    split
    · rw [evN_heap hne]
    · rfl
  case mk =>
    unfold evF
    simp only
    split
    · rw [evN_heap hne]
    · rfl
  case co f n e0 sz args => exact propext ⟨fun ⟨xs, rows, a, b', c⟩ => ⟨xs, rows, a, b', by rwa [evN_heap hne] at c⟩, fun ⟨xs, rows, a, b', c⟩ => ⟨xs, rows, a, b', by rwa [evN_heap hne]⟩⟩
theorem evF_2h {i : I} (hc : i.cls = 2) (e : ∀ nid, h nid = none → h' nid = none) (H : evF X ρ h K i) : evF X ρ h' K i := by
  cases i <;> try (simp [I.cls] at hc; done)
  case nl => exact ⟨e _ H.1, H.2⟩
  case al => exact ⟨e _ H.1, H.2⟩
  case bx n e0 x =>
    unfold evF at H ⊢
    simp only at H ⊢
    split at H
    · exact ⟨H.1, e _ H.2.1, H.2.2⟩
    · exact H.elim
  case bs =>
    unfold evF at H ⊢
    simp only at H ⊢
    split at H
    · exact ⟨e _ H.1, H.2⟩
    · exact H.elim
  case mk =>
    unfold evF at H ⊢
    simp only at H ⊢
    split at H
    · exact ⟨H.1, H.2.1, H.2.2.1, e _ H.2.2.2.1, H.2.2.2.2⟩
    · exact H.elim
  case co f n e0 sz args =>
    obtain ⟨xs, rows, h1, h2, h3⟩ := H
    exact ⟨xs, rows, h1, h2, e _ h3.1, h3.2⟩
def evG (X : Ctx) (o : IOp) (ρ : O → E) (h : Heap) (K : E → Option (Nat × Blk) → Prop) : Prop :=
  match o.g with
  | none => nnC o.nn ρ o.i.os ∧ evF X ρ h K o.i
  | some (t, want) => match ρ (.t t) with
    | .v (.sc (.bool b)) => if b = want then nnC o.nn ρ o.i.os ∧ evF X ρ h K o.i else K (.v (.tu [])) none
    | .v (.tu []) => K (.v (.tu [])) none
    | _ => False
theorem wpO_evG {o : IOp} {S : St} {K : St → Prop} (hc : o.i.cls ≤ 3) : wpO X o S K = evG X o (evO S.env) S.heap (fun r nb => K ((S.addB nb).put o.d r)) := by
  obtain ⟨d, g, nn, fz, i⟩ := o
  cases g with
  | none => simp only [wpO, evG]; rw [evI_evF hc]
  | some gt =>
    obtain ⟨t, want⟩ := gt
    simp only [wpO, evG]
    rw [evI_evF hc]
    rfl
theorem evG_ang {o : IOp} (H : evG X o ρ h K) : ∃ r nb, evG X o ρ h (fun r' nb' => r' = r ∧ nb' = nb) ∧ K r nb := by
  obtain ⟨d, g, nn, fz, i⟩ := o
  cases g with
  | none =>
    obtain ⟨r, nb, h1, h2⟩ := evF_ang H.2
    exact ⟨r, nb, ⟨H.1, h1⟩, h2⟩
  | some gt =>
    obtain ⟨t, want⟩ := gt
    simp only [evG] at H ⊢
    generalize ρ (.t t) = v at H ⊢
    split at H
    · split at H
      · rename_i hb
        obtain ⟨r, nb, h1, h2⟩ := evF_ang H.2
        exact ⟨r, nb, by simp only [hb, if_true]; exact ⟨H.1, h1⟩, h2⟩
      · rename_i hb
        exact ⟨.v (.tu []), none, by simp [hb], H⟩
    · exact ⟨_, _, ⟨rfl, rfl⟩, H⟩
    · exact H.elim
theorem evG_mono {o : IOp} (hk : ∀ r nb, K r nb → K' r nb) (H : evG X o ρ h K) : evG X o ρ h K' := by
  obtain ⟨d, g, nn, fz, i⟩ := o
  cases g with
  | none => exact ⟨H.1, evF_mono hk H.2⟩
  | some gt =>
    obtain ⟨t, want⟩ := gt
    simp only [evG] at H ⊢
    generalize ρ (.t t) = v at H ⊢
    split at H
    · split at H
      · rename_i hb
        simp only [hb, if_true]
        exact ⟨H.1, evF_mono hk H.2⟩
      · rename_i hb
        simp only [hb, if_false]
        exact hk _ _ H
    · exact hk _ _ H
    · exact H.elim
theorem nnOk_congr {nn : List Nat} : ∀ {l : List O}, (∀ o ∈ l, ρ o = ρ' o) → nnOk nn ρ l = nnOk nn ρ' l
  | [], _ => rfl
  | x :: l, e => by
    simp only [nnOk]
    rw [e x (by simp), nnOk_congr fun o ho => e o (by simp [ho])]
theorem nnC_congr {nn : List Nat} {l : List O} (e : ∀ o ∈ l, ρ o = ρ' o) : nnC nn ρ l = nnC nn ρ' l := by
  cases nn with
  | nil => rfl
  | cons n ns => exact nnOk_congr e
def agree (o : IOp) (ρ ρ' : O → E) : Prop := (∀ x ∈ o.i.os, ρ x = ρ' x) ∧ ∀ t w, o.g = some (t, w) → ρ (.t t) = ρ' (.t t)
theorem evG_congr {o : IOp} (e : agree o ρ ρ') : evG X o ρ h K = evG X o ρ' h K := by
  obtain ⟨d, g, nn, fz, i⟩ := o
  cases g with
  | none => simp only [evG]; rw [evF_congr e.1, nnC_congr e.1]
  | some gt =>
    obtain ⟨t, want⟩ := gt
    simp only [evG]
    rw [evF_congr e.1, nnC_congr e.1, e.2 t want rfl]
theorem mem_oTmps : ∀ {l : List O} {n : Nat}, O.t n ∈ l → n ∈ oTmps l
  | .t m :: l, n, h => by
    rcases List.mem_cons.1 h with h | h
    · cases h; exact List.mem_cons_self
    · exact List.mem_cons_of_mem _ (mem_oTmps h)
  | .k x :: l, n, h => by
    rcases List.mem_cons.1 h with h | h
    · cases h
    · exact mem_oTmps (l := l) h
  | .f x :: l, n, h => by
    rcases List.mem_cons.1 h with h | h
    · cases h
    · exact mem_oTmps (l := l) h
def putE (env : Env) (d : Option Nat) (r : E) : Env := match d with | some t => upd env t r | none => env
theorem agree_put {o : IOp} {env : Env} {d : Option Nat} {r : E} (hd : ∀ t, d = some t → t ∉ o.looks) : agree o (evO (putE env d r)) (evO env) := by
  cases d with
  | none => exact ⟨fun _ _ => rfl, fun _ _ _ => rfl⟩
  | some t =>
    have ht := hd t rfl
    unfold IOp.looks at ht
    rw [List.mem_append, not_or] at ht
    refine ⟨fun x hx => ?_, fun t' w hg => ?_⟩
    · cases x with
      | t n => exact upd_ne _ _ _ fun he => ht.2 (by rw [← he]; exact mem_oTmps hx)
      | k => rfl
      | f => rfl
    · rw [hg] at ht
      exact upd_ne _ _ _ fun he => ht.1 (by simp [he])
theorem evG_nb {o : IOp} {r : E} {nb : Option (Nat × Blk)} (H : evG X o ρ h (fun r' nb' => r' = r ∧ nb' = nb)) : nb = none ∨ ∃ nid b, nb = some (nid, b) ∧ o.i.cls = 2 ∧ o.i.nid = some nid ∧ h nid = none := by
  obtain ⟨d, g, nn, fz, i⟩ := o
  cases g with
  | none => exact evF_nb H.2
  | some gt =>
    obtain ⟨t, want⟩ := gt
    simp only [evG] at H
    split at H
    · split at H
      · exact evF_nb H.2
      · exact .inl H.2.symm
    · exact .inl H.2.symm
    · exact H.elim
theorem evG_heap {o : IOp} (e : nnC o.nn ρ o.i.os → evF X ρ h K o.i → evF X ρ h' K o.i) (H : evG X o ρ h K) : evG X o ρ h' K := by
  obtain ⟨d, g, nn, fz, i⟩ := o
  cases g with
  | none => exact ⟨H.1, e H.1 H.2⟩
  | some gt =>
    obtain ⟨t, want⟩ := gt
    simp only [evG] at H ⊢
    generalize ρ (.t t) = v at H ⊢
    split at H
    · split at H
      · rename_i hb
        simp only [hb, if_true]
        exact ⟨H.1, e H.1 H.2⟩
      · rename_i hb
        simp only [hb, if_false]
        exact H
    · exact H
    · exact H.elim
def heapB (h : Heap) : Option (Nat × Blk) → Heap
  | none => h
  | some (nid, b) => upd h nid (some b)
theorem addB_eq (S : St) (nb : Option (Nat × Blk)) : S.addB nb = ⟨S.env, heapB S.heap nb⟩ := by cases nb <;> rfl
theorem cls_cases {i : I} (h : i.cls ≤ 3) : (i.cls = 0 ∨ i.cls = 3) ∨ i.cls = 1 ∨ i.cls = 2 := by omega
theorem put_env (S : St) (d : Option Nat) (r : E) : (S.put d r).env = putE S.env d r := by cases d <;> rfl
theorem put_heap (S : St) (d : Option Nat) (r : E) : (S.put d r).heap = S.heap := by cases d <;> rfl
theorem swap3 {a b : IOp} {S : St} {K : St → Prop} (c1 : a.i.cls ≤ 3) (c2 : b.i.cls ≤ 3) (c3 : a.i.cls = 2 → b.i.cls = 1 → ∃ n, a.i.nid = some n ∧ n ∈ b.nn) (c4 : a.i.cls = 2 → b.i.cls = 2 → a.i.nid ≠ b.i.nid)
    (d1 : ∀ t, a.d = some t → t ∉ b.looks) (d2 : ∀ t, a.d = some t → b.d ≠ some t) (d3 : ∀ t, b.d = some t → t ∉ a.looks) (H : wpO X a S fun S1 => wpO X b S1 K) : wpO X b S fun S1 => wpO X a S1 K := by
  rw [wpO_evG c1] at H
  obtain ⟨r1, nb1, h1, h2⟩ := evG_ang H
  rw [wpO_evG c2] at h2
  obtain ⟨r2, nb2, h3, h4⟩ := evG_ang h2
  have e1 := evG_nb h1
  have henv1 : ∀ nb r, ((S.addB nb).put a.d r).env = putE S.env a.d r := fun nb r => by
    rw [addB_eq, put_env]
  have henv2 : ∀ nb r, ((S.addB nb).put b.d r).env = putE S.env b.d r := fun nb r => by
    rw [addB_eq, put_env]
  have hheap : ∀ nb d r, ((S.addB nb).put d r).heap = heapB S.heap nb := fun nb d r => by
    rw [addB_eq, put_heap]
  rw [henv1, hheap] at h3
  rw [evG_congr (agree_put d1)] at h3
  have h3' : evG X b (evO S.env) S.heap (fun r' nb' => r' = r2 ∧ nb' = nb2) := by
    refine evG_heap (fun hn hf => ?_) h3
    rcases cls_cases c2 with hc | hc | hc
    · rw [evF_03 (h' := heapB S.heap nb1) hc]; exact hf
    · rcases e1 with rfl | ⟨nid, blk, rfl, g1, g2, g3⟩
      · exact hf
      · obtain ⟨n, q1, q2⟩ := c3 g1 hc
        rw [g2] at q1
        cases q1
        refine evF_1' hc (nnC_get (fun he => by rw [he] at q2; cases q2) hn) (fun id hid => ?_) hf
        refine upd_ne _ _ _ fun he => ?_
        subst he
        simp [q2] at hid
    · rcases e1 with rfl | ⟨nid, blk, rfl, g1, g2, g3⟩
      · exact hf
      · have hne := c4 g1 hc
        rw [g2] at hne
        simp only [heapB] at hf
        rw [evF_2 hc (Ne.symm hne)] at hf
        exact hf
  have e2 := evG_nb h3'
  rw [wpO_evG c2]
  refine evG_mono (fun r nb ⟨x, y⟩ => ?_) h3'
  subst x y
  rw [wpO_evG c1, henv2, hheap, evG_congr (agree_put d3)]
  have h1' : evG X a (evO S.env) (heapB S.heap nb) (fun r' nb' => r' = r1 ∧ nb' = nb1) := by
    refine evG_heap (fun hn hf => ?_) h1
    rcases cls_cases c1 with hc | hc | hc
    · rw [evF_03 (h' := S.heap) hc]; exact hf
    · rcases e2 with rfl | ⟨nid, blk, rfl, g1, g2, g3⟩
      · exact hf
      · exact evF_1 hc (fun id b hb => by rw [heapB, upd_ne _ _ _ (fun he => by rw [he, g3] at hb; cases hb)]; exact hb) hf
    · rcases e2 with rfl | ⟨nid, blk, rfl, g1, g2, g3⟩
      · exact hf
      · have hne := c4 hc g1
        rw [g2] at hne
        simp only [heapB]
        rw [evF_2 hc hne]
        exact hf
  refine evG_mono (fun r' nb' ⟨x, y⟩ => ?_) h1'
  subst x y
  have hst : ((((S.addB nb).put b.d r).addB nb').put a.d r') = (((S.addB nb').put a.d r').addB nb).put b.d r := by
    have hh : heapB (heapB S.heap nb) nb' = heapB (heapB S.heap nb') nb := by
      rcases e1 with rfl | ⟨n1, b1, rfl, g1, g2, g3⟩
      · rfl
      · rcases e2 with rfl | ⟨n2, b2, rfl, g4, g5, g6⟩
        · rfl
        · have hne := c4 g1 g4
          rw [g2, g5] at hne
          exact upd_comm _ _ _ (fun he => hne (by rw [he]))
    simp only [addB_eq]
    cases ha : a.d with
    | none => cases hb : b.d <;> simp only [St.put, hh]
    | some ta =>
      cases hb : b.d with
      | none => simp only [St.put, hh]
      | some tb =>
        have : ta ≠ tb := fun he => d2 ta ha (by rw [hb, he])
        simp only [St.put, hh, upd_comm S.env r r' this.symm]
  rw [hst]
  exact h4
end
end Go.Proofs.YtmjkhbjfacfmcaaGreatDoor.VX
end
section
namespace Go.Proofs.YtmjkhbjfacfmcaaGreatDoor.VX
open Go Go.RowKit
set_option linter.unusedVariables false
set_option linter.unusedSimpArgs false
section
variable {X : Ctx} {ρ ρ' : O → E} {h h' : Heap}
theorem st_ang {n : Nat} {x v : E} (K : Heap → Prop) (H : evSt n x v h K) : ∃ h', evSt n x v h (fun g => g = h') ∧ K h' := by
  unfold evSt at H ⊢
  split at H
  · split at H
    · split at H
      · split at H
        · exact ⟨_, ⟨H.1, by rename_i hb; simp only [hb, if_true]; exact ⟨H.2.1, trivial⟩⟩, H.2.2⟩
        · rename_i hb
          obtain ⟨h1, h2, r, h3, h4⟩ := H
          exact ⟨_, ⟨h1, by simp only [hb, if_false]; exact ⟨h2, r, h3, rfl⟩⟩, h4⟩
      · exact H.elim
    · split at H
      · exact ⟨_, ⟨H.1, H.2.1, rfl⟩, H.2.2⟩
      · exact H.elim
    · exact H.elim
  · exact H.elim
theorem st_mono {n : Nat} {x v : E} {K K' : Heap → Prop} (hk : ∀ g, K g → K' g) (H : evSt n x v h K) : evSt n x v h K' := by
  unfold evSt at H ⊢
  split at H
  · split at H
    · split at H
      · split at H
        · exact ⟨H.1, by rename_i hb; simp only [hb, if_true]; exact ⟨H.2.1, hk _ H.2.2⟩⟩
        · rename_i hb
          obtain ⟨h1, h2, r, h3, h4⟩ := H
          exact ⟨h1, by simp only [hb, if_false]; exact ⟨h2, r, h3, hk _ h4⟩⟩
      · exact H.elim
    · split at H
      · exact ⟨H.1, H.2.1, hk _ H.2.2⟩
      · exact H.elim
    · exact H.elim
  · exact H.elim
def evGs (o : IOp) (n : Nat) (ts : List Nat) (x v : O) (ρ : O → E) (h : Heap) (K : Option Heap → Prop) : Prop :=
  match o.g with
  | none => nnC o.nn ρ [x, v] ∧ tgt ts (ρ x) ∧ evSt n (ρ x) (ρ v) h fun g => K (some g)
  | some (t, want) => match ρ (.t t) with
    | .v (.sc (.bool b)) => if b = want then nnC o.nn ρ [x, v] ∧ tgt ts (ρ x) ∧ evSt n (ρ x) (ρ v) h fun g => K (some g) else K none
    | .v (.tu []) => K none
    | _ => False
def St.setH (S : St) : Option Heap → St
  | none => S
  | some g => ⟨S.env, g⟩
theorem wpO_evGs {o : IOp} {n : Nat} {ts : List Nat} {x v : O} {S : St} {K : St → Prop} (hi : o.i = .st n ts x v) : wpO X o S K = evGs o n ts x v (evO S.env) S.heap (fun oh => K ((S.setH oh).put o.d (.v (.tu [])))) := by
  obtain ⟨d, g, nn, fz, i⟩ := o
  simp only at hi
  subst hi
  cases g with
  | none => rfl
  | some gt => rfl
theorem evGs_ang {o : IOp} {n : Nat} {ts : List Nat} {x v : O} {K : Option Heap → Prop} (H : evGs o n ts x v ρ h K) : ∃ oh, evGs o n ts x v ρ h (fun g => g = oh) ∧ K oh := by
  obtain ⟨d, g, nn, fz, i⟩ := o
  cases g with
  | none =>
    obtain ⟨g, h1, h2⟩ := st_ang _ H.2.2
    exact ⟨some g, ⟨H.1, H.2.1, st_mono (fun q hq => by rw [hq]) h1⟩, h2⟩
  | some gt =>
    obtain ⟨t, want⟩ := gt
    simp only [evGs] at H ⊢
    generalize ρ (.t t) = v at H ⊢
    split at H
    · split at H
      · rename_i hb
        obtain ⟨g, h1, h2⟩ := st_ang _ H.2.2
        exact ⟨some g, by simp only [hb, if_true]; exact ⟨H.1, H.2.1, st_mono (fun q hq => by rw [hq]) h1⟩, h2⟩
      · rename_i hb
        exact ⟨none, by simp [hb], H⟩
    · exact ⟨_, rfl, H⟩
    · exact H.elim
theorem evGs_mono {o : IOp} {n : Nat} {ts : List Nat} {x v : O} {K K' : Option Heap → Prop} (hk : ∀ g, K g → K' g) (H : evGs o n ts x v ρ h K) : evGs o n ts x v ρ h K' := by
  obtain ⟨d, g, nn, fz, i⟩ := o
  cases g with
  | none => exact ⟨H.1, H.2.1, st_mono (fun q hq => hk _ hq) H.2.2⟩
  | some gt =>
    obtain ⟨t, want⟩ := gt
    simp only [evGs] at H ⊢
    generalize ρ (.t t) = v at H ⊢
    split at H
    · split at H
      · rename_i hb
        simp only [hb, if_true]
        exact ⟨H.1, H.2.1, st_mono (fun q hq => hk _ hq) H.2.2⟩
      · rename_i hb
        simp only [hb, if_false]
        exact hk _ H
    · exact hk _ H
    · exact H.elim
theorem evGs_congr {o : IOp} {n : Nat} {ts : List Nat} {x v : O} {K : Option Heap → Prop} (hi : o.i = .st n ts x v) (e : agree o ρ ρ') : evGs o n ts x v ρ h K = evGs o n ts x v ρ' h K := by
  obtain ⟨d, g, nn, fz, i⟩ := o
  simp only at hi
  subst hi
  have e1 : ∀ y ∈ [x, v], ρ y = ρ' y := e.1
  have ex := e1 x (by simp)
  have ev := e1 v (by simp)
  cases g with
  | none => simp only [evGs]; rw [nnC_congr e1, ex, ev]
  | some gt =>
    obtain ⟨t, want⟩ := gt
    simp only [evGs]
    rw [nnC_congr e1, ex, ev, e.2 t want rfl]
theorem setH_env (S : St) (oh : Option Heap) : (S.setH oh).env = S.env := by cases oh <;> rfl
theorem put_setH_comm (S : St) {a b : Option Nat} {r q : E} (oh : Option Heap) (d2 : ∀ t, a = some t → b ≠ some t) : ((S.setH oh).put b q).put a r = ((S.put a r).setH oh).put b q := by
  cases a with
  | none => cases b <;> cases oh <;> rfl
  | some ta =>
    cases b with
    | none => cases oh <;> rfl
    | some tb =>
      have hne : ta ≠ tb := fun he => d2 ta rfl (by rw [he])
      cases oh <;> simp only [St.put, St.setH, upd_comm S.env _ _ hne.symm]
theorem evGs_dom {o : IOp} {n : Nat} {ts : List Nat} {x v : O} {oh : Option Heap} (H : evGs o n ts x v ρ h (fun g => g = oh)) :
    oh = none ∨ ∃ id b b', h id = some b ∧ oh = some (upd h id (some b')) ∧ (ts = [] ∨ ts.contains id = true) := by
  have key : tgt ts (ρ x) → evSt n (ρ x) (ρ v) h (fun g => some g = oh) → ∃ id b b', h id = some b ∧ oh = some (upd h id (some b')) ∧ (ts = [] ∨ ts.contains id = true) := fun ht H => by
    have ht' : ∀ id j f, ρ x = .op id j f → ts = [] ∨ ts.contains id = true := fun id j f hx => by
      unfold tgt at ht
      split at ht
      · exact .inl rfl
      · rw [hx] at ht; exact .inr ht
    unfold evSt at H
    split at H
    · rename_i id j f hx
      split at H
      · rename_i e sz l hb
        split at H
        · split at H
          · exact ⟨id, _, _, hb, H.2.2.symm, ht' _ _ _ hx⟩
          · obtain ⟨_, _, r, _, h4⟩ := H
            exact ⟨id, _, _, hb, h4.symm, ht' _ _ _ hx⟩
        · exact H.elim
      · rename_i e cs hb
        split at H
        · exact ⟨id, _, _, hb, H.2.2.symm, ht' _ _ _ hx⟩
        · exact H.elim
      · exact H.elim
    · exact H.elim
  obtain ⟨d, g, nn, fz, i⟩ := o
  cases g with
  | none => exact .inr (key H.2.1 H.2.2)
  | some gt =>
    obtain ⟨t, want⟩ := gt
    simp only [evGs] at H
    generalize ρ (.t t) = v at H
    split at H
    · split at H
      · exact .inr (key H.2.1 H.2.2)
      · exact .inl H.symm
    · exact .inl H.symm
    · exact H.elim
theorem evSt_upd {n : Nat} {ts : List Nat} {x v : E} {nid : Nat} {b : Blk} {K : Heap → Prop} (ht : tgt ts x) (h0 : ts ≠ []) (hn : ts.contains nid = false) (H : evSt n x v (upd h nid (some b)) K) : evSt n x v h (fun g => K (upd g nid (some b))) := by
  have hne : ∀ id j f, x = .op id j f → id ≠ nid := fun id j f hx he => by
    unfold tgt at ht
    split at ht
    · exact h0 rfl
    · subst he; rw [hx] at ht; simp only at ht; rw [ht] at hn; cases hn
  unfold evSt at H ⊢
  split at H
  · rename_i id j f
    have hne := hne _ _ _ rfl
    rw [upd_ne _ _ _ hne] at H
    split at H
    · split at H
      · split at H
        · rename_i hb; exact ⟨H.1, by rw [if_pos hb]; exact ⟨H.2.1, by show K (upd (upd _ _ _) _ _); rw [upd_comm _ _ _ hne]; exact H.2.2⟩⟩
        · rename_i hb; obtain ⟨g1, g2, r, g3, g4⟩ := H; exact ⟨g1, by rw [if_neg hb]; exact ⟨g2, r, g3, by show K (upd (upd _ _ _) _ _); rw [upd_comm _ _ _ hne]; exact g4⟩⟩
      · exact H.elim
    · split at H
      · exact ⟨H.1, H.2.1, by show K (upd (upd _ _ _) _ _); rw [upd_comm _ _ _ hne]; exact H.2.2⟩
      · exact H.elim
    · exact H.elim
  · exact H.elim
theorem evGs_upd {o : IOp} {n : Nat} {ts : List Nat} {x v : O} {nid : Nat} {b : Blk} {K : Option Heap → Prop} (h0 : ts ≠ []) (hn : ts.contains nid = false) (H : evGs o n ts x v ρ (upd h nid (some b)) K) : evGs o n ts x v ρ h (fun oh => K (oh.map fun g => upd g nid (some b))) := by
  obtain ⟨d, g, nn, fz, i⟩ := o
  cases g with
  | none => exact ⟨H.1, H.2.1, evSt_upd H.2.1 h0 hn H.2.2⟩
  | some gt =>
    obtain ⟨t, want⟩ := gt
    simp only [evGs] at H ⊢
    generalize ρ (.t t) = v at H ⊢
    split at H
    · split at H
      · rename_i hb; simp only [hb, if_true]; exact ⟨H.1, H.2.1, evSt_upd H.2.1 h0 hn H.2.2⟩
      · rename_i hb; simp only [hb, if_false]; exact H
    · exact H
    · exact H.elim
theorem evSt_upd' {n : Nat} {x v : E} {nid : Nat} {b : Blk} {K : Heap → Prop} (hn : h nid = none) (H : evSt n x v h K) : evSt n x v (upd h nid (some b)) (fun g => ∃ g', g = upd g' nid (some b) ∧ K g') := by
  unfold evSt at H ⊢
  split at H
  · rename_i id j f
    have hne : (h id).isSome = true → id ≠ nid := fun hs he => by rw [he, hn] at hs; cases hs
    split at H
    · rename_i hb0
      have hne := hne (by rw [hb0]; rfl)
      rw [upd_ne _ _ _ hne]
      simp only [hb0]
      split at H
      · split at H
        · rename_i hb; exact ⟨H.1, by rw [if_pos hb]; exact ⟨H.2.1, _, (upd_comm _ _ _ hne.symm), H.2.2⟩⟩
        · rename_i hb; obtain ⟨g1, g2, r, g3, g4⟩ := H; exact ⟨g1, by rw [if_neg hb]; exact ⟨g2, r, g3, _, (upd_comm _ _ _ hne.symm), g4⟩⟩
      · exact H.elim
    · rename_i hb0
      have hne := hne (by rw [hb0]; rfl)
      rw [upd_ne _ _ _ hne]
      simp only [hb0]
      split at H
      · exact ⟨H.1, H.2.1, _, (upd_comm _ _ _ hne.symm), H.2.2⟩
      · exact H.elim
    · exact H.elim
  · exact H.elim
theorem evGs_upd' {o : IOp} {n : Nat} {ts : List Nat} {x v : O} {nid : Nat} {b : Blk} {K : Option Heap → Prop} (hn : h nid = none) (H : evGs o n ts x v ρ h K) : evGs o n ts x v ρ (upd h nid (some b)) (fun oh => ∃ og, oh = og.map (fun g => upd g nid (some b)) ∧ K og) := by
  have e : ∀ {x v : E}, evSt n x v h (fun g => K (some g)) → evSt n x v (upd h nid (some b)) (fun g => ∃ og, some g = og.map (fun g => upd g nid (some b)) ∧ K og) := fun H => st_mono (fun g ⟨g', e1, e2⟩ => ⟨some g', by rw [e1]; rfl, e2⟩) (evSt_upd' hn H)
  obtain ⟨d, g, nn, fz, i⟩ := o
  cases g with
  | none => exact ⟨H.1, H.2.1, e H.2.2⟩
  | some gt =>
    obtain ⟨t, want⟩ := gt
    simp only [evGs] at H ⊢
    generalize ρ (.t t) = v at H ⊢
    split at H
    · split at H
      · rename_i hb; simp only [hb, if_true]; exact ⟨H.1, H.2.1, e H.2.2⟩
      · rename_i hb; simp only [hb, if_false]; exact ⟨none, rfl, H⟩
    · exact ⟨none, rfl, H⟩
    · exact H.elim
def stK (a b : IOp) : Bool := match b.i with
  | .st _ ts _ _ => a.i.cls == 0 || a.i.cls == 3 || (!ts.isEmpty && ((a.i.cls == 1 && ts.all fun t => a.nn.contains t) || (a.i.cls == 2 && match a.i.nid with | some n => !ts.contains n | none => false)))
  | _ => false
theorem evG_st {a : IOp} {n : Nat} {ts : List Nat} {x v : O} {b : IOp} {S : St} {oh : Option Heap} {d : Option Nat} {u : E} {K : E → Option (Nat × Blk) → Prop} (c : a.i.cls ≤ 3) (hs : stK a b = true) (hi : b.i = .st n ts x v) (hd : evGs b n ts x v ρ h (fun g => g = oh)) (hS : S.heap = h)
    (H : evG X a ρ' h K) : evG X a ρ' ((S.setH oh).put d u).heap K := by
  rw [put_heap]
  rcases evGs_dom hd with rfl | ⟨id, b0, b', g1, rfl, g2⟩
  · simp only [St.setH]; rw [hS]; exact H
  · simp only [St.setH]
    refine evG_heap (fun hn hf => ?_) H
    rcases cls_cases c with hc | hc | hc
    · rw [evF_03 (h' := h) hc]; exact hf
    · unfold stK at hs
      rw [hi] at hs
      simp only [hc, Bool.or_eq_true, Bool.and_eq_true, Bool.not_eq_true', List.isEmpty_eq_false_iff, List.all_eq_true] at hs
      have h3 : ts ≠ [] ∧ ∀ t ∈ ts, a.nn.contains t = true := by
        rcases hs with (h | h) | ⟨h1, h2⟩
        · simp at h
        · simp at h
        · rcases h2 with h2 | h2
          · exact ⟨h1, h2.2⟩
          · simp at h2
      have hid : a.nn.contains id = true := by
        rcases g2 with g2 | g2
        · exact absurd g2 h3.1
        · exact h3.2 id (by simpa using g2)
      refine evF_1' hc (nnC_get (fun he => by rw [he] at hid; simp at hid) hn) (fun k hk => ?_) hf
      refine (upd_ne _ _ _ fun he => ?_).symm
      subst he
      rw [hid] at hk
      cases hk
    · refine evF_2h hc (fun nid hn => ?_) hf
      rw [upd_ne _ _ _ fun he => by rw [he, g1] at hn; cases hn]
      exact hn
theorem swap_st_r {a b : IOp} {S : St} {K : St → Prop} (c1 : a.i.cls ≤ 3) (hs : stK a b = true)
    (d1 : ∀ t, a.d = some t → t ∉ b.looks) (d2 : ∀ t, a.d = some t → b.d ≠ some t) (d3 : ∀ t, b.d = some t → t ∉ a.looks) (H : wpO X a S fun S1 => wpO X b S1 K) : wpO X b S fun S1 => wpO X a S1 K := by
  obtain ⟨n, ts, x, v, hi⟩ : ∃ n ts x v, b.i = .st n ts x v := by
    unfold stK at hs
    split at hs
    · rename_i h; exact ⟨_, _, _, _, h⟩
    · cases hs
  rw [wpO_evG c1] at H
  obtain ⟨r1, nb1, h1, h2⟩ := evG_ang H
  rw [wpO_evGs hi, put_env, put_heap, addB_eq] at h2
  rw [evGs_congr hi (agree_put d1)] at h2
  rw [wpO_evGs hi]
  have h2' : evGs b n ts x v (evO S.env) S.heap (fun oh => K (((⟨S.env, heapB S.heap nb1⟩ : St).put a.d r1 |>.setH (oh.map fun g => heapB g nb1)).put b.d (.v (.tu [])))) := by
    rcases evG_nb h1 with rfl | ⟨nid, blk, rfl, g1, g2, g3⟩
    · refine evGs_mono (fun oh hK => ?_) h2
      cases oh <;> exact hK
    · have hs' := hs
      unfold stK at hs'
      rw [hi] at hs'
      simp only [g1, g2, Bool.or_eq_true, Bool.and_eq_true, Bool.not_eq_true', List.isEmpty_eq_false_iff] at hs'
      have h3 : ts ≠ [] ∧ ts.contains nid = false := by
        rcases hs' with (h | h) | ⟨h1, h2⟩
        · simp at h
        · simp at h
        · rcases h2 with h2 | h2
          · simp at h2
          · exact ⟨h1, h2.2⟩
      exact evGs_upd h3.1 h3.2 h2
  obtain ⟨oh, k1, k2⟩ := evGs_ang h2'
  refine evGs_mono (fun oh' he => ?_) k1
  subst he
  rw [wpO_evG c1, put_env, setH_env, evG_congr (agree_put d3)]
  refine evG_mono (fun r' nb' ⟨e1, e2⟩ => ?_) (evG_st (S := S) c1 hs hi k1 rfl h1)
  subst e1 e2
  have : ((((S.setH oh').put b.d (.v (.tu []))).addB nb').put a.d r') = (((⟨S.env, heapB S.heap nb'⟩ : St).put a.d r' |>.setH (oh'.map fun g => heapB g nb')).put b.d (.v (.tu []))) := by
    rw [← put_setH_comm (⟨S.env, heapB S.heap nb'⟩ : St) _ d2]
    cases oh' with
    | none => simp only [addB_eq, put_env, put_heap, setH_env, St.setH, Option.map_none]; cases b.d <;> cases a.d <;> rfl
    | some g => simp only [addB_eq, put_env, put_heap, setH_env, St.setH, Option.map_some]; cases b.d <;> cases a.d <;> rfl
  rw [this]
  exact k2
theorem swap_st_l {a b : IOp} {S : St} {K : St → Prop} (c2 : b.i.cls ≤ 3) (hs : (match a.i with | .st .. => (b.i.cls == 2 || stK b a) | _ => false) = true)
    (d1 : ∀ t, a.d = some t → t ∉ b.looks) (d2 : ∀ t, a.d = some t → b.d ≠ some t) (d3 : ∀ t, b.d = some t → t ∉ a.looks) (H : wpO X a S fun S1 => wpO X b S1 K) : wpO X b S fun S1 => wpO X a S1 K := by
  obtain ⟨n, ts, x, v, hi⟩ : ∃ n ts x v, a.i = .st n ts x v := by
    split at hs
    · rename_i h; exact ⟨_, _, _, _, h⟩
    · cases hs
  have hs2 : (b.i.cls == 2 || stK b a) = true := by rw [hi] at hs; exact hs
  rw [wpO_evGs hi] at H
  obtain ⟨oh, h1, h2⟩ := evGs_ang H
  rw [wpO_evG c2, put_env, setH_env, evG_congr (agree_put d1)] at h2
  obtain ⟨r2, nb2, g1, g2⟩ := evG_ang h2
  rw [wpO_evG c2]
  have g1' : evG X b (evO S.env) S.heap (fun r' nb' => r' = r2 ∧ nb' = nb2) := by
    rw [put_heap] at g1
    rcases evGs_dom h1 with rfl | ⟨id, b0, b', q1, rfl, q2⟩
    · exact g1
    · simp only [St.setH] at g1
      refine evG_heap (fun hn hf => ?_) g1
      rcases cls_cases c2 with hc | hc | hc
      · rw [evF_03 (h' := upd S.heap id (some b')) hc]; exact hf
      · unfold stK at hs2
        rw [hi] at hs2
        simp only [hc, Bool.or_eq_true, Bool.and_eq_true, Bool.not_eq_true', List.isEmpty_eq_false_iff, List.all_eq_true] at hs2
        have h3 : ts ≠ [] ∧ ∀ t ∈ ts, b.nn.contains t = true := by
          rcases hs2 with h | (h | h) | ⟨h1, h2⟩
          · simp at h
          · simp at h
          · simp at h
          · rcases h2 with h2 | h2
            · exact ⟨h1, h2.2⟩
            · simp at h2
        have hid : b.nn.contains id = true := by
          rcases q2 with q2 | q2
          · exact absurd q2 h3.1
          · exact h3.2 id (by simpa using q2)
        refine evF_1' hc (nnC_get (fun he => by rw [he] at hid; simp at hid) hn) (fun k hk => ?_) hf
        refine upd_ne _ _ _ fun he => ?_
        subst he
        rw [hid] at hk
        cases hk
      · refine evF_2h hc (fun nid hn => ?_) hf
        by_cases he : nid = id
        · subst he; rw [upd_same] at hn; cases hn
        · rw [upd_ne _ _ _ he] at hn; exact hn
  refine evG_mono (fun r nb ⟨e1, e2⟩ => ?_) g1'
  subst e1 e2
  rw [addB_eq, wpO_evGs hi, put_env, put_heap, evGs_congr hi (agree_put d3)]
  have hh : evGs a n ts x v (evO S.env) (heapB S.heap nb) (fun oh' => oh' = oh.map fun g => heapB g nb) := by
    rcases evG_nb g1' with rfl | ⟨nid, blk, rfl, q1, q2, q3⟩
    · refine evGs_mono (fun oh' he => ?_) h1
      rw [he]; cases oh <;> rfl
    · refine evGs_mono (fun oh' ⟨og, e1, e2⟩ => ?_) (evGs_upd' (b := blk) q3 h1)
      rw [e1, e2]; rfl
  refine evGs_mono (fun oh' he => ?_) hh
  subst he
  have : ((((⟨S.env, heapB S.heap nb⟩ : St).put b.d r).setH (oh.map fun g => heapB g nb)).put a.d (.v (.tu []))) = ((((S.setH oh).put a.d (.v (.tu []))).addB nb).put b.d r) := by
    rw [← put_setH_comm (⟨S.env, heapB S.heap nb⟩ : St) _ (fun t hb ha => d2 t ha hb)]
    cases oh with
    | none => simp only [addB_eq, put_env, put_heap, setH_env, St.setH, Option.map_none]; cases b.d <;> cases a.d <;> rfl
    | some g => simp only [addB_eq, put_env, put_heap, setH_env, St.setH, Option.map_some]; cases b.d <;> cases a.d <;> rfl
  rw [this]
  exact g2
def commK (a b : IOp) : Bool :=
  a.fz.isEmpty && b.fz.isEmpty && ((decide (a.i.cls ≤ 3) && decide (b.i.cls ≤ 3) && (!(a.i.cls == 2 && b.i.cls == 1) || (match a.i.nid with | some n => b.nn.contains n | none => false)) && (!(a.i.cls == 2 && b.i.cls == 2) || a.i.nid != b.i.nid))
  || (decide (a.i.cls ≤ 3) && stK a b) || (decide (b.i.cls ≤ 3) && (match a.i with | .st .. => (b.i.cls == 2 || stK b a) | _ => false)))
theorem swap {a b : IOp} {S : St} {K : St → Prop} (hc : commK a b = true) (ha : apartO a b = true) (H : wpO X a S fun S1 => wpO X b S1 K) : wpO X b S fun S1 => wpO X a S1 K := by
  unfold apartO at ha
  rw [Bool.and_eq_true] at ha
  have d1 : ∀ t, a.d = some t → t ∉ b.looks := fun t ht => by
    have := ha.1
    rw [ht] at this
    simp only [Bool.and_eq_true, Bool.not_eq_true'] at this
    simpa using this.1
  have d2 : ∀ t, a.d = some t → b.d ≠ some t := fun t ht => by
    have := ha.1
    rw [ht] at this
    simp only [Bool.and_eq_true, bne_iff_ne] at this
    exact this.2
  have d3 : ∀ t, b.d = some t → t ∉ a.looks := fun t ht => by
    have := ha.2
    rw [ht] at this
    simpa using this
  unfold commK at hc
  rw [Bool.and_eq_true] at hc
  replace hc := hc.2
  simp only [Bool.or_eq_true, Bool.and_eq_true, decide_eq_true_eq, beq_iff_eq, Bool.not_eq_true', bne_iff_ne] at hc
  rcases hc with (⟨⟨⟨c1, c2⟩, c3⟩, c4⟩ | ⟨c1, c2⟩) | ⟨c1, c2⟩
  · refine swap3 c1 c2 (fun h1 h2 => ?_) (fun h1 h2 => ?_) d1 d2 d3 H
    · rcases c3 with c3 | c3
      · simp [h1, h2] at c3
      · split at c3
        · rename_i n hn
          exact ⟨n, hn, by simpa using c3⟩
        · cases c3
    · rcases c4 with c4 | c4
      · simp [h1, h2] at c4
      · exact c4
  · exact swap_st_r c1 c2 d1 d2 d3 H
  · exact swap_st_l c1 c2 d1 d2 d3 H
theorem evCall_mono {f : Nat} {es : List E} {S : St} {K K' : E → St → Prop} (hk : ∀ r S, K r S → K' r S) (H : evCall X f es S K) : evCall X f es S K' := by
  intro R φ tm w vals A hv
  refine (H R φ tm w vals A hv).mono ?_
  rintro e w' ⟨v, r, S', φ', h1, h2, h3⟩
  exact ⟨v, r, S', φ', h1, hk _ _ h2, h3⟩
theorem evCx_mono {x : E} {es : List E} {S : St} {K K' : E → St → Prop} (hk : ∀ r S, K r S → K' r S) (H : evCx X x es S K) : evCx X x es S K' := by
  unfold evCx at H ⊢
  split at H
  · exact ⟨H.1, evCall_mono hk H.2⟩
  · exact ⟨H.1, evCall_mono hk H.2⟩
  · exact ⟨H.1, H.2.1, H.2.2.1, evCall_mono hk H.2.2.2⟩
  · exact H.elim
theorem evAlo_mono {nid e : Nat} {K K' : E → St → Prop} (hk : ∀ r S, K r S → K' r S) : ∀ (subs : List (Nat × Nat × Nat × Nat)) {cs : List E} {S : St}, evAlo nid e subs cs S K → evAlo nid e subs cs S K'
  | [], _, _, H => ⟨H.1, hk _ _ H.2⟩
  | (_, _, _, _) :: l, _, _, H => ⟨H.1, evAlo_mono hk l H.2⟩
theorem evUst_mono {e : Nat} {x y : E} {S : St} {K K' : E → St → Prop} (hk : ∀ r S, K r S → K' r S) (H : evUst e x y S K) : evUst e x y S K' := by
  unfold evUst at H ⊢
  split at H
  · split at H
    · obtain ⟨h0, h1, h2, h3, h4, h5, h6, s, h7, h8⟩ := H
      exact ⟨h0, h1, h2, h3, h4, h5, h6, s, h7, hk _ _ h8⟩
    · exact H.elim
  · exact H.elim
theorem wpO_mono {o : IOp} {S : St} {K K' : St → Prop} (hk : ∀ S, K S → K' S) (H : wpO X o S K) : wpO X o S K' := by
  have ev : ∀ {K K' : E → St → Prop}, (∀ r S, K r S → K' r S) → evI X S K o.i → evI X S K' o.i := fun {K K'} hk H => by
    by_cases hc : o.i.cls ≤ 3
    · rw [evI_evF hc] at H ⊢
      exact evF_mono (fun r nb => hk _ _) H
    · generalize o.i = i at H hc ⊢
      cases i <;> try (simp [I.cls] at hc; done)
      case ap0 nid e sz bytes x =>
        unfold evI evAp0 at H ⊢
        simp only at H ⊢
        split at H
        · exact ⟨H.1, H.2.1, H.2.2.1, hk _ _ H.2.2.2⟩
        · exact H.elim
      case ap e sz bytes s x =>
        unfold evI evAp at H ⊢
        simp only at H ⊢
        split at H
        · split at H
          · split at H
            · exact ⟨H.1, H.2.1, H.2.2.1, H.2.2.2.1, H.2.2.2.2.1, hk _ _ H.2.2.2.2.2⟩
            · exact H.elim
          · exact H.elim
        · exact H.elim
      case st n ts x v => exact ⟨H.1, st_mono (fun g => hk _ _) H.2⟩
      case cb f args =>
        obtain ⟨xs, r, h1, h2, h3, h4⟩ := H
        exact ⟨xs, r, h1, h2, h3, hk _ _ h4⟩
      case call f args => exact evCall_mono hk H
      case g5 g xs =>
        simp only [evI] at H ⊢
        cases g with
        | cx =>
          simp only [evG5] at H ⊢
          split at H
          · exact evCx_mono hk H
          · exact H.elim
        | alo nid e z subs => exact evAlo_mono hk subs H
        | ust e =>
          simp only [evG5] at H ⊢
          split at H
          · exact evUst_mono hk H
          · exact H.elim
  unfold wpO at H ⊢
  split at H
  · exact ⟨H.1, ev (fun r S => hk _) H.2⟩
  · generalize S.env _ = v at H ⊢
    split at H
    · split at H
      · rename_i hb
        simp only [hb, if_true]
        exact ⟨H.1, ev (fun r S => hk _) H.2⟩
      · rename_i hb
        simp only [hb, if_false]
        exact hk _ H
    · exact hk _ H
    · exact H.elim
theorem evFrz_mono : ∀ {l : List Nat} {S : St} {K K' : St → Prop}, (∀ S, K S → K' S) → evFrz l S K → evFrz l S K'
  | [], S, K, K', hk, H => hk _ H
  | id :: l, S, K, K', hk, H => by
    unfold evFrz at H ⊢
    split at H
    · split at H
      · exact ⟨H.1, evFrz_mono hk H.2⟩
      · exact H.elim
    · exact evFrz_mono hk H
theorem wpF_mono {o : IOp} {S : St} {K K' : St → Prop} (hk : ∀ S, K S → K' S) (H : wpF X o S K) : wpF X o S K' := by
  unfold wpF at H ⊢
  split at H
  · exact wpO_mono hk H
  · exact evFrz_mono (fun S h => wpO_mono hk h) H
theorem wpL_mono : ∀ {l : List IOp} {S : St} {K K' : St → Prop}, (∀ S, K S → K' S) → wpL X l K S → wpL X l K' S
  | [], S, K, K', hk, H => hk _ H
  | o :: l, S, K, K', hk, H => wpF_mono (fun S' h => wpL_mono hk h) H
theorem swapF {a b : IOp} {S : St} {K : St → Prop} (hc : commK a b = true) (ha : apartO a b = true) (H : wpF X a S fun S1 => wpF X b S1 K) : wpF X b S fun S1 => wpF X a S1 K := by
  have h0 := hc
  unfold commK at h0
  rw [Bool.and_eq_true, Bool.and_eq_true] at h0
  have e1 : a.fz = [] := by simpa using h0.1.1
  have e2 : b.fz = [] := by simpa using h0.1.2
  unfold wpF at H ⊢
  simp only [e1, e2] at H ⊢
  exact swap hc ha H
theorem bubble {i : IOp} : ∀ {us vs : List IOp} {S : St} {K : St → Prop}, (∀ u ∈ us, commK u i = true ∧ apartO u i = true) → wpL X (us ++ i :: vs) K S → wpF X i S fun S' => wpL X (us ++ vs) K S'
  | [], vs, S, K, _, H => H
  | u :: us, vs, S, K, hc, H => by
    have h1 : wpF X u S (fun S1 => wpF X i S1 fun S2 => wpL X (us ++ vs) K S2) := wpF_mono (fun S1 h => bubble (fun v hv => hc v (by simp [hv])) h) H
    have := hc u (by simp)
    exact swapF this.1 this.2 h1
end
end Go.Proofs.YtmjkhbjfacfmcaaGreatDoor.VX
end
section
namespace Go.Proofs.YtmjkhbjfacfmcaaGreatDoor.VX
open Go Go.RowKit
set_option linter.unusedVariables false
set_option linter.unusedSimpArgs false
def chkOp (P : Program) (N : Nat) (ops : Array Oper) (io : IOp) (o : Oper) : Bool :=
  io.d == o.dst && (match o.dst with | some d => decide (d < N) | none => true) && chkI P io.i o.op &&
  (match io.g, o.guard with | none, none => true | some (t, b), some (j, c) => (ops[j]?).bind (·.dst) == some t && b == c && decide (t < N) | _, _ => false)
def chkOpL (P : Program) (N : Nat) (ops : Array Oper) : List IOp → List Oper → Bool
  | [], [] => true
  | io :: l, o :: m => chkOp P N ops io o && chkOpL P N ops l m
  | _, _ => false
section
variable {X : Ctx} {R : Run X} {Q : Exit → Act → World → Prop}
theorem undef_rep {w : World} {ok : Nat → Prop} {φ : Nat → Option Pl} {ln : Nat → Option Nat} : RepE w ok φ ln (.v (.tu [])) undef := .v _ _ (.tu [] #[] rfl (by simp))
theorem RepS.put {S : St} {tm : Array Value} {df : List Deferred} {w : World} {φ : Nat → Option Pl} (A : At R φ S tm w) (hd : df = []) {d : Option Nat} (hn : ∀ t, d = some t → t < R.N) {r : E} {u : Value} (h : RepE w (okOf R.w0 R.ok0 φ S.heap w) φ (lnOf S.heap) r u) :
    RepS R (S.put d r) ((⟨tm, df⟩ : Act).put d u) w := ⟨⟨φ, A.put hn h df⟩, by subst hd; cases d <;> rfl⟩
theorem snd_O {ops : Array Oper} {io : IOp} {o : Oper} {S : St} {K : St → Prop} {a : Act} {w : World} {next : Act → World → Prop} (hc : chkOp X.P R.N ops io o = true) (H : wpO X io S K) (A : RepS R S a w)
    (hk : ∀ S' a' w', K S' → RepS R S' a' w' → next a' w') : (Region.wanted o (yielded ops a.tmps) = true → o.wp X.P a w next Q) ∧ (Region.wanted o (yielded ops a.tmps) = false → next (a.put o.dst undef) w) := by
  obtain ⟨⟨φ, A⟩, hdf⟩ := A
  unfold chkOp at hc
  simp only [Bool.and_eq_true, beq_iff_eq] at hc
  obtain ⟨⟨⟨h1, h2⟩, h3⟩, h4⟩ := hc
  have hd : ∀ t, io.d = some t → t < R.N := fun t ht => by
    rw [h1] at ht
    rw [ht] at h2
    simpa using h2
  have run : evI X S (fun r S' => K (S'.put io.d r)) io.i → o.wp X.P a w next Q := fun h => by
    refine snd_I A h3 h fun r S' φ' u w' hK A' hr => ?_
    rw [← h1]
    exact hk _ _ _ hK (RepS.put A' hdf hd hr)
  have skip : K (S.put io.d (.v (.tu []))) → next (a.put o.dst undef) w := fun h => by
    rw [← h1]
    exact hk _ _ _ h (RepS.put A hdf hd undef_rep)
  unfold wpO at H
  split at H
  · rename_i hg
    rw [hg] at h4
    split at h4
    · rename_i hg2
      have hw : Region.wanted o (yielded ops a.tmps) = true := by simp [Region.wanted, hg2]
      exact ⟨fun _ => run H.2, fun h => by rw [hw] at h; cases h⟩
    · rename_i e1 _; cases e1
    · cases h4
  · rename_i t want hg
    rw [hg] at h4
    split at h4
    · rename_i e1 _; cases e1
    · rename_i t' b j c e1 hg2
      cases e1
      simp only [Bool.and_eq_true, beq_iff_eq, decide_eq_true_eq] at h4
      obtain ⟨⟨h5, rfl⟩, h6⟩ := h4
      have ht : a.tmps[t]? = some (a.tmps.getD t undef) := by
        have : t < a.tmps.size := by rw [A.size]; exact h6
        simp [this]
      have hy : yielded ops a.tmps j = match a.tmps.getD t undef with | .bool b => some b | _ => none := by
        unfold yielded
        rw [h5, Option.bind_some, ht]
        cases a.tmps.getD t undef <;> rfl
      have hE := A.env t
      split at H
      · rename_i b he
        rw [he] at hE
        rw [repV_sc hE] at hy
        simp only at hy
        have hw : Region.wanted o (yielded ops a.tmps) = decide (b = want) := by
          simp only [Region.wanted, hg2, hy]
          cases b <;> cases want <;> rfl
        split at H
        · rename_i hb
          rw [hw]
          exact ⟨fun _ => run H.2, fun h => by simp [hb] at h⟩
        · rename_i hb
          rw [hw]
          exact ⟨fun h => by simp [hb] at h, fun _ => skip H⟩
      · rename_i he
        rw [he] at hE
        have hu : ∃ us, a.tmps.getD t undef = .tuple us := by
          cases hE with | v _ _ h => 
          generalize a.tmps.getD t undef = v at h
          cases h; exact ⟨_, rfl⟩
        obtain ⟨us, hu⟩ := hu
        rw [hu] at hy
        have hw : Region.wanted o (yielded ops a.tmps) = false := by
          simp only [Region.wanted, hg2, hy]
          cases want <;> rfl
        rw [hw]
        exact ⟨fun h => (by cases h), fun _ => skip H⟩
      · exact H.elim
    · cases h4
theorem At.frz {φ : Nat → Option Pl} {S : St} {tm : Array Value} {w : World} (A : At R φ S tm w) {id sz : Nat} {b : Blk} {l : List (List V)} (h100 : 100 ≤ id) (hb : S.heap id = some b) (hr : rowsB b = some (sz, l)) :
    At R φ ⟨envTr (E.frz id sz l) S.env, del id (heapTr (E.frz id sz l) S.heap)⟩ tm w := by
  obtain ⟨g1, g2⟩ := A.h.frz h100 hb hr
  refine ⟨g1, fun t => g2 _ _ (A.env t), A.size, fun k hk hs => ?_⟩
  have hne : k ≠ id := by omega
  have hs' : (S.heap k).isSome = true := by
    have hs : (del id (heapTr (E.frz id sz l) S.heap) k).isSome = true := hs
    unfold del at hs
    rw [if_neg hne, heapTr_isSome] at hs
    exact hs
  obtain ⟨p1, p2⟩ := A.pin k hk hs'
  refine ⟨p1, ?_⟩
  rw [← p2]
  show lnOf (del id (heapTr (E.frz id sz l) S.heap)) k = lnOf S.heap k
  unfold lnOf del
  rw [if_neg hne]
  exact congrFun (lnOf_tr _ S.heap) k
theorem evFrz_rep : ∀ {l : List Nat} {S : St} {K : St → Prop} {a : Act} {w : World}, evFrz l S K → RepS R S a w → ∃ S', K S' ∧ RepS R S' a w
  | [], S, K, a, w, H, A => ⟨S, H, A⟩
  | id :: l, S, K, a, w, H, A => by
    unfold evFrz at H
    split at H
    · rename_i b hb
      split at H
      · rename_i sz rows hr
        obtain ⟨⟨φ, A⟩, hd⟩ := A
        exact evFrz_rep H.2 ⟨⟨φ, A.frz H.1 hb hr⟩, hd⟩
      · exact H.elim
    · exact evFrz_rep H A
theorem snd_F {ops : Array Oper} {io : IOp} {o : Oper} {S : St} {K : St → Prop} {a : Act} {w : World} {next : Act → World → Prop} (hc : chkOp X.P R.N ops io o = true) (H : wpF X io S K) (A : RepS R S a w)
    (hk : ∀ S' a' w', K S' → RepS R S' a' w' → next a' w') : (Region.wanted o (yielded ops a.tmps) = true → o.wp X.P a w next Q) ∧ (Region.wanted o (yielded ops a.tmps) = false → next (a.put o.dst undef) w) := by
  unfold wpF at H
  split at H
  · exact snd_O hc H A hk
  · obtain ⟨S', h1, A'⟩ := evFrz_rep H A
    exact snd_O hc h1 A' hk
theorem snd_L {ops : Array Oper} {K : St → Prop} (hk : ∀ S a w, K S → RepS R S a w → Q .normal a w) : ∀ {l : List IOp} {m : List Oper} {S : St} {a : Act} {w : World}, chkOpL X.P R.N ops l m = true → wpL X l K S → RepS R S a w → wpList X.P ops Q m a w
  | [], [], S, a, w, _, H, A => hk S a w H A
  | io :: l, o :: m, S, a, w, hc, H, A => by
    rw [chkOpL, Bool.and_eq_true] at hc
    have h := snd_F (Q := Q) hc.1 H A fun S' a' w' hK A' => snd_L hk hc.2 hK A'
    unfold wpList
    split
    · rename_i hw; exact .inl (h.1 hw)
    · rename_i hw; exact h.2 (by simpa using hw)
  | [], _ :: _, _, _, _, hc, _, _ => by simp [chkOpL] at hc
  | _ :: _, [], _, _, _, hc, _, _ => by simp [chkOpL] at hc
theorem chkOpL_get {P : Program} {N : Nat} {ops : Array Oper} : ∀ {l : List IOp} {m : List Oper}, chkOpL P N ops l m = true → l.length = m.length ∧ ∀ (i : Nat) io o, l[i]? = some io → m[i]? = some o → chkOp P N ops io o = true
  | [], [], _ => ⟨rfl, by simp⟩
  | io :: l, o :: m, h => by
    rw [chkOpL, Bool.and_eq_true] at h
    obtain ⟨h1, h2⟩ := chkOpL_get h.2
    refine ⟨by simp [h1], fun i x y hx hy => ?_⟩
    cases i with
    | zero =>
      obtain rfl : io = x := by simpa using hx
      obtain rfl : o = y := by simpa using hy
      exact h.1
    | succ i => exact h2 i x y (by simpa using hx) (by simpa using hy)
  | [], _ :: _, h => by simp [chkOpL] at h
  | _ :: _, [], h => by simp [chkOpL] at h
def bfStep (T : List Nat) (o : Oper) : Nat := o.after.toList.foldl (fun s e => if Region.binds .any e then s ||| (2 ^ e.on ||| T.getD e.on 0) else s) 0
def bfTab : List Oper → List Nat → List Nat
  | [], T => T
  | o :: l, T => bfTab l (T ++ [bfStep T o])
theorem bfStep_bit (T : List Nat) (o : Oper) (j : Nat) (h : (bfStep T o).testBit j = true) : ∃ e ∈ o.after.toList, Region.binds .any e = true ∧ (e.on = j ∨ (T.getD e.on 0).testBit j = true) := by
  have key : ∀ (l : List Edge) (s : Nat), (l.foldl (fun s e => if Region.binds .any e then s ||| (2 ^ e.on ||| T.getD e.on 0) else s) s).testBit j = true → s.testBit j = true ∨ ∃ e ∈ l, Region.binds .any e = true ∧ (e.on = j ∨ (T.getD e.on 0).testBit j = true) := by
    intro l
    induction l with
    | nil => exact fun s hs => .inl hs
    | cons e l ih =>
      intro s hs
      rw [List.foldl_cons] at hs
      rcases ih _ hs with h | ⟨e', he, h⟩
      · split at h
        · rename_i hb
          rw [Nat.testBit_or, Nat.testBit_or, Bool.or_eq_true, Bool.or_eq_true] at h
          rcases h with h | h | h
          · exact .inl h
          · refine .inr ⟨e, by simp, hb, .inl ?_⟩
            rw [Nat.testBit_two_pow] at h
            simpa using h
          · exact .inr ⟨e, by simp, hb, .inr h⟩
        · exact .inl h
      · exact .inr ⟨e', by simp [he], h⟩
  rcases key _ 0 h with h | h
  · simp at h
  · exact h
theorem bfTab_get : ∀ (l : List Oper) (T : List Nat), (∀ (i : Nat), i < T.length → (bfTab l T)[i]? = T[i]?) ∧ ∀ (i : Nat) o, l[i]? = some o → ∃ T', (bfTab l T)[T.length + i]? = some (bfStep T' o) ∧ T'.length = T.length + i ∧ ∀ (k : Nat), k < T'.length → T'[k]? = (bfTab l T)[k]?
  | [], T => ⟨fun i _ => rfl, fun i o h => by simp at h⟩
  | o :: l, T => by
    obtain ⟨h1, h2⟩ := bfTab_get l (T ++ [bfStep T o])
    refine ⟨fun i hi => ?_, fun i o' ho => ?_⟩
    · rw [bfTab, h1 i (by simp; omega), List.getElem?_append_left hi]
    · cases i with
      | zero =>
        obtain rfl : o = o' := by simpa using ho
        refine ⟨T, ?_, rfl, fun k hk => ?_⟩
        · rw [bfTab, h1 _ (by simp)]
          simp
        · rw [bfTab, h1 k (by simp; omega), List.getElem?_append_left hk]
      | succ i =>
        obtain ⟨T', g1, g2, g3⟩ := h2 i o' (by simpa using ho)
        refine ⟨T', ?_, ?_, g3⟩
        · rw [bfTab, ← g1]
          congr 1
          simp
          omega
        · rw [g2]
          simp
          omega
theorem bf_listed {ops : List Oper} {L : Nat → Prop} (hcl : ∀ (i : Nat) o, L i → ops[i]? = some o → ∀ e ∈ o.after.toList, Region.binds .any e = true → L e.on) :
    ∀ (n i : Nat) o, i < n → ops[i]? = some o → (∀ e ∈ o.after.toList, Region.binds .any e = true → L e.on) → ∀ j, ((bfTab ops []).getD i 0).testBit j = true → L j := by
  intro n
  induction n with
  | zero => intro i o h; omega
  | succ n ih =>
    intro i o hi ho hd j hj
    obtain ⟨T', g1, g2, g3⟩ := (bfTab_get ops []).2 i o ho
    simp only [List.length_nil, Nat.zero_add] at g1 g2
    rw [List.getD_eq_getElem?_getD, g1] at hj
    obtain ⟨e, he, hb, h⟩ := bfStep_bit T' o j hj
    rcases h with rfl | h
    · exact hd e he hb
    · have hlt : e.on < T'.length := by
        rcases Nat.lt_or_ge e.on T'.length with h' | h'
        · exact h'
        · rw [List.getD_eq_getElem?_getD, List.getElem?_eq_none h'] at h; simp at h
      have hlo := hd e he hb
      have hon : ∃ o', ops[e.on]? = some o' := ⟨_, List.getElem?_eq_getElem (by have := (List.getElem?_eq_some_iff.1 ho).1; omega)⟩
      obtain ⟨o', ho'⟩ := hon
      refine ih e.on o' (by omega) ho' (hcl _ _ hlo ho') j ?_
      rw [List.getD_eq_getElem?_getD, g3 _ hlt, ← List.getD_eq_getElem?_getD] at h
      exact h
def chkPairs (T : List Nat) : List (Nat × IOp) → Nat → List IOp → Bool
  | _, _, [] => true
  | prev, i, io :: l => prev.all (fun p => (T.getD i 0).testBit p.1 || (commK p.2 io && apartO p.2 io)) && chkPairs T ((i, io) :: prev) (i + 1) l
theorem chkPairs_spec {T : List Nat} : ∀ (l : List IOp) (prev : List (Nat × IOp)) (n : Nat), chkPairs T prev n l = true →
    (∀ (k : Nat) b, l[k]? = some b → (∀ p ∈ prev, (T.getD (n + k) 0).testBit p.1 = true ∨ (commK p.2 b = true ∧ apartO p.2 b = true)) ∧ ∀ (j : Nat) a, l[j]? = some a → j < k → (T.getD (n + k) 0).testBit (n + j) = true ∨ (commK a b = true ∧ apartO a b = true))
  | [], prev, n, _ => fun k b h => by simp at h
  | io :: l, prev, n, h => by
    rw [chkPairs, Bool.and_eq_true] at h
    have ih := chkPairs_spec l ((n, io) :: prev) (n + 1) h.2
    intro k b hb
    cases k with
    | zero =>
      obtain rfl : io = b := by simpa using hb
      refine ⟨fun p hp => ?_, fun j a _ hj => absurd hj (by omega)⟩
      have := (List.all_eq_true.1 h.1) p hp
      simpa [Bool.or_eq_true, Bool.and_eq_true] using this
    | succ k =>
      obtain ⟨h1, h2⟩ := ih k b (by simpa using hb)
      rw [show n + 1 + k = n + (k + 1) by omega] at h1 h2
      refine ⟨fun p hp => h1 p (by simp [hp]), fun j a ha hj => ?_⟩
      cases j with
      | zero =>
        obtain rfl : io = a := by simpa using ha
        exact h1 (n, io) (by simp)
      | succ j =>
        have := h2 j a (by simpa using ha) (by omega)
        rwa [show n + 1 + j = n + (j + 1) by omega] at this
def chkBack (l : List Oper) : Nat → Bool := fun i => l.zipIdx.all fun p => p.1.after.toList.all fun e => !Region.binds .any e || decide (e.on < p.2)
def chkAny (ios : List IOp) (ops : List Oper) : Bool := chkPairs (bfTab ops []) [] 0 ios && chkBack ops 0
end
end Go.Proofs.YtmjkhbjfacfmcaaGreatDoor.VX
end
section
namespace Go.Proofs.YtmjkhbjfacfmcaaGreatDoor.VX
open Go Go.RowKit
set_option linter.unusedVariables false
set_option linter.unusedSimpArgs false
def unl (n : Nat) (listed : Array Bool) : List Nat := (List.range n).filter fun i => !listed.getD i true
section
variable {X : Ctx} {R : Run X} {Q : Exit → Act → World → Prop}
theorem unl_sorted (n : Nat) (listed : Array Bool) : (unl n listed).Pairwise (· < ·) := List.Pairwise.filter _ (List.pairwise_lt_range)
theorem unl_mem {n : Nat} {listed : Array Bool} {i : Nat} : i ∈ unl n listed ↔ i < n ∧ listed.getD i true = false := by
  simp [unl, List.mem_filter]
theorem unl_set {n : Nat} {listed : Array Bool} {i : Nat} (hs : listed.size = n) (hi : i < n) : unl n (listed.setIfInBounds i true) = (unl n listed).filter fun k => k != i := by
  unfold unl
  rw [List.filter_filter]
  refine List.filter_congr fun k hk => ?_
  by_cases h : k = i
  · subst h
    simp [hs, hi]
  · rw [getD_set_ne true (Ne.symm h)]
    have : (k != i) = true := by simpa using h
    simp [this]
theorem any_sound {ops : Array Oper} {ios : List IOp} {K : St → Prop} (hc : chkOpL X.P R.N ops ios ops.toList = true) (ha : chkAny ios ops.toList = true) (hk : ∀ S a w, K S → RepS R S a w → Q .normal a w) :
    ∀ (fuel : Nat) (listed : Array Bool) (S : St) (a : Act) (w : World), listed.size = ops.size → (∀ i o, listed.getD i false = true → ops[i]? = some o → ∀ e ∈ o.after, Region.binds .any e = true → listed.getD e.on false = true) →
      (unl ops.size listed).length ≤ fuel → wpL X ((unl ops.size listed).map (ios.getD · default)) K S → RepS R S a w → wpAny X.P .any ops Q fuel listed a w := by
  obtain ⟨hlen, hget⟩ := chkOpL_get hc
  have hlen' : ios.length = ops.size := by simpa using hlen
  unfold chkAny at ha
  rw [Bool.and_eq_true] at ha
  have hpairs := chkPairs_spec ios [] 0 ha.1
  have hback : ∀ (i : Nat) o, ops[i]? = some o → ∀ e ∈ o.after, Region.binds .any e = true → e.on < i := fun i o ho e he hb => by
    have h1 := List.all_eq_true.1 ha.2 (o, i) (by
      rw [List.mem_zipIdx_iff_getElem?]
      simpa using ho)
    have h2 := List.all_eq_true.1 h1 e (by simpa using he)
    simpa [hb] using h2
  intro fuel
  induction fuel with
  | zero =>
    intro listed S a w hs hcl hf H A
    have hu : unl ops.size listed = [] := List.eq_nil_of_length_eq_zero (by omega)
    rw [hu] at H
    refine ⟨?_, hk S a w H A⟩
    cases hr : Region.ready .any ops listed with
    | nil => rfl
    | cons j rs =>
      have hj : j ∈ Region.ready .any ops listed := by rw [hr]; simp
      obtain ⟨g1, o, g2, _⟩ := mem_ready.1 hj
      have : j ∈ unl ops.size listed := unl_mem.2 ⟨(Array.getElem?_eq_some_iff.1 g2).1, g1⟩
      rw [hu] at this
      cases this
  | succ fuel ih =>
    intro listed S a w hs hcl hf H A
    refine ⟨fun hr => ?_, fun i hi => ?_⟩
    · have hu : unl ops.size listed = [] := by
        cases hul : unl ops.size listed with
        | nil => rfl
        | cons j us =>
          have hj : j ∈ unl ops.size listed := by rw [hul]; simp
          obtain ⟨h1, h2⟩ := unl_mem.1 hj
          have hjr : j ∈ Region.ready .any ops listed := by
            refine mem_ready.2 ⟨h2, ops[j], Array.getElem?_eq_getElem h1, fun e he hb => ?_⟩
            have hlt := hback j _ (Array.getElem?_eq_getElem h1) e he hb
            have hnot : e.on ∉ unl ops.size listed := fun hm => by
              rw [hul] at hm
              have hp := unl_sorted ops.size listed
              rw [hul, List.pairwise_cons] at hp
              rcases List.mem_cons.1 hm with h | h
              · omega
              · have := hp.1 _ h; omega
            have : ¬ (listed.getD e.on true = false) := fun h => hnot (unl_mem.2 ⟨by omega, h⟩)
            have hlt' : e.on < listed.size := by omega
            simp [hlt'] at this ⊢
            exact this
          rw [hr] at hjr
          cases hjr
      rw [hu] at H
      exact hk S a w H A
    · obtain ⟨g1, o, g2, g3⟩ := mem_ready.1 hi
      have hin : i < ops.size := (Array.getElem?_eq_some_iff.1 g2).1
      obtain ⟨us, vs, huv⟩ := List.append_of_mem (unl_mem.2 ⟨hin, g1⟩)
      have hsort := unl_sorted ops.size listed
      rw [huv, List.pairwise_append] at hsort
      obtain ⟨hs1, hs2, hs3⟩ := hsort
      rw [List.pairwise_cons] at hs2
      have hset : unl ops.size (listed.setIfInBounds i true) = us ++ vs := by
        rw [unl_set hs hin, huv, List.filter_append, List.filter_cons]
        simp only [bne_self_eq_false, Bool.false_eq_true, if_false]
        congr 1
        · rw [List.filter_eq_self]
          intro u hu
          have := hs3 u hu i (by simp)
          simp
          omega
        · rw [List.filter_eq_self]
          intro v hv
          have := hs2.1 v hv
          simp
          omega
      rw [huv, List.map_append, List.map_cons] at H
      have hio : ios[i]? = some (ios.getD i default) := by
        rw [List.getD_eq_getElem?_getD, List.getElem?_eq_getElem (by omega)]
        rfl
      have hbub := bubble (i := ios.getD i default) (fun u hu => by
        obtain ⟨k, hk', rfl⟩ := List.mem_map.1 hu
        have hki := hs3 k hk' i (by simp)
        have hkm : k ∈ unl ops.size listed := by rw [huv]; simp [hk']
        obtain ⟨q1, q2⟩ := unl_mem.1 hkm
        have hko : ios[k]? = some (ios.getD k default) := by
          rw [List.getD_eq_getElem?_getD, List.getElem?_eq_getElem (by omega)]
          rfl
        rcases (hpairs i _ hio).2 k _ hko hki with h | h
        · exfalso
          rw [Nat.zero_add, Nat.zero_add] at h
          have hL := bf_listed (ops := ops.toList) (L := fun j => listed.getD j false = true) (fun j o' hj ho' e he hb => hcl j o' hj (by simpa using ho') e (by simpa using he) hb) (i + 1) i o (by omega) (by simpa using g2) (fun e he hb => g3 e (by simpa using he) hb) k h
          have hlt' : k < listed.size := by omega
          simp [hlt'] at hL q2
          rw [hL] at q2
          cases q2
        · exact h) H
      have hso := snd_F (Q := Q) (next := wpAny X.P .any ops Q fuel (listed.setIfInBounds i true)) (hget i _ o hio (by simpa using g2)) hbub A fun S' a' w' hK A' => by
        refine ih (listed.setIfInBounds i true) S' a' w' (by simpa using hs) (fun j o' hj ho' e he hb => ?_) ?_ ?_ A'
        · by_cases hji : j = i
          · subst hji
            rw [g2] at ho'
            cases ho'
            exact getD_set_true (g3 e he hb)
          · rw [getD_set_ne false (Ne.symm hji)] at hj
            exact getD_set_true (hcl j o' hj ho' e he hb)
        · rw [hset]
          have : (unl ops.size listed).length = (us ++ vs).length + 1 := by rw [huv]; simp; omega
          omega
        · rw [hset, List.map_append]
          exact hK
      unfold wpOp
      simp only [g2]
      split
      · rename_i hw; exact .inl (hso.1 hw)
      · rename_i hw; exact hso.2 (by simpa using hw)
theorem At.drew {φ : Nat → Option Pl} {S : St} {tm : Array Value} {w : World} (A : At R φ S tm w) : At R φ S tm { w with drawn := w.drawn + 1 } := by
  have hok : ∀ b, okOf R.w0 R.ok0 φ S.heap w b → okOf R.w0 R.ok0 φ S.heap { w with drawn := w.drawn + 1 } b ∧ ({ w with drawn := w.drawn + 1 } : World).heap[b]? = w.heap[b]? := fun b h => ⟨h, rfl⟩
  exact ⟨⟨fun id b hb => (A.h.blk id b hb).mono hok (fun _ _ h => ⟨h, rfl⟩) rfl (fun _ _ => rfl), A.h.inj, A.h.own, A.h.old, A.h.os, A.h.tape, A.h.output, A.h.size, A.h.ok0⟩, fun t => (A.env t).mono' hok fun _ _ h => ⟨h, rfl⟩, A.size, A.pin⟩
theorem snd_any {ops : Array Oper} {ios : List IOp} {K : St → Prop} {id : Nat} {S : St} {a : Act} {w : World} (hc : chkOpL X.P R.N ops ios ops.toList = true) (ha : chkAny ios ops.toList = true) (hk : ∀ S a w, K S → RepS R S a w → Q .normal a w)
    (H : wpL X ios K S) (A : RepS R S a w) : (Code.region id ops true).wp X.P Q a w := by
  refine wp_region_any X.hm (any_sound hc ha hk _ _ S a _ (by simp) (fun i o hi => ?_) ?_ ?_ ⟨⟨_, A.1.choose_spec.drew⟩, A.2⟩)
  · exfalso
    by_cases h : i < ops.size <;> simp [h] at hi
  · refine Nat.le_trans (List.length_filter_le _ _) (by simp)
  · have hlen : ios.length = ops.size := by simpa using (chkOpL_get hc).1
    have : (unl ops.size (Array.replicate ops.size false)).map (ios.getD · default) = ios := by
      have hu : unl ops.size (Array.replicate ops.size false) = List.range ops.size := by
        unfold unl
        rw [List.filter_eq_self]
        intro k hk
        have : k < ops.size := by simpa using hk
        simp [this]
      rw [hu]
      apply List.ext_getElem?
      intro k
      rw [List.getElem?_map]
      by_cases h : k < ops.size
      · rw [List.getElem?_range h]
        simp only [Option.map_some, List.getD_eq_getElem?_getD]
        rw [List.getElem?_eq_getElem (by omega)]
        rfl
      · rw [List.getElem?_eq_none (by simp; omega), List.getElem?_eq_none (by omega)]
        rfl
    rw [this]
    exact H
end
end Go.Proofs.YtmjkhbjfacfmcaaGreatDoor.VX
end
section
namespace Go.Proofs.YtmjkhbjfacfmcaaGreatDoor.VX
open Go Go.RowKit
set_option linter.unusedVariables false
set_option linter.unusedSimpArgs false
inductive C where
  | skip
  | reg (ops : List IOp)
  | seq (a b : C)
  | cond (c : O) (a b : C)
  | block (id : Nat) (b : C)
  | loop (b : C)
  | exit (id : Nat)
  | ret
  | keep (ts ids : List Nat) (a : C)
  | frz (id : Nat) (a : C)
  deriving Inhabited
inductive Ex where
  | n
  | x (id : Nat)
  | r
def thenE (next : St → Prop) (Q : Ex → St → Prop) : Ex → St → Prop
  | .n, S => next S
  | .x id, S => Q (.x id) S
  | .r, S => Q .r S
def blkE (id : Nat) (Q : Ex → St → Prop) : Ex → St → Prop
  | .n, S => Q .n S
  | .x k, S => if k = id then Q .n S else Q (.x k) S
  | .r, S => Q .r S
def wpC (X : Ctx) : C → (Ex → St → Prop) → St → Prop
  | .skip, Q, S => Q .n S
  | .reg ops, Q, S => wpL X ops (fun S => Q .n S) S
  | .seq a b, Q, S => wpC X a (thenE (fun S => wpC X b Q S) Q) S
  | .cond c a b, Q, S => match evO S.env c with
    | .v (.sc (.bool t)) => (t = true → wpC X a Q S) ∧ (t = false → wpC X b Q S)
    | _ => False
  | .block id b, Q, S => wpC X b (blkE id Q) S
  | .loop b, Q, S => ∀ I : St → Prop, (∀ S, wpC X b (thenE I Q) S → I S) → I S
  | .exit id, Q, S => Q (.x id) S
  | .ret, Q, S => Q .r S
  | .keep ts ids a, Q, S => okE ids S.env ts ∧ okH ids S.heap ids ∧ wpC X a Q ⟨mkE ts S.env, mkH ids S.heap⟩
  | .frz id a, Q, S => match S.heap id with
    | some b => match rowsB b with
      | some (sz, l) => 100 ≤ id ∧ wpC X a Q ⟨envTr (E.frz id sz l) S.env, del id (heapTr (E.frz id sz l) S.heap)⟩
      | none => False
    | none => wpC X a Q S
theorem thenE_mono {n n' : St → Prop} {Q Q' : Ex → St → Prop} (h1 : ∀ S, n S → n' S) (h2 : ∀ e S, Q e S → Q' e S) : ∀ e S, thenE n Q e S → thenE n' Q' e S
  | .n, S, h => h1 S h
  | .x id, S, h => h2 _ S h
  | .r, S, h => h2 _ S h
theorem wpC_mono {X : Ctx} : ∀ {c : C} {Q Q' : Ex → St → Prop} {S : St}, (∀ e S, Q e S → Q' e S) → wpC X c Q S → wpC X c Q' S
  | .skip, Q, Q', S, hq, h => hq _ _ h
  | .reg ops, Q, Q', S, hq, h => wpL_mono (fun S => hq _ S) h
  | .seq a b, Q, Q', S, hq, h => wpC_mono (c := a) (thenE_mono (fun S h => wpC_mono (c := b) hq h) hq) h
  | .cond c a b, Q, Q', S, hq, h => by
    unfold wpC at h ⊢
    split at h
    · exact ⟨fun ht => wpC_mono (c := a) hq (h.1 ht), fun ht => wpC_mono (c := b) hq (h.2 ht)⟩
    · exact h.elim
  | .block id b, Q, Q', S, hq, h => wpC_mono (c := b) (fun e S h => by
      cases e with
      | n => exact hq _ _ h
      | x k => simp only [blkE] at h ⊢; split <;> rename_i hk <;> simp only [hk, if_true, if_false] at h <;> exact hq _ _ h
      | r => exact hq _ _ h) h
  | .loop b, Q, Q', S, hq, h => fun I hI => h I fun S hS => hI S (wpC_mono (c := b) (thenE_mono (fun _ h => h) hq) hS)
  | .exit id, Q, Q', S, hq, h => hq _ _ h
  | .ret, Q, Q', S, hq, h => hq _ _ h
  | .keep ts ids a, Q, Q', S, hq, h => ⟨h.1, h.2.1, wpC_mono (c := a) hq h.2.2⟩
  | .frz id a, Q, Q', S, hq, h => by
    unfold wpC at h ⊢
    split at h
    · split at h
      · exact ⟨h.1, wpC_mono (c := a) hq h.2⟩
      · exact h.elim
    · exact wpC_mono (c := a) hq h
theorem wpC_loop {X : Ctx} {b : C} {Q : Ex → St → Prop} {S : St} (h : wpC X b (thenE (fun S => wpC X (.loop b) Q S) Q) S) : wpC X (.loop b) Q S :=
  fun I hI => hI S (wpC_mono (thenE_mono (fun S' h' => h' I hI) fun _ _ h => h) h)
def chkC (P : Program) (N : Nat) : C → Code → Bool
  | .keep _ _ a, c => chkC P N a c
  | .frz _ a, c => chkC P N a c
  | .skip, .skip => true
  | .skip, .label _ => true
  | .reg ios, .region _ ops draw => chkOpL P N ops ios ops.toList && (!draw || chkAny ios ops.toList)
  | .seq a b, .seq x y => chkC P N a x && chkC P N b y
  | .cond c a b, .cond o x y => chkO c o && chkC P N a x && chkC P N b y
  | .block id b, .block k x => id == k && chkC P N b x
  | .loop b, .loop x => chkC P N b x
  | .exit id, .exit k => id == k
  | .ret, .ret => true
  | _, _ => false
def Ex.to : Ex → Exit
  | .n => .normal
  | .x id => .exit id
  | .r => .ret
section
variable {X : Ctx} {R : Run X}
theorem RepS.keep {S : St} {a : Act} {w : World} (A : RepS R S a w) {ts ids : List Nat} (h1 : okE ids S.env ts) (h2 : okH ids S.heap ids) : RepS R ⟨mkE ts S.env, mkH ids S.heap⟩ a w := by
  obtain ⟨⟨φ, A⟩, hd⟩ := A
  obtain ⟨g1, g2⟩ := A.h.keep h2
  refine ⟨⟨φ, g1, fun t => ?_, A.size, fun k hk hs => ?_⟩, hd⟩
  · rcases mkE_get S.env ts t with h | ⟨h, ht⟩
    · show RepE _ _ _ _ (mkE ts S.env t) _
      rw [h]
      exact .dead _
    · show RepE _ _ _ _ (mkE ts S.env t) _
      rw [h]
      exact g2 _ _ (okE_get h1 t ht) (A.env t)
  · obtain ⟨b, hb⟩ := Option.isSome_iff_exists.1 hs
    have hb' := (mkH_some ids S.heap k b hb).1
    obtain ⟨p1, p2⟩ := A.pin k hk (by rw [hb']; rfl)
    refine ⟨p1, ?_⟩
    rw [← p2]
    show lnOf (mkH ids S.heap) k = lnOf S.heap k
    unfold lnOf
    rw [hb']
    exact congrArg (Option.map Blk.len) hb
theorem RepS.frz {S : St} {a : Act} {w : World} (A : RepS R S a w) {id sz : Nat} {b : Blk} {l : List (List V)} (h100 : 100 ≤ id) (hb : S.heap id = some b) (hr : rowsB b = some (sz, l)) :
    RepS R ⟨envTr (E.frz id sz l) S.env, del id (heapTr (E.frz id sz l) S.heap)⟩ a w := by
  obtain ⟨⟨φ, A⟩, hd⟩ := A
  exact ⟨⟨φ, A.frz h100 hb hr⟩, hd⟩
theorem snd_C : ∀ {ir : C} {c : Code} {Q : Ex → St → Prop} {S : St} {a : Act} {w : World} {Qc : Exit → Act → World → Prop}, chkC X.P R.N ir c = true → wpC X ir Q S → RepS R S a w → (∀ e S a w, Q e S → RepS R S a w → Qc e.to a w) → c.wp X.P Qc a w
  | .keep ts ids ir, c, Q, S, a, w, Qc, hc, h, A, hq => by
    have hc' : chkC X.P R.N ir c = true := by
      cases c <;> exact hc
    exact snd_C hc' h.2.2 (A.keep h.1 h.2.1) hq
  | .frz id ir, c, Q, S, a, w, Qc, hc, h, A, hq => by
    have hc' : chkC X.P R.N ir c = true := by
      cases c <;> exact hc
    unfold wpC at h
    split at h
    · rename_i b hb
      split at h
      · rename_i sz l hr
        exact snd_C hc' h.2 (A.frz h.1 hb hr) hq
      · exact h.elim
    · exact snd_C hc' h A hq
  | .skip, c, Q, S, a, w, Qc, hc, h, A, hq => by
    cases c <;> simp only [chkC, Bool.false_eq_true] at hc
    · exact wp_skip (hq .n S a w h A)
    · exact wp_label (hq .n S a w h A)
  | .reg ios, c, Q, S, a, w, Qc, hc, h, A, hq => by
    cases c <;> simp only [chkC, Bool.false_eq_true] at hc
    rename_i id ops draw
    rw [Bool.and_eq_true] at hc
    cases draw with
    | false => exact wp_region_list (snd_L (fun S a w hS A => hq .n S a w hS A) hc.1 h A)
    | true => exact snd_any hc.1 (by simpa using hc.2) (fun S a w hS A => hq .n S a w hS A) h A
  | .seq x y, c, Q, S, a, w, Qc, hc, h, A, hq => by
    cases c <;> simp only [chkC, Bool.false_eq_true] at hc
    rw [Bool.and_eq_true] at hc
    refine wp_seq (snd_C hc.1 h A fun e S a w he A => ?_)
    cases e with
    | n => exact snd_C hc.2 he A hq
    | x id => exact hq _ S a w he A
    | r => exact hq _ S a w he A
  | .cond o x y, c, Q, S, a, w, Qc, hc, h, A, hq => by
    cases c <;> simp only [chkC, Bool.false_eq_true] at hc
    rw [Bool.and_eq_true, Bool.and_eq_true] at hc
    unfold wpC at h
    obtain ⟨φ, A0⟩ := A.1
    have hr := rep_O hc.1.1 A0.env
    split at h
    · rename_i t he
      rw [he] at hr
      refine wp_cond (t := t) (repV_sc hr) ?_
      cases t with
      | true => exact snd_C hc.1.2 (h.1 rfl) A hq
      | false => exact snd_C hc.2 (h.2 rfl) A hq
    · exact h.elim
  | .block id b, c, Q, S, a, w, Qc, hc, h, A, hq => by
    cases c <;> simp only [chkC, Bool.false_eq_true] at hc
    rw [Bool.and_eq_true, beq_iff_eq] at hc
    obtain ⟨rfl, hc⟩ := hc
    refine wp_block (snd_C hc h A fun e S a w he A => ?_)
    cases e with
    | n => exact hq _ S a w he A
    | x k =>
      simp only [blkE] at he
      simp only [Ex.to, Exit.inBlock]
      split
      · rename_i hk; rw [if_pos hk] at he; exact hq _ S a w he A
      · rename_i hk; rw [if_neg hk] at he; exact hq _ S a w he A
    | r => exact hq _ S a w he A
  | .loop b, c, Q, S, a, w, Qc, hc, h, A, hq => by
    cases c <;> simp only [chkC, Bool.false_eq_true] at hc
    rename_i c
    have key : ∀ a w, RepS R S a w → ∀ (f : Frame) (k : List Item) (cs : List Frame), ∃ e a' w', Qc e a' w' ∧ Arrives X.P (lone (f.at a (.code c :: .inLoop c :: k)) cs w) f k cs e a' w' := by
      refine h (fun S => ∀ a w, RepS R S a w → ∀ (f : Frame) (k : List Item) (cs : List Frame), ∃ e a' w', Qc e a' w' ∧ Arrives X.P (lone (f.at a (.code c :: .inLoop c :: k)) cs w) f k cs e a' w') fun S hS a w A f k cs => ?_
      have hb : c.wp X.P (Exit.then (fun a w => ∀ (f : Frame) (k : List Item) (cs : List Frame), ∃ e a' w', Qc e a' w' ∧ Arrives X.P (lone (f.at a (.code c :: .inLoop c :: k)) cs w) f k cs e a' w') Qc) a w := by
        refine snd_C hc hS A fun e S a w he A => ?_
        cases e with
        | n => exact he a w A
        | x id => exact hq _ S a w he A
        | r => exact hq _ S a w he A
      obtain ⟨e, a₁, w₁, hq', harr⟩ := hb f (.inLoop c :: k) cs
      cases e with
      | normal =>
        obtain ⟨e₂, a₂, w₂, hq₂, harr₂⟩ := hq' f k cs
        exact ⟨e₂, a₂, w₂, hq₂, .of_steps (Steps.trans harr (.one step_inLoop)) harr₂⟩
      | exit id => exact ⟨_, a₁, w₁, hq', .pass (x := .inLoop c) rfl (fun _ _ => .inl (by simp)) harr⟩
      | goto l => exact ⟨_, a₁, w₁, hq', .pass (x := .inLoop c) rfl (fun _ _ => .inl (by simp)) harr⟩
      | ret => exact ⟨_, a₁, w₁, hq', .pass (x := .inLoop c) rfl (fun _ _ => .inl (by simp)) harr⟩
      | panic ch => exact ⟨_, a₁, w₁, hq', .pass (x := .inLoop c) rfl (fun _ _ => .inl (by simp)) harr⟩
      | outgrown => exact ⟨_, a₁, w₁, hq', .pass (x := .inLoop c) rfl (fun _ _ => .inl (by simp)) harr⟩
    intro f k cs
    obtain ⟨e, a', w', q, r⟩ := key a w A f k cs
    exact ⟨e, a', w', q, .of_steps (.one step_loop) r⟩
  | .exit id, c, Q, S, a, w, Qc, hc, h, A, hq => by
    cases c <;> simp only [chkC, Bool.false_eq_true] at hc
    rw [beq_iff_eq] at hc
    subst hc
    exact wp_exit (hq _ S a w h A)
  | .ret, c, Q, S, a, w, Qc, hc, h, A, hq => by
    cases c <;> simp only [chkC, Bool.false_eq_true] at hc
    exact wp_ret (hq _ S a w h A)
end
end Go.Proofs.YtmjkhbjfacfmcaaGreatDoor.VX
end
section
namespace Go.Proofs.YtmjkhbjfacfmcaaGreatDoor.VX
open Go Go.RowKit
set_option linter.unusedVariables false
set_option linter.unusedSimpArgs false
inductive RV where
  | t (n : Nat)
  | c (n sz : Nat) (ag : Bool)
  deriving Inhabited
def evRes1 (r : RV) (S : St) (K : E → Prop) : Prop := match r with
  | .t n => K (S.env n)
  | .c n sz ag => evLd sz ag (S.env n) S.heap K
def evRes : List RV → St → (List E → Prop) → Prop
  | [], _, K => K []
  | r :: l, S, K => evRes1 r S fun e => evRes l S fun es => K (e :: es)
def outE : List E → E
  | [] => .v (.tu [])
  | [e] => e
  | e :: f :: l => mkTu (e :: f :: l)
def retQ (res : List RV) (rids : List Nat) (Q : Heap → E → Prop) : Ex → St → Prop
  | .n, S => evRes res S fun es => (outE es).ids (fun i => rids.contains i) = true ∧ okH rids S.heap rids ∧ Q (mkH rids S.heap) (outE es)
  | .r, S => evRes res S fun es => (outE es).ids (fun i => rids.contains i) = true ∧ okH rids S.heap rids ∧ Q (mkH rids S.heap) (outE es)
  | .x _, _ => False
def argE : Nat → List E → Env
  | _, [] => fun _ => .dead
  | i, e :: l => upd (argE (i + 1) l) i e
def chkRVs (P : Program) : List RV → List ResultVar → Bool
  | [], [] => true
  | .t n :: l, .tmp m :: k => n == m && chkRVs P l k
  | .c n sz ag :: l, .cell m t :: k => n == m && szOf P t == some sz && agOf P t == some ag && chkRVs P l k
  | _, _ => false
theorem argE_get : ∀ (l : List E) (i t : Nat), argE i l t = if i ≤ t then (l[t - i]?).getD .dead else .dead
  | [], i, t => by simp [argE]
  | e :: l, i, t => by
    unfold argE
    by_cases h : t = i
    · subst h
      rw [upd_same]
      simp
    · rw [upd_ne _ _ _ h, argE_get l (i + 1) t]
      by_cases h2 : i ≤ t
      · rw [if_pos h2, if_pos (by omega), show t - i = (t - (i + 1)) + 1 by omega, List.getElem?_cons_succ]
      · rw [if_neg h2, if_neg (by omega)]
section
variable {X : Ctx} {R : Run X} {φ : Nat → Option Pl}
def outV : List Value → Value
  | [] => .tuple #[]
  | [u] => u
  | u :: v :: l => .tuple (u :: v :: l).toArray
def resV (P : Program) (tmps : Array Value) (w : World) (r : ResultVar) (u : Value) : Prop :=
  (match r with | .tmp t => (pure (tmps.getD t undef) : Sem Value) | .cell a t => do loadVar t (← asAddr (tmps.getD a undef))).run P w = .ok u w
theorem mapM_run {P : Program} {w : World} (F : ResultVar → Sem Value) : ∀ {rs : List ResultVar} {us : List Value}, us.length = rs.length → (∀ (i : Nat) r u, rs[i]? = some r → us[i]? = some u → (F r).run P w = .ok u w) → (rs.mapM F).run P w = .ok us w
  | [], [], _, _ => by simp
  | r :: rs, u :: us, hl, h => by
    have h0 := h 0 r u rfl rfl
    have ih := mapM_run F (rs := rs) (us := us) (by simpa using hl) fun i r u hr hu => h (i + 1) r u (by simpa using hr) (by simpa using hu)
    rw [List.mapM_cons, Sem.run_bind, h0]
    simp only [Result.andThen_ok, Sem.run_bind, ih]
    simp
  | [], _ :: _, hl, _ => by simp at hl
  | _ :: _, [], hl, _ => by simp at hl
theorem results_of {P : Program} {fn : Func} {tmps : Array Value} {w : World} {us : List Value} (hl : us.length = fn.results.toList.length) (h4 : us.length ≤ 4) (h : ∀ (i : Nat) r u, fn.results.toList[i]? = some r → us[i]? = some u → resV P tmps w r u) :
    (results fn tmps).run P w = .ok (outV us) w := by
  unfold results
  have key := mapM_run (P := P) (w := w) (fun | .tmp t => (pure (tmps.getD t undef) : Sem Value) | .cell a t => do loadVar t (← asAddr (tmps.getD a undef))) hl h
  rw [Sem.run_bind, Array.mapM_eq_mapM_toList]
  rw [map_eq_pure_bind, Sem.run_bind]
  erw [key]
  simp only [Result.andThen_ok]
  match us with
  | [] => simp [outV]
  | [u] => simp [outV]
  | u :: v :: l => simp [outV]
theorem load_asAddr {P : Program} {t : TypeId} {v u : Value} {w : World} (h : (Instr.loadAt t v).run P w = .ok u w) : (do loadVar t (← asAddr v) : Sem Value).run P w = .ok u w := by
  unfold Instr.loadAt at h
  rw [Sem.run_bind] at h ⊢
  cases v with
  | pointer p =>
    cases p with
    | none => simp [Instr.sureAddr, stuck, Sem.run, Result.andThen] at h
    | some a => simpa [Instr.sureAddr, asAddr] using h
  | _ => simp [Instr.sureAddr, stuck, Sem.run, Result.andThen] at h
theorem res_rep {S : St} {tm : Array Value} {w : World} (A : At R φ S tm w) : ∀ {l : List RV} {k : List ResultVar} {K : List E → Prop}, chkRVs X.P l k = true → evRes l S K →
    ∃ es us, K es ∧ es.length = k.length ∧ us.length = k.length ∧ (∀ (i : Nat) r u, k[i]? = some r → us[i]? = some u → resV X.P tm w r u) ∧ RepAs w (okOf R.w0 R.ok0 φ S.heap w) φ (lnOf S.heap) es us
  | [], [], K, _, h => ⟨[], [], h, rfl, rfl, by simp, rfl, by simp⟩
  | .t n :: l, .tmp m :: k, K, hc, h => by
    rw [chkRVs, Bool.and_eq_true, beq_iff_eq] at hc
    obtain ⟨rfl, hc⟩ := hc
    obtain ⟨es, us, h1, h2, h3, h4, h5⟩ := res_rep A hc h
    refine ⟨_, tm.getD n undef :: us, h1, by simp [h2], by simp [h3], fun i r u hr hu => ?_, by simp [h5.1], fun i x u hx hu => ?_⟩
    · cases i with
      | zero =>
        obtain rfl : ResultVar.tmp n = r := by simpa using hr
        obtain rfl : tm.getD n undef = u := by simpa using hu
        rfl
      | succ i => exact h4 i r u (by simpa using hr) (by simpa using hu)
    · cases i with
      | zero =>
        obtain rfl : S.env n = x := by simpa using hx
        obtain rfl : tm.getD n undef = u := by simpa using hu
        exact A.env n
      | succ i => exact h5.2 i x u (by simpa using hx) (by simpa using hu)
  | .c n sz ag :: l, .cell m t :: k, K, hc, h => by
    rw [chkRVs, Bool.and_eq_true, Bool.and_eq_true, Bool.and_eq_true, beq_iff_eq, beq_iff_eq, beq_iff_eq] at hc
    obtain ⟨⟨⟨rfl, hsz⟩, hag⟩, hc⟩ := hc
    obtain ⟨it, q3, q4⟩ := szOf_spec hsz
    obtain ⟨d, q5, q6⟩ := agOf_spec hag
    obtain ⟨u0, r0, g1, g2, g3⟩ := snd_ld (P := X.P) ⟨d, it, q5, q6, q3, q4⟩ A.h.blk (fun _ => rfl) (A.env n) (K := fun e => evRes l S fun es => K (e :: es)) h
    obtain ⟨es, us, h1, h2, h3, h4, h5⟩ := res_rep A hc g3
    refine ⟨_, u0 :: us, h1, by simp [h2], by simp [h3], fun i r u hr hu => ?_, by simp [h5.1], fun i x u hx hu => ?_⟩
    · cases i with
      | zero =>
        obtain rfl : ResultVar.cell n t = r := by simpa using hr
        obtain rfl : u0 = u := by simpa using hu
        exact load_asAddr g1
      | succ i => exact h4 i r u (by simpa using hr) (by simpa using hu)
    · cases i with
      | zero =>
        obtain rfl : r0 = x := by simpa using hx
        obtain rfl : u0 = u := by simpa using hu
        exact g2
      | succ i => exact h5.2 i x u (by simpa using hx) (by simpa using hu)
  | [], _ :: _, _, hc, _ => by simp [chkRVs] at hc
  | .t _ :: _, [], _, hc, _ => by simp [chkRVs] at hc
  | .c _ _ _ :: _, [], _, hc, _ => by simp [chkRVs] at hc
  | .t _ :: _, .cell _ _ :: _, _, hc, _ => by simp [chkRVs] at hc
  | .c _ _ _ :: _, .tmp _ :: _, _, hc, _ => by simp [chkRVs] at hc
theorem rep_out {w : World} {ok : Nat → Prop} {ln : Nat → Option Nat} {es : List E} {us : List Value} (h : RepAs w ok φ ln es us) : RepE w ok φ ln (outE es) (outV us) := by
  match es, us, h with
  | [], [], h => exact .v _ _ (.tu [] #[] rfl (by simp))
  | [e], [u], h => exact h.2 0 e u rfl rfl
  | e :: f :: l, u :: v :: m, h => exact rep_mkTu (.tu _ _ (by simpa using h.1) fun i x y hx hy => h.2 i x y hx (by simpa using hy))
  | [], _ :: _, h => exact absurd h.1 (by simp)
  | [_], [], h => exact absurd h.1 (by simp)
  | _ :: _ :: _, [], h => exact absurd h.1 (by simp)
  | [_], _ :: _ :: _, h => exact absurd h.1 (by simp)
  | _ :: _ :: _, [_], h => exact absurd h.1 (by simp)
theorem ctr_of {f : Nat} {fn : Func} {c : Code} {ir : C} {res : List RV} {rids : List Nat} {H0 : Heap} {args : List E} {Q : Heap → E → Prop} (hf : X.P.funcs[f]? = some fn) (hb : fn.body = some c)
    (hc : (chkC X.P fn.ntmps ir c && chkRVs X.P res fn.results.toList && decide (res.length ≤ 4) && decide (args.length ≤ fn.ntmps)) = true) (h : wpC X ir (retQ res rids Q) ⟨argE 0 args, H0⟩) : Ctr X f H0 args Q := by
  simp only [Bool.and_eq_true, decide_eq_true_eq] at hc
  obtain ⟨⟨⟨hc, hres⟩, h4⟩, hn⟩ := hc
  intro w ok0 φ vals G ng HR mg lt RA
  refine calls_of_wp hf hb ?_
  have hsz : (vals.toArray ++ Array.replicate (fn.ntmps - vals.toArray.size) undef).size = fn.ntmps := by
    have := RA.1
    simp
    omega
  let R : Run X := ⟨w, Mine H0 φ, ok0, φ, lnOf H0, fn.ntmps, G, ng, mg⟩
  have A : RepS R ⟨argE 0 args, H0⟩ { tmps := vals.toArray ++ Array.replicate (fn.ntmps - vals.toArray.size) undef, defers := [] } w := by
    refine ⟨⟨φ, HR, fun t => ?_, hsz, fun k _ _ => ⟨rfl, rfl⟩⟩, rfl⟩
    show RepE _ _ _ _ (argE 0 args t) _
    rw [argE_get, if_pos (Nat.zero_le _), Nat.sub_zero]
    by_cases ht : t < args.length
    · have hv : t < vals.length := by rw [RA.1]; exact ht
      have := RA.2 t _ _ (List.getElem?_eq_getElem ht) (List.getElem?_eq_getElem hv)
      rw [List.getElem?_eq_getElem ht]
      have e : (vals.toArray ++ Array.replicate (fn.ntmps - vals.toArray.size) undef).getD t undef = vals[t] := by
        simp [Array.getElem?_append, hv]
      rw [e]
      exact this
    · rw [List.getElem?_eq_none (by omega)]
      exact .dead _
  have fin : ∀ (S : St) (a : Act) (w' : World), (evRes res S fun es => (outE es).ids (fun i => rids.contains i) = true ∧ okH rids S.heap rids ∧ Q (mkH rids S.heap) (outE es)) → RepS R S a w' → a.defers = [] ∧ ∃ v, (results fn a.tmps).run X.P w' = .ok v w' ∧
      ∃ v' H1 r φ', Ending.returned v = .returned v' ∧ Q H1 r ∧ HRep w (Mine H0 φ) ok0 φ' H1 w' ∧ RepE w' (okOf w ok0 φ' H1 w') φ' (lnOf H1) r v' ∧ ∀ k, k < 50 → (H1 k).isSome = true → φ' k = φ k ∧ lnOf H1 k = lnOf H0 k := by
    intro S a w' hr A'
    obtain ⟨⟨φ1, A1⟩, hd⟩ := A'
    obtain ⟨es, us, ⟨k1, k2, k3⟩, g2, g3, g4, g5⟩ := res_rep A1 hres hr
    have hrl : ∀ {l : List RV} {k : List ResultVar}, chkRVs X.P l k = true → l.length = k.length := by
      intro l
      induction l with
      | nil => intro k h; cases k <;> simp [chkRVs] at h ⊢
      | cons r l ih =>
        intro k h
        cases k with
        | nil => cases r <;> simp [chkRVs] at h
        | cons q k =>
          cases r <;> cases q <;> simp only [chkRVs, Bool.false_eq_true, Bool.and_eq_true] at h
          · simp [ih h.2]
          · simp [ih h.2]
    refine ⟨hd, _, results_of g3 (by have := hrl hres; omega) g4, _, _, _, φ1, rfl, k3, ?_, ?_, fun k hk hs => ?_⟩
    · exact (A1.h.keep k2).1
    · exact (A1.h.keep k2).2 _ _ k1 (rep_out g5)
    · obtain ⟨b, hb'⟩ := Option.isSome_iff_exists.1 hs
      have hb2 := (mkH_some rids S.heap k b hb').1
      obtain ⟨p1, p2⟩ := A1.pin k hk (by rw [hb2]; rfl)
      refine ⟨p1, ?_⟩
      rw [show lnOf H0 k = lnOf S.heap k from p2.symm]
      unfold lnOf
      rw [hb2, hb']
  refine snd_C (R := R) hc h A fun e S a w' he A' => ?_
  cases e with
  | n => exact fin S a w' he A'
  | x id => exact he.elim
  | r => exact fin S a w' he A'
end
end Go.Proofs.YtmjkhbjfacfmcaaGreatDoor.VX
end
section
namespace Go.Proofs.YtmjkhbjfacfmcaaGreatDoor.VX
open Go Go.RowKit
set_option linter.unusedVariables false
set_option linter.unusedSimpArgs false
theorem RepB.tr {w w' : World} {ok ok' : Nat → Prop} {φ φ' : Nat → Option Pl} {ln ln' : Nat → Option Nat} {id id' : Nat} {b : Blk} (f : E → E) (h : ∀ b, ok b → ok' b ∧ w'.heap[b]? = w.heap[b]?)
    (hf : ∀ e cs, b = .m e cs → ∀ x ∈ cs, ∀ u, RepE w ok φ ln x u → RepE w' ok' φ' ln' (f x) u) (hφ : φ' id' = φ id) (hb : ∀ pl, φ id = some pl → w'.heap[pl.b]? = w.heap[pl.b]?) (r : RepB w ok φ ln id b) : RepB w' ok' φ' ln' id' (b.tr f) := by
  cases b with
  | p e sz l =>
    obtain ⟨h0, h1⟩ := r
    refine ⟨h0, ?_⟩
    rcases h1 with ⟨h1, h2⟩ | ⟨pl, cur, h1, h2, h3, h4, h5, h6, h7, h8⟩
    · exact .inl ⟨hφ.trans h1, h2⟩
    · refine .inr ⟨pl, cur, hφ.trans h1, h2, h3, h4, h5, (hb pl h1).trans h6, h7, fun j f r x hj hf => ?_⟩
      obtain ⟨u, hu, h9, h10⟩ := h8 j f r x hj hf
      exact ⟨u, hu, h9, h10.mono h⟩
  | m e cs =>
    obtain ⟨pl, cur, h1, h2, h3, h4, h5, h6, h7⟩ := r
    refine ⟨pl, cur, hφ.trans h1, h2, by simpa using h3, h4, (hb pl h1).trans h5, by simpa using h6, fun i x hx => ?_⟩
    rw [List.getElem?_map, Option.map_eq_some_iff] at hx
    obtain ⟨y, hy, rfl⟩ := hx
    obtain ⟨u, hu, h8, h9⟩ := h7 i y hy
    exact ⟨u, hu, h8, hf e cs rfl y (List.mem_of_getElem? hy) u h9⟩
def killL (l : List Nat) (e : E) : E := if e.ids (fun i => !l.contains i) then e else .dead
theorem RepE.killL {w w' : World} {ok ok' : Nat → Prop} {φ φ' : Nat → Option Pl} {ln ln' : Nat → Option Nat} (l : List Nat) (h : ∀ b, ok b → ok' b ∧ w'.heap[b]? = w.heap[b]?)
    (hi : ∀ id L, (!l.contains id) = true → ln id = some L → ln' id = some L ∧ φ' id = φ id) {e : E} {u : Value} (r : RepE w ok φ ln e u) : RepE w' ok' φ' ln' (VX.killL l e) u := by
  unfold VX.killL
  split
  · rename_i hp
    exact r.mono (fun i => !l.contains i) h hi hp
  · exact .dead u
theorem idsL_mem {p : Nat → Bool} {l : List E} (h : idsL p l = true) {x : E} (hx : x ∈ l) : x.ids p = true := by
  obtain ⟨i, hi⟩ := List.mem_iff_getElem?.1 hx
  exact idsL_get h i x hi
structure Names2 (lend new : List (Nat × Nat)) : Prop where
  k100 : ∀ p ∈ lend, p.1 < 100
  n100 : ∀ p ∈ new, 100 ≤ p.1
  c50 : ∀ p ∈ new, 50 ≤ p.2
  u50 : ∀ p ∈ lend, 50 ≤ p.1 → 50 ≤ p.2
  fst : ∀ p ∈ lend ++ new, ∀ q ∈ lend ++ new, p.1 = q.1 → p = q
  snd : ∀ p ∈ lend ++ new, ∀ q ∈ lend ++ new, p.2 = q.2 → p = q
  mix : (∀ p ∈ lend, 50 ≤ p.1 → p.2 < 100) ∨ (∀ p ∈ lend, 50 ≤ p.1 → 100 ≤ p.2)
def namesB2 (lend new : List (Nat × Nat)) : Bool :=
  lend.all (fun p => decide (p.1 < 100) && (decide (p.1 < 50) || decide (50 ≤ p.2))) && new.all (fun p => decide (100 ≤ p.1) && decide (50 ≤ p.2)) && ((lend ++ new).all fun p => (lend ++ new).all fun q => (p.1 != q.1 || p == q) && (p.2 != q.2 || p == q)) &&
    (lend.all (fun p => decide (p.1 < 50) || decide (p.2 < 100)) || lend.all (fun p => decide (p.1 < 50) || decide (100 ≤ p.2)))
theorem namesB2_spec {lend new : List (Nat × Nat)} (h : namesB2 lend new = true) : Names2 lend new := by
  simp only [namesB2, Bool.and_eq_true, List.all_eq_true, decide_eq_true_eq, Bool.or_eq_true, bne_iff_ne, beq_iff_eq] at h
  obtain ⟨⟨⟨h1, h2⟩, h3⟩, h4⟩ := h
  refine ⟨fun p hp => (h1 p hp).1, fun p hp => (h2 p hp).1, fun p hp => (h2 p hp).2, fun p hp h50 => ?_, fun p hp q hq e => ((h3 p hp q hq).1).resolve_left (fun hne => hne e), fun p hp q hq e => ((h3 p hp q hq).2).resolve_left (fun hne => hne e), ?_⟩
  · rcases (h1 p hp).2 with h | h
    · omega
    · exact h
  · rcases h4 with h | h
    · refine .inl fun p hp h50 => ?_
      rcases h p hp with h | h
      · omega
      · exact h
    · refine .inr fun p hp h50 => ?_
      rcases h p hp with h | h
      · omega
      · exact h
def lentH2 (l : List (Nat × Nat)) (h : Heap) (k : Nat) : Option Blk := match l.find? (fun p => p.1 == k) with | some p => (h p.2).map (Blk.tr (E.ren fun c => (toK l c).getD 0)) | none => none
def gone (l : List (Nat × Nat)) : List Nat := (l.filter fun p => decide (50 ≤ p.1)).map (·.2)
def backH2 (l : List (Nat × Nat)) (u : List Nat) (H : Heap) (h : Heap) (c : Nat) : Option Blk := match toK l c with | some k => (H k).map (Blk.tr (E.ren (toC l))) | none => (h c).map (Blk.tr (killL u))
theorem map_tr_some {f : E → E} {o : Option Blk} {b : Blk} (h : o.map (Blk.tr f) = some b) : ∃ b', o = some b' ∧ b = b'.tr f := by
  rw [Option.map_eq_some_iff] at h
  obtain ⟨b', h1, rfl⟩ := h
  exact ⟨b', h1, rfl⟩
theorem lnOf_map {f : E → E} {h : Heap} {h' : Heap} {c k : Nat} (e : h' c = (h k).map (Blk.tr f)) : lnOf h' c = lnOf h k := by
  unfold lnOf
  rw [e]
  cases h k with
  | none => rfl
  | some b => simp [Blk.tr_len]
theorem map_isSome_tr {f : E → E} {o : Option Blk} : (o.map (Blk.tr f)).isSome = o.isSome := by cases o <;> rfl
section
variable {X : Ctx} {f : Nat} {lend new : List (Nat × Nat)} {es : List E} {S : St} {K : E → St → Prop} {Q : Heap → E → Prop}
theorem call_of2 (hn : namesB2 lend new = true) (hl : ∀ p ∈ lend, ∃ b, S.heap p.2 = some b ∧ b.ids (fun c => (lend.any fun q => q.2 == c)) = true) (hw : ∀ p ∈ new, S.heap p.2 = none) (hes : ∀ e ∈ es, e.ids (fun c => (lend.any fun p => p.2 == c)) = true)
    (hc : Ctr X f (lentH2 lend S.heap) (es.map (E.ren fun c => (toK lend c).getD 0)) Q)
    (hk : ∀ H1 r, Q H1 r → (∀ k b, H1 k = some b → (∃ c, (k, c) ∈ lend ++ new) ∧ b.ids (fun i => (H1 i).isSome) = true) ∧ (∀ p ∈ lend, p.1 < 50 → (H1 p.1).isSome = true) ∧ r.ids (fun k => (H1 k).isSome) = true ∧
      K (r.ren (toC (lend ++ new))) ⟨envTr (killL (gone lend)) S.env, backH2 (lend ++ new) (gone lend) H1 S.heap⟩) :
    evCall X f es S K := by
  intro R φ tm w vals A RA
  have N := namesB2_spec hn
  have lf : ∀ p ∈ lend, ∀ q ∈ lend, p.1 = q.1 → p = q := fun p hp q hq => N.fst p (by simp [hp]) q (by simp [hq])
  have ls : ∀ p ∈ lend, ∀ q ∈ lend, p.2 = q.2 → p = q := fun p hp q hq => N.snd p (by simp [hp]) q (by simp [hq])
  have h0 : ∀ p ∈ lend, lentH2 lend S.heap p.1 = (S.heap p.2).map (Blk.tr (E.ren fun c => (toK lend c).getD 0)) ∧ lentP lend φ p.1 = φ p.2 := fun p hp => by
    unfold lentH2 lentP
    rw [find_fst lf hp]
    exact ⟨rfl, rfl⟩
  have lsome : ∀ k, (lentH2 lend S.heap k).isSome = true → ∃ c, (k, c) ∈ lend := fun k hk => by
    unfold lentH2 at hk
    cases hq : lend.find? (fun p => p.1 == k) with
    | some p =>
      have h1 := List.mem_of_find?_eq_some hq
      have h2 : p.1 = k := by simpa using List.find?_some hq
      exact ⟨p.2, by rw [← h2]; exact h1⟩
    | none => rw [hq] at hk; cases hk
  have hsome : ∀ p ∈ lend, (S.heap p.2).isSome = true := fun p hp => by
    obtain ⟨b, hb, _⟩ := hl p hp
    rw [hb]; rfl
  have mine : ∀ b, Mine (lentH2 lend S.heap) (lentP lend φ) b → ∃ p ∈ lend, ∃ pl, φ p.2 = some pl ∧ pl.b = b := fun b ⟨id, pl, h1, h2, h3⟩ => by
    obtain ⟨c, g1⟩ := lsome id h1
    exact ⟨(id, c), g1, pl, (h0 _ g1).2 ▸ h2, h3⟩
  have okmine : ∀ b, okOf R.w0 R.ok0 φ S.heap w b → ¬ Mine (lentH2 lend S.heap) (lentP lend φ) b := fun b hb hm => by
    obtain ⟨p, hp, pl, h1, h2⟩ := mine b hm
    exact hb.2.2 _ pl (hsome p hp) h1 h2
  have okc : ∀ b, okOf R.w0 R.ok0 φ S.heap w b → okOf w (okOf R.w0 R.ok0 φ S.heap w) (lentP lend φ) (lentH2 lend S.heap) w b := fun b hb =>
    ⟨.inl hb, hb.2.1, fun id pl h1 h2 h3 => by
      obtain ⟨c, g1⟩ := lsome id h1
      exact hb.2.2 c pl (hsome _ g1) ((h0 _ g1).2 ▸ h2) h3⟩
  have hi0 : ∀ id L, (lend.any fun q => q.2 == id) = true → lnOf S.heap id = some L → lnOf (lentH2 lend S.heap) ((toK lend id).getD 0) = some L ∧ lentP lend φ ((toK lend id).getD 0) = φ id := fun id L hp hL => by
    rw [List.any_eq_true] at hp
    obtain ⟨q, hq, hqe⟩ := hp
    have hqe : q.2 = id := by simpa using hqe
    subst hqe
    rw [toK_mem ls hq]
    obtain ⟨g1, g2⟩ := h0 q hq
    exact ⟨(lnOf_map g1).trans hL, g2⟩
  have HR : HRep w (Mine (lentH2 lend S.heap) (lentP lend φ)) (okOf R.w0 R.ok0 φ S.heap w) (lentP lend φ) (lentH2 lend S.heap) w := by
    refine ⟨fun id b hb => ?_, fun id id' pl pl' h1 h2 h3 h4 h5 => ?_, fun id pl h1 h2 => ?_, fun _ _ _ => rfl, rfl, rfl, rfl, Nat.le_refl _, fun b hb => ⟨hb.2.1, okmine b hb⟩⟩
    · obtain ⟨c, g1⟩ := lsome id (by rw [hb]; rfl)
      rw [(h0 _ g1).1] at hb
      obtain ⟨b', hb', rfl⟩ := map_tr_some hb
      obtain ⟨b2, hb2, hids⟩ := hl _ g1
      obtain rfl : b' = b2 := Option.some.inj (hb'.symm.trans hb2)
      refine (A.h.blk c b' hb').tr _ (fun b hb => ⟨okc b hb, rfl⟩) (fun e cs hcs x hx u hu => ?_) (h0 _ g1).2 fun _ _ => rfl
      subst hcs
      exact hu.ren _ _ (fun b hb => ⟨okc b hb, rfl⟩) hi0 (idsL_mem hids hx)
    · obtain ⟨c, g1⟩ := lsome id h1
      obtain ⟨c', g1'⟩ := lsome id' h2
      have := A.h.inj c c' pl pl' (hsome _ g1) (hsome _ g1') ((h0 _ g1).2 ▸ h3) ((h0 _ g1').2 ▸ h4) h5
      exact congrArg Prod.fst (ls _ g1 _ g1' this)
    · obtain ⟨c, g1⟩ := lsome id h1
      have hid := N.k100 _ g1
      exact ⟨(A.h.own c pl (hsome _ g1) ((h0 _ g1).2 ▸ h2)).1, .inr ⟨⟨id, pl, h1, h2, rfl⟩, hid⟩⟩
  obtain ⟨gG, gng⟩ := A.gw
  refine (hc w _ (lentP lend φ) vals gG gng HR (fun b hb => ?_) (fun id hid => ?_) ?_).mono ?_
  · obtain ⟨p, hp, pl, h1, h2⟩ := mine b hb
    rcases (A.h.own p.2 pl (hsome p hp) h1).2 with h | h
    · have := R.ng; omega
    · exact h2 ▸ R.mg _ h.1
  · obtain ⟨c, g1⟩ := lsome id hid
    exact N.k100 _ g1
  · refine ⟨by simpa using RA.1, fun i x u hx hu => ?_⟩
    rw [List.getElem?_map, Option.map_eq_some_iff] at hx
    obtain ⟨y, hy, rfl⟩ := hx
    exact (RA.2 i y u hy hu).ren _ _ (fun b hb => ⟨okc b hb, rfl⟩) hi0 (hes y (List.mem_of_getElem? hy))
  rintro e w' ⟨v, H1, r, φ', rfl, hQ, HR', hr, pin⟩
  obtain ⟨k1, k2, k3, k4⟩ := hk H1 r hQ
  have pinned : ∀ p ∈ lend, p.1 < 50 → φ' p.1 = φ p.2 ∧ lnOf H1 p.1 = lnOf S.heap p.2 := fun p hp h50 => by
    obtain ⟨g1, g2⟩ := pin p.1 h50 (k2 p hp h50)
    obtain ⟨g3, g4⟩ := h0 p hp
    exact ⟨g1.trans g4, g2.trans (lnOf_map g3)⟩
  have goneM : ∀ p ∈ lend, 50 ≤ p.1 → (gone lend).contains p.2 = true := fun p hp h50 => by
    rw [List.contains_iff_mem]
    exact List.mem_map.2 ⟨p, List.mem_filter.2 ⟨hp, by simpa using h50⟩, rfl⟩
  obtain ⟨φ2, hφ2⟩ : ∃ φ2 : Nat → Option Pl, ∀ c, φ2 c = match toK (lend ++ new) c with | some k => φ' k | none => φ c := ⟨_, fun _ => rfl⟩
  obtain ⟨h', hh'⟩ : ∃ h', backH2 (lend ++ new) (gone lend) H1 S.heap = h' := ⟨_, rfl⟩
  have cases2 : ∀ c, (toK (lend ++ new) c = none ∧ φ2 c = φ c ∧ h' c = (S.heap c).map (Blk.tr (killL (gone lend)))) ∨ ∃ k, (k, c) ∈ lend ++ new ∧ toK (lend ++ new) c = some k ∧ φ2 c = φ' k ∧ h' c = (H1 k).map (Blk.tr (E.ren (toC (lend ++ new)))) := fun c => by
    have e := hφ2 c
    rw [← hh']
    unfold backH2
    cases ht : toK (lend ++ new) c with
    | none => rw [ht] at e; exact .inl ⟨rfl, e, rfl⟩
    | some k => rw [ht] at e; exact .inr ⟨k, toK_some ht, rfl, e, rfl⟩
  rw [hh'] at k4
  have hi : ∀ id L, (!(gone lend).contains id) = true → lnOf S.heap id = some L → lnOf h' id = some L ∧ φ2 id = φ id := fun id L hg hL => by
    rcases cases2 id with ⟨_, g2, g3⟩ | ⟨k, g1, _, g2, g3⟩
    · exact ⟨(lnOf_map g3).trans hL, g2⟩
    · rcases List.mem_append.1 g1 with g | g
      · have h50 : k < 50 := by
          rcases Nat.lt_or_ge k 50 with h | h
          · exact h
          · rw [goneM _ g h] at hg; cases hg
        obtain ⟨q1, q2⟩ := pinned _ g h50
        exact ⟨(lnOf_map g3).trans (q2.trans hL), g2.trans q1⟩
      · have := hw _ g
        simp only at this
        simp [lnOf, this] at hL
  have ok1 : ∀ b, okOf R.w0 R.ok0 φ S.heap w b → okOf R.w0 R.ok0 φ2 h' w' b ∧ w'.heap[b]? = w.heap[b]? := fun b hb => by
    refine ⟨⟨hb.1, Nat.lt_of_lt_of_le hb.2.1 HR'.size, fun id pl q1 q2 q3 => ?_⟩, HR'.old b hb.2.1 (okmine b hb)⟩
    rcases cases2 id with ⟨_, g2, g3⟩ | ⟨k, g1, _, g2, g3⟩
    · rw [g3, map_isSome_tr] at q1; rw [g2] at q2; exact hb.2.2 id pl q1 q2 q3
    · rw [g3, map_isSome_tr] at q1
      rw [g2] at q2
      rcases (HR'.own k pl q1 q2).2 with h | h
      · have := hb.2.1; omega
      · exact okmine b hb (q3 ▸ h.1)
  have ok2 : ∀ b, okOf w (okOf R.w0 R.ok0 φ S.heap w) φ' H1 w' b → okOf R.w0 R.ok0 φ2 h' w' b := fun b hb => by
    refine ⟨?_, hb.2.1, fun id pl q1 q2 q3 => ?_⟩
    · rcases hb.1 with h | h
      · exact h.1
      · exact .inr (Nat.le_trans A.h.size h)
    · rcases cases2 id with ⟨_, g2, g3⟩ | ⟨k, g1, _, g2, g3⟩
      · rw [g3, map_isSome_tr] at q1; rw [g2] at q2
        rcases hb.1 with h | h
        · exact h.2.2 id pl q1 q2 q3
        · have := (A.h.own id pl q1 q2).1; omega
      · rw [g3, map_isSome_tr] at q1
        rw [g2] at q2
        exact hb.2.2 k pl q1 q2 q3
  have ownOther : ∀ c pl, toK (lend ++ new) c = none → (S.heap c).isSome = true → φ c = some pl → ¬ Mine (lentH2 lend S.heap) (lentP lend φ) pl.b := fun c pl h1 h2 h3 hm => by
    obtain ⟨p, hp, pl', q1, q2⟩ := mine _ hm
    have := A.h.inj p.2 c pl' pl (hsome p hp) h2 q1 h3 q2
    rw [← this, toK_mem N.snd (by simp [hp])] at h1
    cases h1
  have hren : ∀ id L, (H1 id).isSome = true → lnOf H1 id = some L → lnOf h' (toC (lend ++ new) id) = some L ∧ φ2 (toC (lend ++ new) id) = φ' id := fun id L hs hL => by
    obtain ⟨b, hb⟩ := Option.isSome_iff_exists.1 hs
    obtain ⟨⟨c, hcm⟩, _⟩ := k1 id b hb
    have e1 := toC_mem N.fst hcm
    have e2 := toK_mem N.snd hcm
    simp only at e1 e2
    rw [e1]
    have e := hφ2 c
    rw [e2] at e
    refine ⟨?_, e⟩
    refine Eq.trans (lnOf_map (f := E.ren (toC (lend ++ new))) (k := id) ?_) hL
    rw [← hh']
    unfold backH2
    rw [e2]
  refine ⟨v, _, _, φ2, rfl, k4, ⟨⟨fun id b hb => ?_, fun id id' pl pl' q1 q2 q3 q4 q5 => ?_, fun id pl q1 q2 => ?_, fun b hb hm => ?_, HR'.os.trans A.h.os, HR'.tape.trans A.h.tape, HR'.output.trans A.h.output, Nat.le_trans A.h.size HR'.size, A.h.ok0⟩, fun t => ?_, A.size, fun k hk hs => ?_⟩, ?_⟩
  · rcases cases2 id with ⟨g1, g2, g3⟩ | ⟨k, g1, _, g2, g3⟩
    · have hb2 : h' id = some b := hb
      rw [g3] at hb2
      obtain ⟨b', hb', rfl⟩ := map_tr_some hb2
      refine (A.h.blk id b' hb').tr _ ok1 (fun e cs _ x _ u hu => hu.killL _ ok1 hi) g2 fun pl hpl => ?_
      exact HR'.old _ (A.h.own id pl (by rw [hb']; rfl) hpl).1 (ownOther id pl g1 (by rw [hb']; rfl) hpl)
    · have hb2 : h' id = some b := hb
      rw [g3] at hb2
      obtain ⟨b', hb', rfl⟩ := map_tr_some hb2
      refine (HR'.blk k b' hb').tr _ (fun b hb => ⟨ok2 b hb, rfl⟩) (fun e cs hcs x hx u hu => ?_) g2 fun _ _ => rfl
      subst hcs
      exact hu.ren _ _ (fun b hb => ⟨ok2 b hb, rfl⟩) hren (idsL_mem (k1 k _ hb').2 hx)
  · simp only at q1 q2
    rcases cases2 id with ⟨g1, g2, g3⟩ | ⟨k, g1, _, g2, g3⟩ <;> rcases cases2 id' with ⟨g1', g2', g3'⟩ | ⟨k', g1', _, g2', g3'⟩ <;> rw [g3, map_isSome_tr] at q1 <;> rw [g3', map_isSome_tr] at q2
    · rw [g2] at q3; rw [g2'] at q4
      exact A.h.inj id id' pl pl' q1 q2 q3 q4 q5
    · exfalso
      have q3' : φ id = some pl := g2 ▸ q3
      have hlt := (A.h.own id pl q1 q3').1
      rw [g2'] at q4
      rcases (HR'.own k' pl' q2 q4).2 with h | h
      · omega
      · exact ownOther id pl g1 q1 q3' (q5 ▸ h.1)
    · exfalso
      have q4' : φ id' = some pl' := g2' ▸ q4
      have hlt := (A.h.own id' pl' q2 q4').1
      rw [g2] at q3
      rcases (HR'.own k pl q1 q3).2 with h | h
      · omega
      · exact ownOther id' pl' g1' q2 q4' (q5 ▸ h.1)
    · rw [g2] at q3; rw [g2'] at q4
      have := HR'.inj k k' pl pl' q1 q2 q3 q4 q5
      exact congrArg Prod.snd (N.fst _ g1 _ g1' this)
  · simp only at q1
    rcases cases2 id with ⟨g1, g2, g3⟩ | ⟨k, g1, _, g2, g3⟩
    · rw [g3, map_isSome_tr] at q1; rw [g2] at q2
      obtain ⟨a, b⟩ := A.h.own id pl q1 q2
      exact ⟨Nat.lt_of_lt_of_le a HR'.size, b⟩
    · rw [g3, map_isSome_tr] at q1; rw [g2] at q2
      obtain ⟨a, b⟩ := HR'.own k pl q1 q2
      refine ⟨a, ?_⟩
      rcases b with b | ⟨b1, b2⟩
      · exact .inl (Nat.le_trans A.h.size b)
      · rcases List.mem_append.1 g1 with g | g
        · rcases Nat.lt_or_ge k 50 with h50 | h50
          · rw [(pinned _ g h50).1] at q2
            exact (A.h.own id pl (hsome _ g) q2).2
          · obtain ⟨p, hp, pl', r1, r2⟩ := mine _ b1
            have r3 := (A.h.own p.2 pl' (hsome p hp) r1).2
            rw [r2] at r3
            rcases Nat.lt_or_ge p.1 50 with hp50 | hp50
            · exfalso
              have r4 := (pinned p hp hp50).1
              have := HR'.inj k p.1 pl pl' q1 (k2 p hp hp50) q2 (r4.trans r1) r2.symm
              omega
            · rcases r3 with r3 | r3
              · exact .inl r3
              · rcases N.mix with m | m
                · exact .inr ⟨r3.1, m _ g h50⟩
                · have := m p hp hp50; omega
        · have := N.n100 _ g
          simp only at this; omega
  · have hm' : ¬ Mine (lentH2 lend S.heap) (lentP lend φ) b := fun h => by
      obtain ⟨p, hp, pl, q1, q2⟩ := mine b h
      rcases (A.h.own p.2 pl (hsome p hp) q1).2 with h | h
      · omega
      · exact hm (q2 ▸ h.1)
    rw [HR'.old b (Nat.lt_of_lt_of_le hb A.h.size) hm']
    exact A.h.old b hb hm
  · exact (A.env t).killL _ ok1 hi
  · simp only at hs
    rcases cases2 k with ⟨g1, g2, g3⟩ | ⟨q, g1, _, g2, g3⟩
    · rw [g3, map_isSome_tr] at hs
      obtain ⟨a, b⟩ := A.pin k hk hs
      exact ⟨g2.trans a, (lnOf_map g3).trans b⟩
    · rcases List.mem_append.1 g1 with g | g
      · have h50 : q < 50 := by
          rcases Nat.lt_or_ge q 50 with h | h
          · exact h
          · have := N.u50 _ g h; simp only at this; omega
        obtain ⟨p1, p2⟩ := pinned _ g h50
        obtain ⟨a, b⟩ := A.pin k hk (hsome _ g)
        exact ⟨(g2.trans p1).trans a, (lnOf_map g3).trans (p2.trans b)⟩
      · have := N.c50 _ g
        simp only at this
        omega
  · exact hr.ren _ _ (fun b hb => ⟨ok2 b hb, rfl⟩) hren k3
end
end Go.Proofs.YtmjkhbjfacfmcaaGreatDoor.VX
end
section
namespace Go.Proofs.YtmjkhbjfacfmcaaGreatDoor.NM
set_option linter.unusedVariables false
set_option linter.unusedSimpArgs false
open Go Go.RowKit
def rd (xs : List Int) (i : Int) : Int := xs.getD i.toNat 0
def vl (B : Int) : List Int → Int
  | [] => 0
  | d :: l => d + B * vl B l
def dg (B n : Nat) : List Int :=
  if h : 2 ≤ B ∧ 0 < n then ((n % B : Nat) : Int) :: dg B (n / B) else []
termination_by n
decreasing_by exact Nat.div_lt_self h.2 h.1
def Dig (B : Int) (l : List Int) : Prop := ∀ x ∈ l, 0 ≤ x ∧ x < B
def strip : List Int → List Int
  | [] => []
  | d :: l => if strip l = [] ∧ d = 0 then [] else d :: strip l
theorem dg_zero (B : Nat) : dg B 0 = [] := by unfold dg; simp
theorem dg_pos {B n : Nat} (hB : 2 ≤ B) (hn : 0 < n) : dg B n = ((n % B : Nat) : Int) :: dg B (n / B) := by
  rw [dg, dif_pos ⟨hB, hn⟩]
theorem dg_nil {B n : Nat} (hB : 2 ≤ B) (h : dg B n = []) : n = 0 := by
  rcases Nat.eq_zero_or_pos n with h0 | h0
  · exact h0
  · rw [dg_pos hB h0] at h; cases h
theorem vl_dg {B : Nat} (hB : 2 ≤ B) (n : Nat) : vl B (dg B n) = n := by
  induction n using Nat.strongRecOn with
  | _ n ih =>
    rcases Nat.eq_zero_or_pos n with h0 | h0
    · subst h0; rw [dg_zero]; rfl
    · rw [dg_pos hB h0, vl, ih _ (Nat.div_lt_self h0 hB)]
      have := Nat.mod_add_div n B
      omega
theorem dig_dg {B : Nat} (hB : 2 ≤ B) (n : Nat) : Dig B (dg B n) := by
  induction n using Nat.strongRecOn with
  | _ n ih =>
    rcases Nat.eq_zero_or_pos n with h0 | h0
    · subst h0; rw [dg_zero]; intro x hx; cases hx
    · rw [dg_pos hB h0]
      intro x hx
      rcases List.mem_cons.1 hx with rfl | hx
      · have := Nat.mod_lt n (show 0 < B by omega)
        omega
      · exact ih _ (Nat.div_lt_self h0 hB) x hx
theorem Dig.nil (B : Int) : Dig B [] := fun x hx => by cases hx
theorem Dig.cons {B d : Int} {l : List Int} (h0 : 0 ≤ d) (h1 : d < B) (h : Dig B l) : Dig B (d :: l) := fun x hx => by
  rcases List.mem_cons.1 hx with rfl | hx
  · exact ⟨h0, h1⟩
  · exact h x hx
theorem Dig.append {B : Int} {l r : List Int} (h : Dig B l) (k : Dig B r) : Dig B (l ++ r) := fun x hx => by
  rcases List.mem_append.1 hx with hx | hx
  · exact h x hx
  · exact k x hx
theorem Dig.left {B : Int} {l r : List Int} (h : Dig B (l ++ r)) : Dig B l := fun x hx => h x (List.mem_append_left _ hx)
theorem Dig.take {B : Int} {l : List Int} (h : Dig B l) (n : Nat) : Dig B (l.take n) := fun x hx => h x (List.mem_of_mem_take hx)
theorem Dig.drop {B : Int} {l : List Int} (h : Dig B l) (n : Nat) : Dig B (l.drop n) := fun x hx => h x (List.mem_of_mem_drop hx)
theorem Dig.get {B : Int} {l : List Int} (h : Dig B l) (i : Nat) (hi : i < l.length) : 0 ≤ l[i] ∧ l[i] < B := h _ (List.getElem_mem hi)
theorem Dig.rep {B : Int} (hB : 0 < B) (n : Nat) : Dig B (List.replicate n 0) := fun x hx => by
  rw [List.eq_of_mem_replicate hx]; omega
theorem vl_append (B : Int) (l r : List Int) : vl B (l ++ r) = vl B l + B ^ l.length * vl B r := by
  induction l with
  | nil => simp [vl]
  | cons d l ih => simp only [List.cons_append, vl, ih, List.length_cons]; rw [Int.pow_succ]; grind
theorem vl_rep (B : Int) (n : Nat) : vl B (List.replicate n 0) = 0 := by
  induction n with
  | zero => rfl
  | succ n ih => rw [List.replicate_succ, vl, ih]; omega
theorem vl_nonneg {B : Int} (hB : 0 < B) {l : List Int} (h : Dig B l) : 0 ≤ vl B l := by
  induction l with
  | nil => exact Int.le_refl _
  | cons d l ih =>
    have h1 := h d List.mem_cons_self
    have h2 := ih (fun x hx => h x (List.mem_cons_of_mem _ hx))
    have h3 := Int.mul_nonneg (Int.le_of_lt hB) h2
    simp only [vl]; omega
theorem vl_lt {B : Int} (hB : 0 < B) {l : List Int} (h : Dig B l) : vl B l < B ^ l.length := by
  induction l with
  | nil => simp [vl]
  | cons d l ih =>
    have h1 := h d List.mem_cons_self
    have h2 := ih (fun x hx => h x (List.mem_cons_of_mem _ hx))
    have h3 : B * (vl B l + 1) ≤ B * B ^ l.length := Int.mul_le_mul_of_nonneg_left (by omega) (Int.le_of_lt hB)
    simp only [vl, List.length_cons]
    rw [Int.pow_succ, Int.mul_comm (B ^ _) B]
    rw [Int.mul_add] at h3
    omega
theorem strip_dg {B : Nat} (hB : 2 ≤ B) {l : List Int} (h : Dig B l) : strip l = dg B (vl B l).toNat := by
  induction l with
  | nil => simp only [strip, vl]; exact (dg_zero B).symm
  | cons d l ih =>
    have h1 := h d List.mem_cons_self
    have hl : Dig B l := fun x hx => h x (List.mem_cons_of_mem _ hx)
    have h2 := vl_nonneg (by omega) hl
    have ih := ih hl
    obtain ⟨m, hm⟩ : ∃ m : Nat, vl B l = m := ⟨(vl B l).toNat, by omega⟩
    obtain ⟨e, he⟩ : ∃ e : Nat, d = e := ⟨d.toNat, by omega⟩
    rw [hm, Int.toNat_natCast] at ih
    simp only [strip, vl, ih, hm]
    subst he
    have hv : ((e : Int) + (B : Int) * (m : Int)).toNat = e + B * m := by
      have : ((e : Int) + (B : Int) * (m : Int)) = ((e + B * m : Nat) : Int) := by simp
      rw [this, Int.toNat_natCast]
    rw [hv]
    by_cases hz : e + B * m = 0
    · have e0 : e = 0 := by omega
      have m0 : m = 0 := by
        rcases Nat.eq_zero_or_pos m with h | h
        · exact h
        · have := Nat.mul_pos (show 0 < B by omega) h; omega
      subst e0; subst m0
      rw [if_pos ⟨dg_zero B, rfl⟩]
      simp [dg_zero]
    · rw [dg_pos (n := e + B * m) hB (by omega)]
      have hme : (e + B * m) % B = e := by rw [Nat.add_mul_mod_self_left]; exact Nat.mod_eq_of_lt (by omega)
      have hde : (e + B * m) / B = m := by rw [Nat.add_mul_div_left _ _ (by omega), Nat.div_eq_of_lt (by omega)]; omega
      rw [hme, hde, if_neg]
      rintro ⟨h3, h4⟩
      have m0 := dg_nil hB h3
      subst m0
      omega
theorem strip_snoc_zero (l : List Int) : strip (l ++ [0]) = strip l := by
  induction l with
  | nil => simp [strip]
  | cons d l ih => simp only [List.cons_append, strip, ih]
theorem strip_snoc_ne (l : List Int) {d : Int} (hd : d ≠ 0) : strip (l ++ [d]) = l ++ [d] := by
  induction l with
  | nil => simp [strip, hd]
  | cons e l ih => simp only [List.cons_append, strip, ih]; rw [if_neg]; simp
theorem dg_length {B : Nat} (hB : 2 ≤ B) {n k : Nat} (h : n < B ^ k) : (dg B n).length ≤ k := by
  induction k generalizing n with
  | zero => have : n = 0 := by simpa using h
            subst this; rw [dg_zero]; exact Nat.le_refl _
  | succ k ih =>
    rcases Nat.eq_zero_or_pos n with h0 | h0
    · subst h0; rw [dg_zero]; exact Nat.zero_le _
    · rw [dg_pos hB h0, List.length_cons]
      have := ih (n := n / B) (by rw [Nat.div_lt_iff_lt_mul (by omega)]; rw [Nat.pow_succ] at h; exact h)
      omega
theorem lt_pow_length {B : Nat} (hB : 2 ≤ B) (n : Nat) : n < B ^ (dg B n).length := by
  have h := vl_lt (B := B) (by omega) (dig_dg hB n)
  rw [vl_dg hB] at h
  have : ((B : Int) ^ (dg B n).length) = ((B ^ (dg B n).length : Nat) : Int) := by simp
  rw [this] at h
  omega
theorem pow_le_of_length {B : Nat} (hB : 2 ≤ B) {n k : Nat} (h : (dg B n).length = k + 1) : B ^ k ≤ n := by
  rcases Nat.lt_or_ge n (B ^ k) with h1 | h1
  · have := dg_length hB h1; omega
  · exact h1
theorem rd_nat (l : List Int) (i : Nat) (h : i < l.length) : rd l (i : Int) = l[i] := by
  unfold rd; rw [Int.toNat_natCast, List.getD_eq_getElem?_getD, List.getElem?_eq_getElem h]; rfl
theorem rd_out (l : List Int) (i : Nat) (h : l.length ≤ i) : rd l (i : Int) = 0 := by
  unfold rd; rw [Int.toNat_natCast, List.getD_eq_getElem?_getD, List.getElem?_eq_none h]; rfl
theorem vl_drop (B : Int) (l : List Int) (i : Nat) (h : i < l.length) : vl B (l.drop i) = l[i] + B * vl B (l.drop (i + 1)) := by
  rw [List.drop_eq_getElem_cons h, vl]
theorem vl_drop_out (B : Int) (l : List Int) (i : Nat) (h : l.length ≤ i) : vl B (l.drop i) = 0 := by
  rw [List.drop_eq_nil_of_le h]; rfl
theorem vl_set (B : Int) (l : List Int) (i : Nat) (v : Int) (h : i < l.length) : vl B (l.set i v) = vl B l + B ^ i * (v - rd l (i : Int)) := by
  induction l generalizing i with
  | nil => exact absurd h (Nat.not_lt_zero _)
  | cons d l ih =>
    cases i with
    | zero => rw [List.set_cons_zero, vl, vl, rd_nat _ 0 h]; simp only [List.getElem_cons_zero, Int.pow_zero]; omega
    | succ i =>
      have h' : i < l.length := by simpa using h
      rw [List.set_cons_succ, vl, vl, ih i h', rd_nat _ _ h, rd_nat _ _ h', List.getElem_cons_succ, Int.pow_succ]
      grind
theorem vl_take_succ (B : Int) (l : List Int) (i : Nat) : vl B (l.take (i + 1)) = vl B (l.take i) + B ^ i * rd l (i : Int) := by
  rcases Nat.lt_or_ge i l.length with h | h
  · rw [List.take_add_one, vl_append, List.getElem?_eq_getElem h, rd_nat _ _ h, List.length_take, Nat.min_eq_left (Nat.le_of_lt h)]
    simp [vl]
  · rw [List.take_of_length_le (by omega), List.take_of_length_le h, rd_out _ _ h]; simp
theorem vl_take_all (B : Int) (l : List Int) (i : Nat) (h : l.length ≤ i) : vl B (l.take i) = vl B l := by rw [List.take_of_length_le h]
theorem Dig.set {B : Int} {l : List Int} (h : Dig B l) (i : Nat) {v : Int} (h0 : 0 ≤ v) (h1 : v < B) : Dig B (l.set i v) := fun x hx => by
  rcases List.mem_or_eq_of_mem_set hx with hx | rfl
  · exact h x hx
  · exact ⟨h0, h1⟩
theorem Dig.rd {B : Int} {l : List Int} (hB : 0 < B) (h : Dig B l) (i : Nat) : 0 ≤ rd l (i : Int) ∧ rd l (i : Int) < B := by
  rcases Nat.lt_or_ge i l.length with h1 | h1
  · rw [rd_nat _ _ h1]; exact h.get i h1
  · rw [rd_out _ _ h1]; exact ⟨Int.le_refl _, hB⟩
theorem rd_set_ne (l : List Int) (i j : Nat) (v : Int) (h : i ≠ j) : rd (l.set i v) (j : Int) = rd l (j : Int) := by
  unfold rd; rw [Int.toNat_natCast, List.getD_eq_getElem?_getD, List.getD_eq_getElem?_getD, List.getElem?_set_ne h]
theorem rd_set_eq (l : List Int) (i : Nat) (v : Int) (h : i < l.length) : rd (l.set i v) (i : Int) = v := by
  rw [rd_nat _ _ (by simpa using h)]; simp
theorem rd_rep (n i : Nat) : rd (List.replicate n 0) (i : Int) = 0 := by
  rcases Nat.lt_or_ge i n with h | h
  · rw [rd_nat _ _ (by simpa using h)]; simp
  · rw [rd_out _ _ (by simpa using h)]
theorem strip_take_succ (l : List Int) (j : Nat) (h : j < l.length) : strip (l.take (j + 1)) = if rd l (j : Int) = 0 then strip (l.take j) else l.take (j + 1) := by
  have e : l.take (j + 1) = l.take j ++ [rd l (j : Int)] := by rw [List.take_add_one, List.getElem?_eq_getElem h, rd_nat _ _ h]; rfl
  rw [e]
  split
  · rename_i h0; rw [h0, strip_snoc_zero]
  · rename_i h0; rw [strip_snoc_ne _ h0]
theorem pow_cast (B n : Nat) : ((B : Int) ^ n) = ((B ^ n : Nat) : Int) := by simp
theorem alg_add {v P B A C c a b x y s : Int} (hs : a + b + c = s) (e : s = x + B * y) (hv : v + P * c = A + C) : v + P * (x - 0) + P * B * y = A + P * a + (C + P * b) := by
  subst e
  have : x = a + b + c - B * y := by omega
  subst this
  grind
theorem alg_mul {v P Q B V A C c q x y s T : Int} (hs : A * C + q + c = s) (e : s = x + B * y) (hv : v + P * Q * c = V + P * A * T) :
    v + P * Q * (x - q) + P * Q * B * y = V + P * A * (T + Q * C) := by
  have : x = A * C + q + c - B * y := by omega
  subst this
  grind
def Hold (p : Prop) : Prop := p
end Go.Proofs.YtmjkhbjfacfmcaaGreatDoor.NM
end
