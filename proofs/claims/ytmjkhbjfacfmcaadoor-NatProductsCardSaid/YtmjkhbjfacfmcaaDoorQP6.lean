/- The law NatProducts returns true for every input and never panics. This is part 6 of the proof: texts joined in order (NatT NatV2 NatV3 RefV RefV2 NatL PureNatProducts LawNatProducts). Conditions: each theorem's own. -/
import Derived.Test.YtmjkhbjfacfmcaaDoorQP5
import Derived.Laws.StructEq
import Derived.Lib.ItoaMem
import Derived.Lib.Repeat
import Derived.Lib.SlTrimSet
import Derived.Lib.AtoiAll
import Derived.Lib.TrimByte
import Derived.Lib.Strings
import Derived.Laws.BytesArg
import Derived.Test.YtmjkhbjfacfmcaaDoorCards
import Derived.Test.YtmjkhbjfacfmcaaDoorTie
import Derived.WalkKit
import Derived.ProofKit
import Derived.OpenShut
import Derived.ShutString
import Derived.ChangeOld
import Derived.Below
import Derived.SizedLaws
import Derived.Deep.DeepHandedRow
import Derived.Deep.DeepWitnessRowRef
import Derived.Lib.LaidTab
import Derived.Lib.LaidU8
section
namespace Go.Proofs.YtmjkhbjfacfmcaaDoor.NT
open Go Go.RowKit Go.Proofs.YtmjkhbjfacfmcaaDoor.NM Go.Proofs.YtmjkhbjfacfmcaaDoorW.PrintWords
theorem strip_append {l r : List Int} (h : strip r = r) (hr : r ≠ []) : strip (l ++ r) = l ++ r := by
  induction l with
  | nil => exact h
  | cons d l ih =>
    simp only [List.cons_append, strip, ih]
    rw [if_neg]
    rintro ⟨h1, _⟩
    exact hr (List.append_eq_nil_iff.1 h1).2
theorem strip_of_dg {B : Nat} (hB : 2 ≤ B) (n : Nat) : strip (dg B n) = dg B n := by
  rw [strip_dg hB (dig_dg hB n), vl_dg hB, Int.toNat_natCast]
theorem dg_ne_nil {B n : Nat} (hB : 2 ≤ B) (hn : 0 < n) : dg B n ≠ [] := fun h => by have := dg_nil hB h; omega
theorem dg_split {B : Nat} (hB : 2 ≤ B) {r q k : Nat} (hq : 0 < q) (hr : r < B ^ k) : dg B (r + B ^ k * q) = dg B r ++ List.replicate (k - (dg B r).length) 0 ++ dg B q := by
  have hl := dg_length hB hr
  have hd : Dig B (dg B r ++ List.replicate (k - (dg B r).length) 0 ++ dg B q) := Dig.append (Dig.append (dig_dg hB r) (Dig.rep (by omega) _)) (dig_dg hB q)
  have h := strip_dg hB hd
  rw [strip_append (strip_of_dg hB q) (dg_ne_nil hB hq)] at h
  rw [h]
  congr 1
  rw [vl_append, vl_append, vl_rep, vl_dg hB, vl_dg hB, List.length_append, List.length_replicate, Nat.add_sub_cancel' hl, pow_cast]
  simp only [Int.mul_zero, Int.add_zero]
  rw [show (r : Int) + ((B : Int) ^ k) * (q : Int) = ((r + B ^ k * q : Nat) : Int) by simp, Int.toNat_natCast]
def chars (l : List Int) : List UInt8 := l.map fun d => UInt8.ofNat (48 + d.toNat)
def dec (n : Nat) : List UInt8 := (chars (dg 10 n)).reverse
def txt (n : Nat) : List UInt8 := Lib.decDigits n
theorem dec_zero : dec 0 = [] := by unfold dec; rw [dg_zero]; rfl
theorem dec_step (n : Nat) (h : 0 < n) : dec n = dec (n / 10) ++ [UInt8.ofNat (48 + n % 10)] := by
  unfold dec
  rw [dg_pos (by omega) h]
  simp only [chars, List.map_cons, List.reverse_cons, Int.toNat_natCast]
theorem txt_zero : txt 0 = [48] := by unfold txt; rw [Lib.decDigits]; rfl
theorem txt_pos (n : Nat) (h : 0 < n) : txt n = dec n := by
  induction n using Nat.strongRecOn with
  | _ n ih =>
    unfold txt
    rw [Lib.decDigits]
    split
    · rename_i h1
      rw [dec_step n h, Nat.div_eq_of_lt h1, dec_zero, Nat.mod_eq_of_lt h1]
      rfl
    · rw [dec_step n h, ← ih (n / 10) (by omega) (by omega)]
      rfl
theorem chars_append (l r : List Int) : chars (l ++ r) = chars l ++ chars r := by simp [chars]
theorem chars_rep (n : Nat) : chars (List.replicate n 0) = List.replicate n 48 := by simp [chars]
theorem dec_length (n : Nat) : (dec n).length = (dg 10 n).length := by simp [dec, chars]
theorem dec_le {n k : Nat} (h : n < 10 ^ k) : (dec n).length ≤ k := by rw [dec_length]; exact dg_length (by omega) h
theorem dec_split {r q k : Nat} (hq : 0 < q) (hr : r < 10 ^ k) : dec (r + 10 ^ k * q) = dec q ++ (List.replicate (k - (dec r).length) 48 ++ dec r) := by
  rw [dec_length]
  unfold dec
  rw [dg_split (by omega) hq hr, chars_append, chars_append, chars_rep, List.reverse_append, List.reverse_append]
  simp
theorem txt_le {n k : Nat} (hk : 1 ≤ k) (h : n < 10 ^ k) : 1 ≤ (txt n).length ∧ (txt n).length ≤ k := by
  rcases Nat.eq_zero_or_pos n with h0 | h0
  · subst h0; rw [txt_zero]; exact ⟨Nat.le_refl _, hk⟩
  · rw [txt_pos n h0]
    refine ⟨?_, dec_le h⟩
    rw [dec_step n h0]; simp
theorem pad_txt (r k : Nat) (hk : 1 ≤ k) (h : r < 10 ^ k) : List.replicate (k - (txt r).length) 48 ++ txt r = List.replicate (k - (dec r).length) 48 ++ dec r := by
  rcases Nat.eq_zero_or_pos r with h0 | h0
  · subst h0
    rw [txt_zero, dec_zero]
    show List.replicate (k - 1) (48 : UInt8) ++ [48] = List.replicate (k - 0) 48 ++ []
    rw [List.append_nil, ← List.replicate_succ', Nat.sub_add_cancel hk, Nat.sub_zero]
  · rw [txt_pos r h0]
theorem rep_one (c n : Nat) : Lib.repeatL [UInt8.ofNat c] n = List.replicate n (UInt8.ofNat c) := by
  have := Lib.repeatL_replicate (UInt8.ofNat c) 1 n
  simpa using this
def dval (c : UInt8) : Nat := c.toNat - 48
def pv (a : Nat) (l : List UInt8) : Nat := l.foldl (fun a c => a * 10 + dval c) a
theorem pv_nil (a : Nat) : pv a [] = a := rfl
theorem pv_cons (a : Nat) (c : UInt8) (l : List UInt8) : pv a (c :: l) = pv (a * 10 + dval c) l := by unfold pv; rw [List.foldl_cons]
def Digits (l : List UInt8) : Prop := ∀ c ∈ l, 48 ≤ c.toNat ∧ c.toNat ≤ 57
theorem pv_append (a : Nat) (l r : List UInt8) : pv a (l ++ r) = pv (pv a l) r := by
  exact List.foldl_append
theorem pv_acc (a : Nat) (l : List UInt8) : pv a l = a * 10 ^ l.length + pv 0 l := by
  induction l generalizing a with
  | nil => simp [pv_nil]
  | cons c l ih =>
    rw [pv_cons, ih, pv_cons, ih (0 * 10 + _), List.length_cons, Nat.pow_succ]
    grind
theorem pv_lt {l : List UInt8} (h : Digits l) : pv 0 l < 10 ^ l.length := by
  induction l with
  | nil => simp [pv_nil]
  | cons c l ih =>
    have h1 := h c List.mem_cons_self
    have hv : dval c = c.toNat - 48 := rfl
    have h2 := ih (fun x hx => h x (List.mem_cons_of_mem _ hx))
    rw [pv_cons, pv_acc, List.length_cons, Nat.pow_succ]
    have h3 : (0 * 10 + dval c) * 10 ^ l.length ≤ 9 * 10 ^ l.length := Nat.mul_le_mul_right _ (by omega)
    omega
theorem Digits.left {l r : List UInt8} (h : Digits (l ++ r)) : Digits l := fun x hx => h x (List.mem_append_left _ hx)
theorem Digits.append {l r : List UInt8} (h : Digits l) (k : Digits r) : Digits (l ++ r) := fun x hx => by
  rcases List.mem_append.1 hx with hx | hx
  · exact h x hx
  · exact k x hx
theorem Digits.take {l : List UInt8} (h : Digits l) (n : Nat) : Digits (l.take n) := fun x hx => h x (List.mem_of_mem_take hx)
theorem Digits.drop {l : List UInt8} (h : Digits l) (n : Nat) : Digits (l.drop n) := fun x hx => h x (List.mem_of_mem_drop hx)
theorem digit_toNat {d : Nat} (h : d < 10) : (UInt8.ofNat (48 + d)).toNat = 48 + d := by
  rw [UInt8.toNat_ofNat']; omega
theorem digits_dec (n : Nat) : Digits (dec n) := by
  induction n using Nat.strongRecOn with
  | _ n ih =>
    rcases Nat.eq_zero_or_pos n with h0 | h0
    · subst h0; rw [dec_zero]; intro x hx; cases hx
    · rw [dec_step n h0]
      refine Digits.append (ih _ (by omega)) ?_
      intro x hx
      rw [List.mem_singleton.1 hx, digit_toNat (by omega)]
      omega
theorem digits_txt (n : Nat) : Digits (txt n) := by
  rcases Nat.eq_zero_or_pos n with h0 | h0
  · subst h0; rw [txt_zero]; intro x hx; rw [List.mem_singleton.1 hx]; exact ⟨by decide, by decide⟩
  · rw [txt_pos n h0]; exact digits_dec n
theorem pv_dec (n : Nat) : pv 0 (dec n) = n := by
  induction n using Nat.strongRecOn with
  | _ n ih =>
    rcases Nat.eq_zero_or_pos n with h0 | h0
    · subst h0; rw [dec_zero]; rfl
    · rw [dec_step n h0, pv_append, ih _ (by omega)]
      rw [pv_cons, pv_nil]; unfold dval; rw [digit_toNat (by omega)]
      omega
theorem pv_txt (n : Nat) : pv 0 (txt n) = n := by
  rcases Nat.eq_zero_or_pos n with h0 | h0
  · subst h0; rw [txt_zero]; rfl
  · rw [txt_pos n h0]; exact pv_dec n
theorem dec_head (n : Nat) (h : 0 < n) : ∃ c l, dec n = c :: l ∧ c.toNat ≠ 48 := by
  induction n using Nat.strongRecOn with
  | _ n ih =>
    rw [dec_step n h]
    rcases Nat.eq_zero_or_pos (n / 10) with h0 | h0
    · rw [h0, dec_zero]
      refine ⟨_, [], rfl, ?_⟩
      rw [digit_toNat (by omega)]
      omega
    · obtain ⟨c, l, e, hc⟩ := ih _ (by omega) h0
      rw [e]
      exact ⟨c, _, rfl, hc⟩
theorem txt_pv {l : List UInt8} (h : Digits l) (h0 : l ≠ []) (h1 : ∀ c r, l = c :: r → c.toNat = 48 → r = []) : txt (pv 0 l) = l := by
  have key : ∀ n, ∀ l : List UInt8, l.length = n → Digits l → l ≠ [] → (∀ c r, l = c :: r → c.toNat ≠ 48) → 0 < pv 0 l ∧ dec (pv 0 l) = l := by
    intro n
    induction n with
    | zero => intro l hl _ h0 _; exact absurd (List.length_eq_zero_iff.1 hl) h0
    | succ n ih =>
      intro l hl h h0 h1
      obtain ⟨r, c, rfl⟩ : ∃ r c, l = r ++ [c] := ⟨l.dropLast, l.getLast h0, (List.dropLast_concat_getLast h0).symm⟩
      have hc := h c (by simp)
      have hv : dval c = c.toNat - 48 := rfl
      have hp : pv 0 (r ++ [c]) = pv 0 r * 10 + dval c := by rw [pv_append]; rfl
      have hcc : UInt8.ofNat (48 + dval c) = c := by rw [hv, Nat.add_sub_cancel' hc.1]; simp
      by_cases hr : r = []
      · subst hr
        have hne := h1 c [] rfl
        have hpos : 0 < pv 0 ([] ++ [c]) := by rw [hp]; rw [pv_nil]; have : dval c = c.toNat - 48 := rfl; omega
        refine ⟨hpos, ?_⟩
        rw [dec_step _ hpos, hp]
        rw [pv_nil]
        have e1 : (0 * 10 + dval c) / 10 = 0 := by omega
        have e2 : (0 * 10 + dval c) % 10 = dval c := by omega
        rw [e1, e2, dec_zero, hcc]
      · obtain ⟨i1, i2⟩ := ih r (by simpa using hl) h.left hr (fun c' r' e => h1 c' (r' ++ [c]) (by rw [e]; rfl))
        have hpos : 0 < pv 0 (r ++ [c]) := by omega
        refine ⟨hpos, ?_⟩
        rw [dec_step _ hpos, hp]
        have e1 : (pv 0 r * 10 + dval c) / 10 = pv 0 r := by omega
        have e2 : (pv 0 r * 10 + dval c) % 10 = dval c := by omega
        rw [e1, e2, i2, hcc]
  cases l with
  | nil => exact absurd rfl h0
  | cons c r =>
    by_cases hc : c.toNat = 48
    · have := h1 c r rfl hc
      subst this
      have : c = 48 := by rw [← UInt8.toNat_inj]; exact hc
      subst this
      exact txt_zero
    · obtain ⟨i1, i2⟩ := key _ (c :: r) rfl h h0 (fun c' r' e => by injection e with e1 e2; rw [← e1]; exact hc)
      rw [txt_pos _ i1, i2]
theorem parse10 (a : Nat) (l : List UInt8) (h : Digits l) (hb : pv a l < 1000000000000000000) : Lib.parseUint10 a l = .ok (pv a l) := by
  induction l generalizing a with
  | nil => rfl
  | cons c l ih =>
    have h1 := h c List.mem_cons_self
    have h2 : a * 10 + dval c ≤ pv (a * 10 + dval c) l := by
      rw [pv_acc]
      have := Nat.mul_le_mul_left (a * 10 + dval c) (Nat.one_le_pow l.length 10 (by omega))
      omega
    rw [pv_cons] at hb
    rw [Lib.parseUint10, if_pos h1, show c.toNat - 48 = dval c from rfl, if_neg (by omega), if_neg (by omega), ih _ (fun x hx => h x (List.mem_cons_of_mem _ hx)) hb]
    rfl
theorem atoi_digits {l : List UInt8} (h : Digits l) (h0 : l ≠ []) (hl : l.length ≤ 18) : Lib.atoiAll l = .ok (pv 0 l : Int) := by
  have hlt : pv 0 l < 1000000000000000000 := Nat.lt_of_lt_of_le (pv_lt h) (Nat.pow_le_pow_right (n := 10) (by omega) hl)
  cases l with
  | nil => exact absurd rfl h0
  | cons c r =>
    have h1 := h c List.mem_cons_self
    have hm : Lib.parseMag (c :: r) = .ok (pv 0 (c :: r)) := by
      unfold Lib.parseMag
      rw [if_neg (by simp), parse10 0 _ h hlt]
    unfold Lib.atoiAll
    have e : ¬ (c.toNat = 43 ∨ c.toNat = 45) := by omega
    simp only [if_neg e, hm]
    rw [if_neg (by omega), if_neg (by omega), if_neg (by omega)]
theorem ten_mem (c : UInt8) : ([48, 49, 50, 51, 52, 53, 54, 55, 56, 57] : List UInt8).contains c = true ↔ 48 ≤ c.toNat ∧ c.toNat ≤ 57 := by
  revert c
  have : ∀ n : Fin 256, (([48, 49, 50, 51, 52, 53, 54, 55, 56, 57] : List UInt8).contains (UInt8.ofNat n.val) = true ↔ 48 ≤ n.val ∧ n.val ≤ 57) := by decide +kernel
  intro c
  have h := this ⟨c.toNat, c.toNat_lt⟩
  simpa using h
theorem dropWhile_nil {p : UInt8 → Bool} {l : List UInt8} : l.dropWhile p = [] ↔ ∀ c ∈ l, p c = true := by
  induction l with
  | nil => simp
  | cons c l ih =>
    rw [List.dropWhile_cons]
    split
    · rename_i h; rw [ih]; simp [h]
    · rename_i h; simp [h]
theorem trim_nil (l : List UInt8) : Lib.trimS l [48, 49, 50, 51, 52, 53, 54, 55, 56, 57] = [] ↔ Digits l := by
  have hp : ∀ r : List UInt8, (∀ c ∈ r, ([48, 49, 50, 51, 52, 53, 54, 55, 56, 57] : List UInt8).contains c = true) ↔ Digits r := fun r => ⟨fun h c hc => (ten_mem c).1 (h c hc), fun h c hc => (ten_mem c).2 (h c hc)⟩
  unfold Lib.trimS Lib.trimLeftS Lib.trimRightS
  rw [dropWhile_nil]
  constructor
  · intro h
    by_cases hd : Digits l
    · exact hd
    · exfalso
      have h2 : ¬ (∀ c ∈ l.reverse, ([48, 49, 50, 51, 52, 53, 54, 55, 56, 57] : List UInt8).contains c = true) := fun hh => hd ((hp l).1 fun c hc => hh c (List.mem_reverse.2 hc))
      rw [← dropWhile_nil] at h2
      obtain ⟨c, r, e⟩ := List.exists_cons_of_ne_nil h2
      have h3 := h c (by rw [e]; simp)
      have h4 := List.head_dropWhile_not (p := fun x => ([48, 49, 50, 51, 52, 53, 54, 55, 56, 57] : List UInt8).contains x) (l := l.reverse) h2
      have h5 : (l.reverse.dropWhile (fun x => ([48, 49, 50, 51, 52, 53, 54, 55, 56, 57] : List UInt8).contains x)).head h2 = c := by
        have : ∀ (t : List UInt8) (ht : t ≠ []), t = c :: r → t.head ht = c := by intro t ht et; subst et; rfl
        exact this _ _ e
      rw [h5, h3] at h4
      cases h4
  · intro h c hc
    rw [List.mem_reverse] at hc
    exact (hp l).2 h c (List.mem_reverse.1 (List.dropWhile_sublist _ |>.mem hc))
end Go.Proofs.YtmjkhbjfacfmcaaDoor.NT
end
section
namespace Go.Proofs.YtmjkhbjfacfmcaaDoor.NV
open Go Go.RowKit Go.Proofs.YtmjkhbjfacfmcaaDoor Go.Proofs.YtmjkhbjfacfmcaaDoor.PA Go.Proofs.YtmjkhbjfacfmcaaDoor.NM Go.Proofs.YtmjkhbjfacfmcaaDoor.NT Go.Proofs.YtmjkhbjfacfmcaaDoorW.PrintWords Go.Proofs.YtmjkhbjfacfmcaaDoorW.PrintLast
theorem IsZero_nat (n : Nat) : nat_IsZero.f (dg 4294967296 n) = some (decide (n = 0)) := by
  unfold nat_IsZero.f
  rcases Nat.eq_zero_or_pos n with h | h
  · subst h; rw [dg_zero]; rfl
  · rw [dg_pos (by omega) h, List.length_cons]
    have h1 : ¬ n = 0 := by omega
    have h2 : ((((dg 4294967296 (n / 4294967296)).length + 1 : Nat) : Int) == 0) = false := by rw [beq_eq_false_iff_ne]; omega
    rw [h2, decide_eq_false h1]
theorem alg_short {v by' P c V A D q x : Int} (hv : v * by' + P * 4294967296 * c = V - (A + P * D)) (e : c * 4294967296 + D = by' * q + x) : (v + P * (q - 0)) * by' + P * x = V - A := by
  have : x = c * 4294967296 + D - by' * q := by omega
  subst this
  grind
theorem short_loop (d : List Int) (y : Int) (hd : Dig 4294967296 d) (hl : d.length ≤ 1099511627776) (y0 : 0 < y) (y1 : y < 4294967296) : ∀ (j : Nat) (o : List Int) (c e : Int), e = (j : Int) - 1 → j ≤ d.length → o.length = d.length → Dig 4294967296 o → 0 ≤ c → c < y →
    (∀ p, p < j → rd o (p : Int) = 0) → Hold (vl 4294967296 o * y + 4294967296 ^ j * c = vl 4294967296 d - vl 4294967296 (d.take j)) →
    ∃ q, q.length = d.length ∧ Dig 4294967296 q ∧ vl 4294967296 q = vl 4294967296 d / y ∧ Ev (fun k => nat_short.l0 k d y o c e) (q, vl 4294967296 d % y) := by
  intro j
  induction j with
  | zero =>
    intro o c e he hj ho hdo c0 c1 hz hv
    subst he
    unfold Hold at hv
    simp only [List.take_zero, vl, Int.pow_zero, Int.one_mul, Int.sub_zero] at hv
    have hq : vl 4294967296 d / y = vl 4294967296 o := by
      rw [← hv, Int.add_comm, Int.add_mul_ediv_right _ _ (by omega), Int.ediv_eq_zero_of_lt c0 c1]; omega
    have hr : vl 4294967296 d % y = c := by
      rw [← hv, Int.add_comm, Int.add_mul_emod_self_right, Int.emod_eq_of_lt c0 c1]
    refine ⟨o, ho, hdo, hq.symm, ?_⟩
    rw [hr]
    refine Ev.step (f := fun _ => some (o, c)) (fun k => ?_) (Ev.now _)
    rw [nat_short.l0, if_neg (by omega)]
  | succ j ih =>
    intro o c e he hj ho hdo c0 c1 hz hv
    have he' : e = (j : Int) := by omega
    subst he'
    have hx := hd.rd (by omega) j
    obtain ⟨t, ht⟩ : ∃ t, c * 4294967296 + rd d (j : Int) = t := ⟨_, rfl⟩
    have t0 : 0 ≤ t := by omega
    have q0 : 0 ≤ t / y := Int.ediv_nonneg t0 (by omega)
    have q1 : t / y < 4294967296 := Int.ediv_lt_of_lt_mul (by omega) (by omega)
    have m0 : 0 ≤ t % y := Int.emod_nonneg _ (by omega)
    have m1 : t % y < y := Int.emod_lt_of_pos t y0
    have ew : ((j : Int)) - 1 = (j : Int) - 1 := rfl
    obtain ⟨q, h1, h2, h3, h4⟩ := ih (o.set j (t / y)) (t % y) ((j : Int) - 1) rfl (by omega) (by simpa using ho) (hdo.set j q0 q1) m0 m1
      (fun p hp => by rw [rd_set_ne _ _ _ _ (by omega)]; exact hz p (by omega)) (by
        unfold Hold at hv ⊢
        rw [vl_set _ _ _ _ (by omega), hz j (by omega)]
        rw [vl_take_succ, Int.pow_succ] at hv
        exact alg_short hv (by rw [ht]; exact (Int.mul_ediv_add_emod t y).symm))
    refine ⟨q, h1, h2, h3, ?_⟩
    refine Ev.step (f := fun k => nat_short.l0 k d y (o.set j (t / y)) (t % y) ((j : Int) - 1)) (fun k => ?_) h4
    have hw : wrap64 ((j : Int) - 1) = (j : Int) - 1 := w64 (by omega) (by omega)
    have hb : bits_Div32.f c (rd d (j : Int)) y = some (t / y, t % y) := by
      unfold bits_Div32.f
      rw [if_pos ⟨c0, c1, y1, hx.1, hx.2⟩, ht]
    rw [nat_short.l0, if_pos (by omega), if_pos (by omega), if_pos (by omega), hb, Option.bind_some, if_pos (by omega), hw, Int.toNat_natCast]
theorem short_nat (n m : Nat) (hl : (dg 4294967296 n).length ≤ 1099511627776) (h0 : 0 < m) (h1 : m < 4294967296) :
    ∃ q, q.length = (dg 4294967296 n).length ∧ Dig 4294967296 q ∧ vl 4294967296 q = ((n / m : Nat) : Int) ∧ Ev (fun k => nat_short.f k (dg 4294967296 n) (m : Int)) (q, ((n % m : Nat) : Int)) := by
  obtain ⟨q, a, b, c, d⟩ := short_loop (dg 4294967296 n) m (dig32 n) hl (by omega) (by omega) (dg 4294967296 n).length (List.replicate (dg 4294967296 n).length 0) 0 _ rfl (Nat.le_refl _) (by simp) (Dig.rep (by omega) _) (by omega) (by omega) (fun p _ => rd_rep _ _)
    (by unfold Hold; rw [vl_rep, vl_take_all _ _ _ (Nat.le_refl _)]; omega)
  rw [vl32] at c d
  refine ⟨q, a, b, c, ?_⟩
  refine Ev.congr (f := fun k => nat_short.l0 k (dg 4294967296 n) m (List.replicate (dg 4294967296 n).length 0) 0 (((dg 4294967296 n).length : Int) - 1)) (fun k => ?_) d
  unfold nat_short.f
  have hw : wrap64 (((dg 4294967296 n).length : Int) - 1) = ((dg 4294967296 n).length : Int) - 1 := w64 (by omega) (by omega)
  rw [if_pos (by omega), if_pos (by omega), hw, Int.toNat_natCast]
theorem itoa_nat (n : Nat) (h : n < 9223372036854775808) : strconv_Itoa.f (n : Int) = some ⟨(txt n).toArray⟩ := by
  unfold strconv_Itoa.f
  rw [if_pos (by omega), Lib.itoa_nonneg]
  rfl
theorem repeat_nat (n : Nat) (h : n ≤ 1000000) : strings_Repeat.f (⟨#[48]⟩ : ByteArray) (n : Int) = some ⟨(List.replicate n (48 : UInt8)).toArray⟩ := by
  unfold strings_Repeat.f
  rw [if_pos ⟨by omega, by omega, by rw [Int.toNat_natCast]; show 1 * n ≤ _; omega⟩, Int.toNat_natCast]
  exact congrArg (fun l : List UInt8 => some (⟨l.toArray⟩ : ByteArray)) (rep_one 48 n)
theorem len_mul_lt {n : Nat} (h : (dg 4294967296 n).length ≤ 1000000000000) : (dg 4294967296 (n / 1000000000)).length ≤ 1000000000000 := by
  refine Nat.le_trans (dg_length (by omega) (k := (dg 4294967296 n).length) ?_) h
  exact Nat.lt_of_le_of_lt (Nat.div_le_self _ _) (lt_pow_length (by omega) n)
theorem size_mk (l : List UInt8) : (⟨l.toArray⟩ : ByteArray).size = l.length := by simp [ByteArray.size]
theorem mk_append (l r : List UInt8) : (⟨l.toArray⟩ : ByteArray) ++ ⟨r.toArray⟩ = ⟨(l ++ r).toArray⟩ := by
  apply ByteArray.ext
  simp
theorem revcat_snoc (l : List ByteArray) (s : ByteArray) : revcat (l ++ [s]) = s.data.toList ++ revcat l := by simp [revcat]
theorem txt_len_pos (n : Nat) : 1 ≤ (txt n).length := by
  rcases Nat.eq_zero_or_pos n with h0 | h0
  · subst h0; rw [txt_zero]; exact Nat.le_refl _
  · rw [txt_pos n h0, dec_step n h0]; simp
theorem Text_loop : ∀ (n : Nat) (ps : List ByteArray), (dg 4294967296 n).length ≤ 1000000000000 → ps.length + (dg 1000000000 n).length ≤ 8000000000000 → (revcat ps).length + (dec n).length ≤ 100000000000000 →
    Ev (fun k => nat_Text.l0 k ps (dg 4294967296 n)) ⟨(dec n ++ revcat ps).toArray⟩ := by
  intro n
  induction n using Nat.strongRecOn with
  | _ n ih =>
    intro ps hl hp hr
    rcases Nat.eq_zero_or_pos n with h0 | h0
    · subst h0
      refine Ev.step (f := fun _ => some ⟨(revcat ps).toArray⟩) (fun k => ?_) ?_
      · rw [nat_Text.l0, IsZero_nat, Option.bind_some, if_pos (show decide (0 = 0) = true from rfl)]
        unfold joinrev.f
        rw [if_pos (by omega), Option.bind_some]
      · rw [dec_zero]; exact Ev.now _
    · obtain ⟨q, q1, q2, q3, q4⟩ := short_nat n 1000000000 (by omega) (by omega) (by omega)
      have hnq := norm_nat (by omega) q2 q3
      have hz : decide (n = 0) ≠ true := by simp; omega
      have hpl : ps.length < 8796093022208 := by omega
      have hdg : (dg 1000000000 n).length = (dg 1000000000 (n / 1000000000)).length + 1 := by rw [dg_pos (by omega) h0, List.length_cons]
      have hlq : (dg 4294967296 (n / 1000000000)).length ≤ 1000000000000 := len_mul_lt hl
      have hlt : n % 1000000000 < 1000000000 := Nat.mod_lt _ (by omega)
      obtain ⟨htl0, htl⟩ := txt_le (k := 9) (by omega) (show n % 1000000000 < 10 ^ 9 from hlt)
      have hit : strconv_Itoa.f (wrap64 ((n % 1000000000 : Nat) : Int)) = some ⟨(txt (n % 1000000000)).toArray⟩ := by
        rw [w64 (by omega) (by omega)]; exact itoa_nat _ (by omega)
      obtain ⟨s, hs1, hs2, hs3⟩ : ∃ s : ByteArray, (dec n = dec (n / 1000000000) ++ s.data.toList) ∧ (s.size ≤ 9) ∧ (∀ m, ∀ X : Option ByteArray, (if decide (n / 1000000000 = 0) = true then (if ps.length < 8796093022208 then (nat_Text.l0 m (ps ++ [⟨(txt (n % 1000000000)).toArray⟩]) (dg 4294967296 (n / 1000000000))) else (none)) else ((strings_Repeat.f (⟨#[48]⟩ : ByteArray) (wrap64 (9 - ((⟨(txt (n % 1000000000)).toArray⟩ : ByteArray).size : Int)))).bind fun t191 => (if t191.size + (⟨(txt (n % 1000000000)).toArray⟩ : ByteArray).size ≤ 9223372036854775807 then (if ps.length < 8796093022208 then (nat_Text.l0 m (ps ++ [t191 ++ ⟨(txt (n % 1000000000)).toArray⟩]) (dg 4294967296 (n / 1000000000))) else (none)) else (none)))) = X → nat_Text.l0 m (ps ++ [s]) (dg 4294967296 (n / 1000000000)) = X) := by
        rcases Nat.eq_zero_or_pos (n / 1000000000) with h9 | h9
        · have hn9 : n % 1000000000 = n := by omega
          refine ⟨⟨(txt (n % 1000000000)).toArray⟩, ?_, by rw [size_mk]; exact htl, fun m X hX => ?_⟩
          · rw [h9, dec_zero, hn9, txt_pos n h0]; rfl
          · rw [if_pos (decide_eq_true h9), if_pos hpl] at hX; exact hX
        · refine ⟨⟨(List.replicate (9 - (txt (n % 1000000000)).length) 48 ++ txt (n % 1000000000)).toArray⟩, ?_, by rw [size_mk, List.length_append, List.length_replicate]; omega, fun m X hX => ?_⟩
          · have hn : n = n % 1000000000 + 10 ^ 9 * (n / 1000000000) := (Nat.mod_add_div n 1000000000).symm
            have h := dec_split h9 (show n % 1000000000 < 10 ^ 9 from hlt)
            rw [← hn] at h
            rw [h, pad_txt _ 9 (by omega) hlt]
          · have hd9 : ¬ (decide (n / 1000000000 = 0) = true) := by simp; omega
            have hw : wrap64 (9 - ((txt (n % 1000000000)).length : Int)) = ((9 - (txt (n % 1000000000)).length : Nat) : Int) := by rw [w64 (by omega) (by omega)]; omega
            rw [if_neg hd9, size_mk, hw, repeat_nat _ (by omega), Option.bind_some, size_mk, List.length_replicate, if_pos (by clear hw; omega), if_pos hpl, mk_append] at hX
            exact hX
      have hrs : (revcat (ps ++ [s])).length = s.data.toList.length + (revcat ps).length := by rw [revcat_snoc, List.length_append]
      have hdl : (dec n).length = (dec (n / 1000000000)).length + s.data.toList.length := by rw [hs1, List.length_append]
      have hih := ih (n / 1000000000) (by omega) (ps ++ [s]) hlq (by rw [List.length_append, List.length_singleton]; omega) (by omega)
      rw [revcat_snoc, ← List.append_assoc, ← hs1] at hih
      obtain ⟨K1, e1⟩ := q4
      obtain ⟨K2, e2⟩ := hnq
      obtain ⟨K3, e3⟩ := hih
      refine ⟨max K1 (max K2 K3) + 1, fun k hk => ?_⟩
      have hk1 : K1 ≤ k - 1 := by omega
      have hk2 : K2 ≤ k - 1 := by omega
      have hk3 : K3 ≤ k - 1 := by omega
      obtain ⟨m, rfl⟩ : ∃ m, k = m + 1 := ⟨k - 1, by omega⟩
      have e1 := e1 m hk1
      have e2 := e2 m hk2
      have e3 := e3 m hk3
      dsimp only at e1 e2 e3
      show nat_Text.l0 (m + 1) ps (dg 4294967296 n) = _
      rw [nat_Text.l0, IsZero_nat, Option.bind_some, if_neg hz]
      rw [show (1000000000 : Int) = ((1000000000 : Nat) : Int) from rfl, e1, Option.bind_some, e2, Option.bind_some]
      simp only []
      rw [hit, Option.bind_some, IsZero_nat, Option.bind_some, ← e3]
      exact (hs3 m _ rfl).symm
theorem Text_nat (n : Nat) (hl : (dg 4294967296 n).length ≤ 1000000000000) (hl2 : (dg 1000000000 n).length ≤ 8000000000000) (hl3 : (dec n).length ≤ 100000000000000) : Ev (fun k => nat_Text.f k (dg 4294967296 n)) ⟨(txt n).toArray⟩ := by
  rcases Nat.eq_zero_or_pos n with h0 | h0
  · subst h0
    refine Ev.congr (f := fun _ => some ⟨#[48]⟩) (fun k => ?_) ?_
    · unfold nat_Text.f; rw [IsZero_nat, Option.bind_some, if_pos (show decide (0 = 0) = true from rfl)]
    · rw [txt_zero]; exact Ev.now _
  · have hz : ¬ (decide (n = 0) = true) := by simp; omega
    have h := Text_loop n [] hl (by simpa using hl2) (by simpa [revcat] using hl3)
    refine Ev.congr (f := fun k => nat_Text.l0 k [] (dg 4294967296 n)) (fun k => ?_) ?_
    · unfold nat_Text.f; rw [IsZero_nat, Option.bind_some, if_neg hz]
    · rw [txt_pos n h0]
      have e : dec n ++ revcat [] = dec n := by simp [revcat]
      rw [e] at h
      exact h
end Go.Proofs.YtmjkhbjfacfmcaaDoor.NV
end
section
namespace Go.Proofs.YtmjkhbjfacfmcaaDoor.NV
open Go Go.RowKit Go.Proofs.YtmjkhbjfacfmcaaDoor Go.Proofs.YtmjkhbjfacfmcaaDoor.PA Go.Proofs.YtmjkhbjfacfmcaaDoor.NM Go.Proofs.YtmjkhbjfacfmcaaDoor.NT Go.Proofs.YtmjkhbjfacfmcaaDoorW.PrintWords Go.Proofs.YtmjkhbjfacfmcaaDoorW.PrintLast
def cmp (a b : Int) : Int := if a < b then -1 else if a = b then 0 else 1
theorem vl_parts (B : Int) (l : List Int) (j : Nat) (h : j < l.length) : vl B l = vl B (l.take j) + B ^ j * (rd l (j : Int) + B * vl B (l.drop (j + 1))) := by
  have e : l = l.take j ++ l.drop j := (List.take_append_drop j l).symm
  rw [e, vl_append, List.length_take, Nat.min_eq_left (Nat.le_of_lt h), vl_drop _ _ _ h, ← e, rd_nat _ _ h]
theorem vl_less {B : Int} (hB : 0 < B) {l r : List Int} (hl : Dig B l) (hr : Dig B r) (j : Nat) (h1 : j < l.length) (h2 : j < r.length) (hd : l.drop (j + 1) = r.drop (j + 1)) (hlt : rd l (j : Int) < rd r (j : Int)) : vl B l < vl B r := by
  rw [vl_parts B l j h1, vl_parts B r j h2, hd]
  have a1 := vl_lt hB (hl.take j)
  have a2 := vl_nonneg hB (hr.take j)
  rw [List.length_take, Nat.min_eq_left (Nat.le_of_lt h1)] at a1
  have hp : 0 < B ^ j := Int.pow_pos hB
  have h3 : B ^ j * (rd l (j : Int) + 1) ≤ B ^ j * rd r (j : Int) := Int.mul_le_mul_of_nonneg_left (by omega) (Int.le_of_lt hp)
  generalize B ^ j = P at *
  rw [Int.mul_add, Int.mul_one] at h3
  rw [Int.mul_add, Int.mul_add]
  omega
theorem cmp_lt {a b : Int} (h : a < b) : cmp a b = -1 := by unfold cmp; rw [if_pos h]
theorem cmp_gt {a b : Int} (h : b < a) : cmp a b = 1 := by unfold cmp; rw [if_neg (by omega), if_neg (by omega)]
theorem Cmp_loop (l r : List Int) (hl : Dig 4294967296 l) (hr : Dig 4294967296 r) (hlr : l.length = r.length) (hn : l.length ≤ 1099511627776) : ∀ (j : Nat) (e : Int), e = (j : Int) - 1 → j ≤ l.length → l.drop j = r.drop j →
    Ev (fun k => nat_Cmp.l0 k e l r) (cmp (vl 4294967296 l) (vl 4294967296 r)) := by
  intro j
  induction j with
  | zero =>
    intro e he _ hd
    simp only [List.drop_zero] at hd
    subst hd
    have hc : cmp (vl 4294967296 l) (vl 4294967296 l) = 0 := by unfold cmp; rw [if_neg (by omega), if_pos rfl]
    rw [hc]
    refine Ev.step (f := fun _ => some 0) (fun k => ?_) (Ev.now _)
    rw [nat_Cmp.l0, if_neg (by omega)]
  | succ j ih =>
    intro e he hj hd
    have he' : e = (j : Int) := by omega
    subst he'
    by_cases hx : rd l (j : Int) = rd r (j : Int)
    · have hd' : l.drop j = r.drop j := by
        rw [List.drop_eq_getElem_cons (show j < l.length by omega), List.drop_eq_getElem_cons (show j < r.length by omega), hd, ← rd_nat l j (by omega), ← rd_nat r j (by omega), hx]
      refine Ev.step (f := fun k => nat_Cmp.l0 k ((j : Int) - 1) l r) (fun k => ?_) (ih _ rfl (by omega) hd')
      have hw : wrap64 ((j : Int) - 1) = (j : Int) - 1 := w64 (by omega) (by omega)
      rw [nat_Cmp.l0, if_pos (by omega), if_pos (by omega), if_pos (by omega), if_pos (by omega), if_pos hx, hw]
    · rcases Int.lt_or_gt_of_ne hx with h | h
      · rw [cmp_lt (vl_less (by omega) hl hr j (by omega) (by omega) hd h)]
        refine Ev.step (f := fun _ => some (-1)) (fun k => ?_) (Ev.now _)
        rw [nat_Cmp.l0, if_pos (by omega), if_pos (by omega), if_pos (by omega), if_pos (by omega), if_neg hx, if_pos h]
      · rw [cmp_gt (vl_less (by omega) hr hl j (by omega) (by omega) hd.symm h)]
        refine Ev.step (f := fun _ => some 1) (fun k => ?_) (Ev.now _)
        rw [nat_Cmp.l0, if_pos (by omega), if_pos (by omega), if_pos (by omega), if_pos (by omega), if_neg hx, if_neg (by omega)]
theorem len_lt_of {B : Nat} (hB : 2 ≤ B) {a b : Nat} (h : (dg B a).length < (dg B b).length) : a < b := by
  rcases Nat.lt_or_ge a b with h1 | h1
  · exact h1
  · exfalso
    have := dg_length hB (Nat.lt_of_le_of_lt h1 (lt_pow_length hB a))
    omega
theorem Cmp_nat (a b : Nat) (ha : (dg 4294967296 a).length ≤ 1099511627776) : Ev (fun k => nat_Cmp.f k (dg 4294967296 a) (dg 4294967296 b)) (cmp a b) := by
  rcases Nat.lt_trichotomy (dg 4294967296 a).length (dg 4294967296 b).length with h | h | h
  · have hab := len_lt_of (by omega) h
    rw [cmp_lt (by omega)]
    refine Ev.congr (f := fun _ => some (-1)) (fun k => ?_) (Ev.now _)
    unfold nat_Cmp.f
    rw [if_neg (by omega), if_pos (by omega)]
  · have hw : wrap64 (((dg 4294967296 a).length : Int) - 1) = ((dg 4294967296 a).length : Int) - 1 := w64 (by omega) (by omega)
    have hc := Cmp_loop _ _ (dig32 a) (dig32 b) h ha (dg 4294967296 a).length _ rfl (Nat.le_refl _) (by rw [List.drop_length, h, List.drop_length])
    rw [vl32, vl32] at hc
    refine Ev.congr (fun k => ?_) hc
    unfold nat_Cmp.f
    rw [if_pos (by omega), hw]
  · have hab := len_lt_of (by omega) h
    rw [cmp_gt (by omega)]
    refine Ev.congr (f := fun _ => some 1) (fun k => ?_) (Ev.now _)
    unfold nat_Cmp.f
    rw [if_neg (by omega), if_neg (by omega)]
theorem grow_len {a n : Nat} (hn : n < 1000000000) : (dg 4294967296 (a * 1000000000 + n)).length ≤ (dg 4294967296 a).length + 1 := by
  refine dg_length (by omega) ?_
  have h := lt_pow_length (B := 4294967296) (by omega) a
  rw [Nat.pow_succ]
  generalize 4294967296 ^ (dg 4294967296 a).length = P at *
  omega
theorem atoi_nat {l : List UInt8} (h : Digits l) (h0 : l ≠ []) (hl : l.length ≤ 9) : strconv_Atoi.f ⟨l.toArray⟩ = some (((pv 0 l : Nat) : Int), none) := by
  unfold strconv_Atoi.f
  rw [size_mk, if_pos (by omega)]
  show (match Lib.atoiAll l with | .ok v => some (v, none) | _ => none) = _
  rw [atoi_digits h h0 (by omega)]
theorem pv_two (a : Nat) (l r : List UInt8) : a * 10 ^ (l ++ r).length + pv 0 (l ++ r) = (a * 10 ^ l.length + pv 0 l) * 10 ^ r.length + pv 0 r := by
  rw [← pv_acc a (l ++ r), ← pv_acc a l, pv_append, pv_acc (pv a l) r]
theorem Parse_loop : ∀ (n : Nat) (l : List UInt8) (a : Nat), l.length = n → Digits l → (l.length % 9 = 0 ∨ a = 0) → (dg 4294967296 a).length + l.length ≤ 1000000 →
    Ev (fun k => nat_Parse.l0 k ⟨l.toArray⟩ (dg 4294967296 a)) (dg 4294967296 (a * 10 ^ l.length + pv 0 l), 0) := by
  intro n
  induction n using Nat.strongRecOn with
  | _ n ih =>
    intro l a hn hd hm hb
    rcases Nat.eq_zero_or_pos n with h0 | h0
    · have hl : l = [] := List.length_eq_zero_iff.1 (by omega)
      subst hl
      have e : a * 10 ^ ([] : List UInt8).length + pv 0 [] = a := by simp [pv_nil]
      rw [e]
      refine Ev.step (f := fun _ => some (dg 4294967296 a, 0)) (fun k => ?_) (Ev.now _)
      rw [nat_Parse.l0, size_mk, if_neg (by simp)]
    · obtain ⟨c, hc⟩ : ∃ c, (l.length - 1) % 9 + 1 = c := ⟨_, rfl⟩
      have hc1 : 1 ≤ c := by omega
      have hc9 : c ≤ 9 := by omega
      have hcl : c ≤ l.length := by omega
      have hw : wrap64 ((Int.tmod (wrap64 ((l.length : Int) - 1)) 9) + 1) = (c : Int) := by
        rw [wsub1 l.length (by omega) (by omega), Int.tmod_eq_emod_of_nonneg (by omega), w64 (by omega) (by omega)]
        omega
      have hlt : (l.take c).length = c := by rw [List.length_take]; omega
      have hld : (l.drop c).length = l.length - c := List.length_drop
      have hdt := hd.take c
      have hpv := pv_lt hdt
      rw [hlt] at hpv
      have hpv9 : pv 0 (l.take c) < 1000000000 := Nat.lt_of_lt_of_le hpv (Nat.pow_le_pow_right (n := 10) (j := 9) (by omega) hc9)
      clear hpv
      have hat := atoi_nat hdt (by intro h; rw [h] at hlt; simp at hlt; omega) (by omega)
      have hmul : (dg 4294967296 a).length + (dg 4294967296 1000000000).length ≤ 1099511627776 := by
        have : (dg 4294967296 1000000000).length ≤ 1 := dg_length (by omega) (by omega)
        omega
      have e1 := Of_ev 1000000000 (by omega)
      have e2 := Mul_nat a 1000000000 hmul
      have e3 := Of_ev (pv 0 (l.take c)) (by omega)
      have hlm : (dg 4294967296 (a * 1000000000)).length ≤ (dg 4294967296 a).length + 1 := by have := @grow_len a 0 (by omega); rwa [Nat.add_zero] at this
      have hln : (dg 4294967296 (a * 1000000000 + pv 0 (l.take c))).length ≤ (dg 4294967296 a).length + 1 := grow_len hpv9
      have hlp : (dg 4294967296 (pv 0 (l.take c))).length ≤ 1 := dg_length (by omega) (by omega)
      have e4 := Add_nat (a * 1000000000) (pv 0 (l.take c)) (by omega) (by omega)
      have e5 := ih (l.length - c) (by omega) (l.drop c) (a * 1000000000 + pv 0 (l.take c)) hld (hd.drop c) (by left; rw [hld]; omega) (by rw [hld]; omega)
      have hval : (a * 1000000000 + pv 0 (l.take c)) * 10 ^ (l.drop c).length + pv 0 (l.drop c) = a * 10 ^ l.length + pv 0 l := by
        have h2 := pv_two a (l.take c) (l.drop c)
        rw [List.take_append_drop, hlt] at h2
        rw [h2]
        rcases hm with hm | hm
        · have : c = 9 := by omega
          subst this
          rfl
        · subst hm; simp
      rw [hval] at e5
      obtain ⟨K1, e1⟩ := e1
      obtain ⟨K2, e2⟩ := e2
      obtain ⟨K3, e3⟩ := e3
      obtain ⟨K4, e4⟩ := e4
      obtain ⟨K5, e5⟩ := e5
      clear hval hw
      refine ⟨K1 + K2 + K3 + K4 + K5 + 1, fun k hk => ?_⟩
      obtain ⟨m, rfl⟩ : ∃ m, k = m + 1 := ⟨k - 1, by omega⟩
      have e1 := e1 m (by omega)
      have e2 := e2 m (by omega)
      have e3 := e3 m (by omega)
      have e4 := e4 m (by omega)
      have e5 := e5 m (by omega)
      dsimp only at e1 e2 e3 e4 e5
      have hw : wrap64 ((Int.tmod (wrap64 ((l.length : Int) - 1)) 9) + 1) = (c : Int) := by
        rw [wsub1 l.length (by omega) (by omega), Int.tmod_eq_emod_of_nonneg (by omega), w64 (by omega) (by omega)]
        omega
      have hwu : IntKind.u64.wrap ((pv 0 (l.take c) : Nat) : Int) = ((pv 0 (l.take c) : Nat) : Int) := wu64 (by omega) (by clear hw; omega)
      show nat_Parse.l0 (m + 1) ⟨l.toArray⟩ (dg 4294967296 a) = _
      rw [nat_Parse.l0, size_mk, hw]
      clear hw
      rw [if_pos (by omega), if_pos (by omega), if_pos (by omega), Int.toNat_natCast, Lib.extract_mk, Lib.extract_mk, List.drop_zero, Nat.sub_zero, hat, Option.bind_some, show (1000000000 : Int) = ((1000000000 : Nat) : Int) from rfl, e1, Option.bind_some, e2, Option.bind_some, hwu, e3, Option.bind_some, e4, Option.bind_some]
      rw [List.take_of_length_le (by rw [hld]; exact Nat.le_refl _)]
      exact e5
theorem bt_zero (c : UInt8) (l : List UInt8) : bt ⟨(c :: l).toArray⟩ 0 = (c.toNat : Int) := by
  unfold bt
  rw [dif_pos (by rw [size_mk]; simp)]
  rfl
theorem toList_mk (l : List UInt8) : (⟨l.toArray⟩ : ByteArray).toList = l := by rw [Lib.toList_data]
theorem Parse_j0 (l : List UInt8) (hd : Digits l) (hl : l.length ≤ 1000) : Ev (fun k => nat_Parse.j0 k ⟨l.toArray⟩ false) (dg 4294967296 (pv 0 l), 0) := by
  have h := Parse_loop _ l 0 rfl hd (Or.inr rfl) (by rw [dg_zero]; simp; omega)
  rw [Nat.zero_mul, Nat.zero_add, dg_zero] at h
  refine Ev.step (fun k => ?_) h
  rw [nat_Parse.j0, if_neg (by simp), size_mk, if_neg (by omega)]
theorem Parse_bad (x : ByteArray) : Ev (fun k => nat_Parse.j0 k x true) ([], 3) := by
  refine Ev.step (f := fun _ => some ([], 3)) (fun k => ?_) (Ev.now _)
  rw [nat_Parse.j0, if_pos rfl]
theorem Trim_nat (l : List UInt8) (hl : l.length ≤ 1000000000000) : strings_Trim.f ⟨l.toArray⟩ (⟨#[48, 49, 50, 51, 52, 53, 54, 55, 56, 57]⟩ : ByteArray) = some ⟨(Lib.trimS l [48, 49, 50, 51, 52, 53, 54, 55, 56, 57]).toArray⟩ := by
  unfold strings_Trim.f
  rw [if_pos ⟨rfl, by rw [size_mk]; omega⟩]
theorem Parse_ok {l : List UInt8} (hd : Digits l) (h0 : l ≠ []) (h1 : ∀ c r, l = c :: r → c.toNat = 48 → r = []) (hl : l.length ≤ 1000) : Ev (fun k => nat_Parse.f k ⟨l.toArray⟩) (dg 4294967296 (pv 0 l), 0) := by
  refine Ev.congr (fun k => ?_) (Parse_j0 l hd hl)
  unfold nat_Parse.f
  rw [toList_mk, if_neg h0, size_mk]
  obtain ⟨c, r, rfl⟩ := List.exists_cons_of_ne_nil h0
  rw [bt_zero]
  have ht : ((⟨(Lib.trimS (c :: r) [48, 49, 50, 51, 52, 53, 54, 55, 56, 57]).toArray⟩ : ByteArray).toList != ([] : List UInt8)) = false := by
    rw [toList_mk, (trim_nil _).2 hd]; rfl
  rw [if_pos (by rw [List.length_cons]; omega)]
  by_cases hc : c.toNat = 48
  · have := h1 c r rfl hc
    subst this
    rw [if_pos (by omega), if_neg (by simp), Trim_nat _ (by omega), Option.bind_some, ht]
  · rw [if_neg (by omega), Trim_nat _ (by omega), Option.bind_some, ht]
theorem Parse_txt (n : Nat) (h : (txt n).length ≤ 1000) : Ev (fun k => nat_Parse.f k ⟨(txt n).toArray⟩) (dg 4294967296 n, 0) := by
  have h2 := Parse_ok (digits_txt n) (by have := txt_len_pos n; intro e; rw [e] at this; simp at this) ?_ h
  · rw [pv_txt] at h2; exact h2
  · intro c r e hc
    rcases Nat.eq_zero_or_pos n with h0 | h0
    · subst h0; rw [txt_zero] at e; injection e with _ e; exact e.symm
    · rw [txt_pos n h0] at e
      obtain ⟨c', l', e', hc'⟩ := dec_head n h0
      rw [e'] at e
      injection e with e1 e2
      subst e1
      exact absurd hc hc'
end Go.Proofs.YtmjkhbjfacfmcaaDoor.NV
end
section
namespace Go.Proofs.YtmjkhbjfacfmcaaDoor.RV
open Go Go.RowKit Go.Proofs.YtmjkhbjfacfmcaaDoor.PA Go.Proofs.YtmjkhbjfacfmcaaDoor.NM Go.Proofs.YtmjkhbjfacfmcaaDoorW.PrintWords Go.Proofs.YtmjkhbjfacfmcaaDoorW.PrintLast
theorem asc (a b : Int) : a + b - a = b := by omega
theorem strip6 {l : List Int} (h : Dig 1000000 l) : strip l = dg 1000000 (vl 1000000 l).toNat := strip_dg (B := 1000000) (by omega) h
theorem vl6 (n : Nat) : vl 1000000 (dg 1000000 n) = (n : Int) := vl_dg (B := 1000000) (by omega) n
theorem dig6 (n : Nat) : Dig 1000000 (dg 1000000 n) := dig_dg (B := 1000000) (by omega) n
theorem without_loop : ∀ (n : Nat) (l : List Int), l.length = n → n ≤ 1000000000000 → Ev (fun k => waypointref01_without.l0 k l) (strip l) := by
  intro n
  induction n with
  | zero =>
    intro l hl _
    have := List.length_eq_zero_iff.1 hl
    subst this
    refine Ev.step (f := fun _ => some []) (fun k => ?_) (Ev.now _)
    rw [waypointref01_without.l0, if_neg (by simp), Option.bind_some, if_pos (by simp)]
    rfl
  | succ n ih =>
    intro l hl hn
    have hw : wrap64 ((l.length : Int) - 1) = (n : Int) := by rw [wsub1 l.length (by omega) (by omega)]; omega
    have hs := strip_take_succ l n (by omega)
    rw [List.take_of_length_le (by omega)] at hs
    by_cases h0 : rd l (n : Int) = 0
    · rw [hs, if_pos h0]
      refine Ev.step (f := fun k => waypointref01_without.l0 k (l.take n)) (fun k => ?_) (ih (l.take n) (by rw [List.length_take]; omega) (by omega))
      rw [waypointref01_without.l0, hw]
      clear hw
      rw [if_pos (by omega), if_pos (by omega), if_pos (by omega), if_pos h0, if_pos (by omega), Int.toNat_natCast]
    · rw [hs, if_neg h0]
      refine Ev.step (f := fun _ => some l) (fun k => ?_) (Ev.now _)
      rw [waypointref01_without.l0, hw]
      clear hw
      rw [if_pos (by omega), if_pos (by omega), if_pos (by omega), if_neg h0, Option.bind_some, if_pos (by rw [List.length_nil]; omega), List.nil_append]
theorem without_ev {l : List Int} (hl : l.length ≤ 1000000000000) (hd : Dig 1000000 l) : Ev (fun k => waypointref01_without.f k l) (dg 1000000 (vl 1000000 l).toNat) := by
  rw [← strip6 hd]
  exact without_loop _ l rfl hl
theorem without_nat {l : List Int} {n : Nat} (hl : l.length ≤ 1000000000000) (hd : Dig 1000000 l) (hn : vl 1000000 l = n) : Ev (fun k => waypointref01_without.f k l) (dg 1000000 n) := by
  have h := without_ev hl hd
  rw [hn, Int.toNat_natCast] at h
  exact h
def Big (l : List Int) : Prop := ∀ x ∈ l, 0 ≤ x ∧ x ≤ 9000000000000000000
theorem Big.rd {l : List Int} (h : Big l) (i : Nat) : 0 ≤ rd l (i : Int) ∧ rd l (i : Int) ≤ 9000000000000000000 := by
  rcases Nat.lt_or_ge i l.length with h1 | h1
  · rw [rd_nat _ _ h1]; exact h _ (List.getElem_mem h1)
  · rw [rd_out _ _ h1]; omega
theorem alg_carry {P s q x : Int} (e : s = x + 1000000 * q) : P * x + P * 1000000 * q = P * s := by
  subst e
  grind
theorem vl_snoc (B : Int) (l : List Int) (x : Int) : vl B (l ++ [x]) = vl B l + B ^ l.length * x := by rw [vl_append]; simp [vl]
theorem carried_end (l : List Int) : ∀ (m : Nat) (o : List Int) (c : Int), 0 ≤ c → c ≤ 5000000000000000 → c.toNat = m → l.length ≤ o.length → Dig 1000000 o → (o.length : Int) + (dg 1000000 c.toNat).length ≤ 1000000000000 →
    Ev (fun k => waypointref01_carried.l0 k l o c (o.length : Int)) (dg 1000000 (vl 1000000 o + 1000000 ^ o.length * c).toNat) := by
  intro m
  induction m using Nat.strongRecOn with
  | _ m ih =>
    intro o c c0 c1 cm hlo hd hb
    by_cases h0 : c = 0
    · subst h0
      have h := without_ev (by omega) hd
      rw [Int.mul_zero, Int.add_zero]
      refine Ev.step (f := fun k => waypointref01_carried.j1 k l o 0 (o.length : Int) false) (fun k => ?_) (Ev.step (f := fun k => (waypointref01_without.f k o).bind fun t => some t) (fun k => ?_) (Ev.bind (f := fun _ t => some t) h (Ev.now _)))
      · rw [waypointref01_carried.l0, if_neg (by omega)]
        rfl
      · rw [waypointref01_carried.j1, if_neg (by simp)]
    · have hcn : 0 < c.toNat := by omega
      have hdg : (dg 1000000 c.toNat).length = (dg 1000000 (c.toNat / 1000000)).length + 1 := by rw [dg_pos (by omega) hcn, List.length_cons]
      have e1 : c.toNat / 1000000 = (c / 1000000).toNat := by omega
      rw [e1] at hdg
      have hd2 : Dig 1000000 (o ++ [c % 1000000]) := Dig.append hd (Dig.cons (by omega) (by omega) (Dig.nil _))
      have hlen' : (o ++ [c % 1000000]).length = o.length + 1 := by simp
      have h := ih (c / 1000000).toNat (by omega) (o ++ [c % 1000000]) (c / 1000000) (by omega) (by omega) rfl (by omega) hd2 (by omega)
      have hv : vl 1000000 (o ++ [c % 1000000]) + 1000000 ^ (o ++ [c % 1000000]).length * (c / 1000000) = vl 1000000 o + 1000000 ^ o.length * c := by
        rw [hlen', vl_snoc, Int.pow_succ]
        have e : c = c % 1000000 + 1000000 * (c / 1000000) := by omega
        rw [Int.add_assoc, alg_carry e]
      rw [hv, hlen'] at h
      clear hv
      have hw1 : Int.tmod c 1000000 = c % 1000000 := Int.tmod_eq_emod_of_nonneg c0
      have hw2 : wrap64 (Int.tdiv c 1000000) = c / 1000000 := by rw [Int.tdiv_eq_ediv_of_nonneg c0, w64 (by omega) (by omega)]
      have hol : o.length < 1000000000000 := by omega
      refine Ev.step (f := fun k => waypointref01_carried.j1 k l o c (o.length : Int) true) (fun k => ?_) (Ev.step (fun k => ?_) h)
      · rw [waypointref01_carried.l0, if_neg (by clear hw2; omega), show decide (c > 0) = true from decide_eq_true (by clear hw2; omega)]
      · rw [waypointref01_carried.j1, if_pos rfl, if_neg (by clear hw2; omega), hw1, hw2, if_pos (by omega), wsucc o.length (by omega)]
theorem dg6_len {c : Int} (c1 : c ≤ 5000000000000000) : (dg 1000000 c.toNat).length ≤ 3 := dg_length (by omega) (by omega)
theorem carried_loop (l : List Int) (hl : Big l) (hn : l.length ≤ 100000000000) : ∀ (m : Nat) (o : List Int) (c : Int), m + o.length = l.length → 0 ≤ c → c ≤ 10000000000000 → Dig 1000000 o → Hold (vl 1000000 o + 1000000 ^ o.length * c = vl 1000000 (l.take o.length)) →
    Ev (fun k => waypointref01_carried.l0 k l o c (o.length : Int)) (dg 1000000 (vl 1000000 l).toNat) := by
  intro m
  induction m with
  | zero =>
    intro o c hi c0 c1 hd hv
    unfold Hold at hv
    have h := carried_end l _ o c c0 (by clear hv; omega) rfl (by clear hv; omega) hd (by have := dg6_len (c := c) (by clear hv; omega); clear hv; omega)
    rw [hv, vl_take_all _ _ _ (by clear hv; omega)] at h
    exact h
  | succ m ih =>
    intro o c hi c0 c1 hd hv
    have hx := hl.rd o.length
    obtain ⟨s, hs⟩ : ∃ s, c + rd l (o.length : Int) = s := ⟨_, rfl⟩
    have s0 : 0 ≤ s := by omega
    have s1 : s ≤ 9000010000000000000 := by omega
    have hlen' : (o ++ [s % 1000000]).length = o.length + 1 := by simp
    have h := ih (o ++ [s % 1000000]) (s / 1000000) (by omega) (by omega) (by omega) (Dig.append hd (Dig.cons (by omega) (by omega) (Dig.nil _))) (by
      unfold Hold at hv ⊢
      rw [hlen', vl_snoc, Int.pow_succ, vl_take_succ, ← hv, Int.add_assoc, alg_carry (s := s) (by clear hv; omega), ← hs, Int.mul_add, Int.add_assoc])
    rw [hlen'] at h
    refine Ev.step (f := fun k => waypointref01_carried.j1 k l o c (o.length : Int) true) (fun k => ?_) (Ev.step (fun k => ?_) h)
    · rw [waypointref01_carried.l0, if_pos (by omega)]
    · have hw0 : wrap64 (c + rd l (o.length : Int)) = s := by rw [hs, w64 (by omega) (by omega)]
      have hw1 : Int.tmod s 1000000 = s % 1000000 := Int.tmod_eq_emod_of_nonneg s0
      have hw2 : wrap64 (Int.tdiv s 1000000) = s / 1000000 := by clear hw0; rw [Int.tdiv_eq_ediv_of_nonneg s0, w64 (by omega) (by omega)]
      rw [waypointref01_carried.j1, hw0, hw1, hw2]
      clear hw0 hw1 hw2
      rw [if_pos rfl, if_pos (by omega), if_pos (by omega), if_pos (by omega), wsucc o.length (by omega)]
theorem carried_ev {l : List Int} (hl : Big l) (hn : l.length ≤ 100000000000) : Ev (fun k => waypointref01_carried.f k l) (dg 1000000 (vl 1000000 l).toNat) :=
  carried_loop l hl hn l.length [] 0 (by simp) (by omega) (by omega) (Dig.nil _) (by unfold Hold; simp [vl])
theorem times_loop (l : List Int) (x : Int) (hl : Dig 1000000 l) (hn : l.length ≤ 100000000000) (x0 : 0 ≤ x) (x1 : x ≤ 9000000000000) : ∀ (m : Nat) (o : List Int), m + o.length = l.length → Big o → Hold (vl 1000000 o = vl 1000000 (l.take o.length) * x) →
    Ev (fun k => waypointref01_times.l0 k l x o (o.length : Int)) (dg 1000000 (vl 1000000 l * x).toNat) := by
  intro m
  induction m with
  | zero =>
    intro o hi hb hv
    unfold Hold at hv
    rw [vl_take_all _ _ _ (by omega)] at hv
    have h := carried_ev hb (by omega)
    rw [hv] at h
    refine Ev.step (f := fun k => (waypointref01_carried.f k o).bind fun t => some t) (fun k => ?_) (Ev.bind (f := fun _ t => some t) h (Ev.now _))
    rw [waypointref01_times.l0, if_neg (by omega)]
  | succ m ih =>
    intro o hi hb hv
    have hx := hl.rd (by omega) o.length
    have p0 : 0 ≤ rd l (o.length : Int) * x := Int.mul_nonneg hx.1 x0
    have p1 : rd l (o.length : Int) * x ≤ 999999 * 9000000000000 := Int.mul_le_mul (by omega) x1 x0 (by omega)
    have hlen' : (o ++ [rd l (o.length : Int) * x]).length = o.length + 1 := by simp
    have h := ih (o ++ [rd l (o.length : Int) * x]) (by omega) (fun y hy => by
        rcases List.mem_append.1 hy with hy | hy
        · exact hb y hy
        · rw [List.mem_singleton.1 hy]; exact ⟨p0, by omega⟩) (by
      unfold Hold at hv ⊢
      rw [hlen', vl_snoc, vl_take_succ, hv, Int.add_mul, Int.mul_assoc])
    rw [hlen'] at h
    refine Ev.step (fun k => ?_) h
    rw [waypointref01_times.l0, if_pos (by omega), if_pos (by omega), if_pos (by omega), w64 (by omega) (by omega), wsucc o.length (by omega)]
theorem times_nat (a : Nat) (x : Nat) (hn : (dg 1000000 a).length ≤ 100000000000) (x1 : x ≤ 9000000000000) : Ev (fun k => waypointref01_times.f k (dg 1000000 a) (x : Int)) (dg 1000000 (a * x)) := by
  have h := times_loop (dg 1000000 a) x (dig6 a) hn (by omega) (by omega) (dg 1000000 a).length [] (by simp) (by intro y hy; cases hy) (by unfold Hold; simp [vl])
  rw [vl6, ← Int.natCast_mul, Int.toNat_natCast] at h
  exact h
theorem Of_loop (N : Nat) : ∀ (n : Nat) (o : List Int), n < 18446744073709551616 → Dig 1000000 o → o.length + (dg 1000000 n).length ≤ 100 → Hold (vl 1000000 o + 1000000 ^ o.length * n = N) → Ev (fun k => waypointref01_Of.l0 k (n : Int) o) (dg 1000000 N) := by
  intro n
  induction n using Nat.strongRecOn with
  | _ n ih =>
    intro o hn hd hlen hv
    rcases Nat.eq_zero_or_pos n with h0 | h0
    · subst h0
      unfold Hold at hv
      have h := without_nat (n := N) (by omega) hd (by rw [← hv]; simp)
      refine Ev.step (f := fun k => (waypointref01_without.f k o).bind fun t => some t) (fun k => ?_) (Ev.bind (f := fun _ t => some t) h (Ev.now _))
      rw [waypointref01_Of.l0, if_neg (by simp)]
    · have hdg : (dg 1000000 n).length = (dg 1000000 (n / 1000000)).length + 1 := by rw [dg_pos (by omega) h0, List.length_cons]
      have hlen' : (o ++ [((n % 1000000 : Nat) : Int)]).length = o.length + 1 := by simp
      have h := ih (n / 1000000) (by omega) (o ++ [((n % 1000000 : Nat) : Int)]) (by omega) (Dig.append hd (Dig.cons (by omega) (by omega) (Dig.nil _))) (by omega) (by
        unfold Hold at hv ⊢
        rw [hlen', vl_snoc, Int.pow_succ, Int.add_assoc, alg_carry (s := (n : Int)) (by clear hv; omega), hv])
      refine Ev.step (fun k => ?_) h
      have e1 : Int.tdiv (n : Int) 1000000 = ((n / 1000000 : Nat) : Int) := by rw [Int.tdiv_eq_ediv_of_nonneg (by omega)]; omega
      have e2 : Int.tmod (n : Int) 1000000 = ((n % 1000000 : Nat) : Int) := by rw [Int.tmod_eq_emod_of_nonneg (by omega)]; omega
      rw [waypointref01_Of.l0, if_pos (by omega), if_pos (by omega), e1, e2, wu64 (by omega) (by omega), w64 (by omega) (by omega)]
theorem Of_nat (n : Nat) (h : n < 18446744073709551616) : Ev (fun k => waypointref01_Of.f k (n : Int)) (dg 1000000 n) := by
  have hl : (dg 1000000 n).length ≤ 4 := dg_length (by omega) (by omega)
  exact Of_loop n n [] h (Dig.nil _) (by simp; omega) (by unfold Hold; simp [vl])
theorem Add_l1 (r : List Int) (V : Int) (hr : Dig 1000000 r) : ∀ (m i : Nat) (o : List Int), m + i = r.length → r.length ≤ o.length → o.length ≤ 100000000000 → (∀ p : Nat, 0 ≤ rd o (p : Int) ∧ rd o (p : Int) ≤ 2000000) → (∀ p : Nat, i ≤ p → rd o (p : Int) ≤ 1000000) → Hold (vl 1000000 o = V + vl 1000000 (r.take i)) →
    Ev (fun k => waypointref01_Add.l1 k r o (i : Int)) (dg 1000000 (V + vl 1000000 r).toNat) := by
  intro m
  induction m with
  | zero =>
    intro i o hi hro ho hb _ hv
    unfold Hold at hv
    rw [vl_take_all _ _ _ (by omega)] at hv
    have hB : Big o := fun x hx => by
      obtain ⟨p, hp, rfl⟩ := List.getElem_of_mem hx
      have := hb p
      rw [rd_nat _ _ hp] at this
      omega
    have h := carried_ev hB ho
    rw [hv] at h
    refine Ev.step (f := fun k => (waypointref01_carried.f k o).bind fun t => some t) (fun k => ?_) (Ev.bind (f := fun _ t => some t) h (Ev.now _))
    rw [waypointref01_Add.l1, if_neg (by omega)]
  | succ m ih =>
    intro i o hi hro ho hb hb2 hv
    have hx := hr.rd (by omega) i
    have hy := hb i
    have hz := hb2 i (Nat.le_refl _)
    have h := ih (i + 1) (o.set i (rd o (i : Int) + rd r (i : Int))) (by omega) (by simpa using hro) (by simpa using ho) (fun p => by
        by_cases hp : i = p
        · subst hp; rw [rd_set_eq _ _ _ (by omega)]; omega
        · rw [rd_set_ne _ _ _ _ hp]; exact hb p) (fun p hp => by rw [rd_set_ne _ _ _ _ (by omega)]; exact hb2 p (by omega)) (by
      unfold Hold at hv ⊢
      rw [vl_set _ _ _ _ (by omega), vl_take_succ, hv, asc, Int.add_assoc])
    refine Ev.step (fun k => ?_) h
    rw [waypointref01_Add.l1, if_pos (by omega), if_pos (by omega), if_pos (by omega), w64 (by omega) (by omega), wsucc i (by omega), Int.toNat_natCast]
theorem Add_l0 (l r : List Int) (hl : Dig 1000000 l) (hr : Dig 1000000 r) : ∀ (m i : Nat) (o : List Int), m + i = l.length → l.length ≤ o.length → r.length ≤ o.length → o.length ≤ 100000000000 → (∀ p : Nat, 0 ≤ rd o (p : Int) ∧ rd o (p : Int) ≤ 1000000) → (∀ p : Nat, i ≤ p → rd o (p : Int) = 0) → Hold (vl 1000000 o = vl 1000000 (l.take i)) →
    Ev (fun k => waypointref01_Add.l0 k l r o (i : Int)) (dg 1000000 (vl 1000000 l + vl 1000000 r).toNat) := by
  intro m
  induction m with
  | zero =>
    intro i o hi hlo hro ho hb hb2 hv
    unfold Hold at hv
    rw [vl_take_all _ _ _ (by omega)] at hv
    have h := Add_l1 r (vl 1000000 l) hr r.length 0 o (by omega) hro ho (fun p => ⟨(hb p).1, by have := (hb p).2; omega⟩) (fun p _ => (hb p).2) (by unfold Hold; rw [hv]; simp [vl])
    refine Ev.step (fun k => ?_) h
    rw [waypointref01_Add.l0, if_neg (by omega)]
    rfl
  | succ m ih =>
    intro i o hi hlo hro ho hb hb2 hv
    have hx := hl.rd (by omega) i
    have hz := hb2 i (Nat.le_refl _)
    have h := ih (i + 1) (o.set i (rd o (i : Int) + rd l (i : Int))) (by omega) (by simpa using hlo) (by simpa using hro) (by simpa using ho) (fun p => by
        by_cases hp : i = p
        · subst hp; rw [rd_set_eq _ _ _ (by omega)]; omega
        · rw [rd_set_ne _ _ _ _ hp]; exact hb p) (fun p hp => by rw [rd_set_ne _ _ _ _ (by omega)]; exact hb2 p (by omega)) (by
      unfold Hold at hv ⊢
      rw [vl_set _ _ _ _ (by omega), vl_take_succ, hv, asc])
    refine Ev.step (fun k => ?_) h
    rw [waypointref01_Add.l0, if_pos (by omega), if_pos (by omega), if_pos (by omega), w64 (by omega) (by omega), wsucc i (by omega), Int.toNat_natCast]
theorem Add_nat (a b : Nat) (ha : (dg 1000000 a).length ≤ 100000000000) (hb : (dg 1000000 b).length ≤ 100000000000) : Ev (fun k => waypointref01_Add.f k (dg 1000000 a) (dg 1000000 b)) (dg 1000000 (a + b)) := by
  obtain ⟨n, hn, h1, h2, h3⟩ : ∃ n : Nat, mx ((dg 1000000 a).length : Int) ((dg 1000000 b).length : Int) = (n : Int) ∧ (dg 1000000 a).length ≤ n ∧ (dg 1000000 b).length ≤ n ∧ n ≤ 100000000000 := by
    refine ⟨max (dg 1000000 a).length (dg 1000000 b).length, ?_, by omega, by omega, by omega⟩
    unfold mx
    split <;> omega
  have h := Add_l0 (dg 1000000 a) (dg 1000000 b) (dig6 a) (dig6 b) (dg 1000000 a).length 0 (List.replicate n 0) (by omega) (by simpa using h1) (by simpa using h2) (by simpa using h3) (fun p => by rw [rd_rep]; omega) (fun p _ => rd_rep _ _) (by unfold Hold; rw [vl_rep]; simp [vl])
  rw [vl6, vl6, ← Int.natCast_add, Int.toNat_natCast] at h
  refine Ev.congr (fun k => ?_) h
  unfold waypointref01_Add.f
  rw [hn, if_pos (by omega), if_pos (by omega), Int.toNat_natCast]
  rfl
theorem Make_loop (l : List Int) (hl : Dig 4294967296 l) (hn : l.length ≤ 1000000) : ∀ (m i a : Nat), m + i = l.length → (a : Int) = vl 4294967296 (l.drop m) → Hold (a < 1000000 ^ (2 * i)) →
    Ev (fun k => waypointref01_Make.l0 k l (dg 1000000 a) (i : Int)) (dg 1000000 (vl 4294967296 l).toNat) := by
  intro m
  induction m with
  | zero =>
    intro i a hi ha _
    rw [List.drop_zero] at ha
    rw [← ha, Int.toNat_natCast]
    refine Ev.step (f := fun _ => some (dg 1000000 a)) (fun k => ?_) (Ev.now _)
    rw [waypointref01_Make.l0, if_neg (by omega)]
  | succ m ih =>
    intro i a hi ha hb
    have hx := hl.rd (by omega) m
    obtain ⟨x, hxx⟩ : ∃ x : Nat, rd l (m : Int) = (x : Int) := ⟨(rd l (m : Int)).toNat, by omega⟩
    have hal : (dg 1000000 a).length ≤ 2 * i := dg_length (by omega) hb
    have ha2 : a * 4294967296 + x < 1000000 ^ (2 * (i + 1)) := by
      unfold Hold at hb
      rw [show 2 * (i + 1) = 2 * i + 1 + 1 from by omega, Nat.pow_succ, Nat.pow_succ]
      generalize 1000000 ^ (2 * i) = P at hb ⊢
      omega
    have hml : (dg 1000000 (a * 4294967296)).length ≤ 2 * (i + 1) := dg_length (by omega) (Nat.lt_of_le_of_lt (Nat.le_add_right _ _) ha2)
    have hxl : (dg 1000000 x).length ≤ 2 := dg_length (by omega) (by omega)
    have e1 := times_nat a 4294967296 (by omega) (by omega)
    have e2 := Of_nat x (by omega)
    have e3 := Add_nat (a * 4294967296) x (by omega) (by omega)
    have e4 := ih (i + 1) (a * 4294967296 + x) (by omega) (by
      rw [vl_drop _ _ _ (by omega), ← ha, ← rd_nat l m (by omega), hxx]; omega) ha2
    obtain ⟨K1, e1⟩ := e1
    obtain ⟨K2, e2⟩ := e2
    obtain ⟨K3, e3⟩ := e3
    obtain ⟨K4, e4⟩ := e4
    clear ha2 hb
    refine ⟨K1 + K2 + K3 + K4 + 1, fun k hk => ?_⟩
    obtain ⟨q, rfl⟩ : ∃ q, k = q + 1 := ⟨k - 1, by omega⟩
    have e1 := e1 q (by omega)
    have e2 := e2 q (by omega)
    have e3 := e3 q (by omega)
    have e4 := e4 q (by omega)
    dsimp only at e1 e2 e3 e4
    have hw : wrap64 (wrap64 ((l.length : Int) - 1) - (i : Int)) = (m : Int) := by
      rw [wsub1 l.length (by omega) (by omega), wsub _ _ (by omega) (by omega)]; omega
    show waypointref01_Make.l0 (q + 1) l (dg 1000000 a) (i : Int) = _
    rw [waypointref01_Make.l0, hw, hxx]
    clear hw
    rw [if_pos (by omega), show (4294967296 : Int) = ((4294967296 : Nat) : Int) from rfl, e1, Option.bind_some, if_pos (by omega), if_pos (by omega), wu64 (by omega) (by omega), e2, Option.bind_some, e3, Option.bind_some, wsucc i (by omega)]
    exact e4
def num (l : List Int) : Nat := (vl 4294967296 l).toNat
theorem Make_ev {l : List Int} (hl : Dig 4294967296 l) (hn : l.length ≤ 1000000) : Ev (fun k => waypointref01_Make.f k l) (dg 1000000 (num l)) := by
  have h := Make_loop l hl hn l.length 0 0 (by omega) (by rw [List.drop_length]; rfl) (by unfold Hold; simp)
  rw [dg_zero] at h
  exact h
theorem num_lt {l : List Int} (hl : Dig 4294967296 l) : num l < 4294967296 ^ l.length := by
  have h := vl_lt (by omega) hl
  have h0 := vl_nonneg (by omega) hl
  have e : ((4294967296 : Int) ^ l.length) = ((4294967296 ^ l.length : Nat) : Int) := pow_cast 4294967296 _
  unfold num
  rw [e] at h
  omega
end Go.Proofs.YtmjkhbjfacfmcaaDoor.RV
end
section
namespace Go.Proofs.YtmjkhbjfacfmcaaDoor.RV
open Go Go.RowKit Go.Proofs.YtmjkhbjfacfmcaaDoor.PA Go.Proofs.YtmjkhbjfacfmcaaDoor.NM Go.Proofs.YtmjkhbjfacfmcaaDoor.NT Go.Proofs.YtmjkhbjfacfmcaaDoorW.PrintWords Go.Proofs.YtmjkhbjfacfmcaaDoorW.PrintLast
def sh (f : Nat → Int) : Nat → Int
  | 0 => 0
  | k + 1 => f k
def cv : List Int → List Int → Nat → Int
  | [], _ => fun _ => 0
  | x :: a, b => fun k => x * rd b (k : Int) + sh (cv a b) k
theorem cv_nil (b : List Int) (k : Nat) : cv [] b k = 0 := rfl
theorem cv_cons (x : Int) (a b : List Int) (k : Nat) : cv (x :: a) b k = x * rd b (k : Int) + sh (cv a b) k := rfl
theorem sh_zero (f : Nat → Int) : sh f 0 = 0 := rfl
theorem sh_succ (f : Nat → Int) (k : Nat) : sh f (k + 1) = f k := rfl
def vf (B : Int) : Nat → (Nat → Int) → Int
  | 0, _ => 0
  | n + 1, f => f 0 + B * vf B n (fun k => f (k + 1))
theorem vf_congr {B : Int} : ∀ {n : Nat} {f g : Nat → Int}, (∀ k, k < n → f k = g k) → vf B n f = vf B n g
  | 0, _, _, _ => rfl
  | n + 1, f, g, h => by
    rw [vf, vf, h 0 (by omega), vf_congr (n := n) (fun k hk => h (k + 1) (by omega))]
theorem vf_zero {B : Int} : ∀ (n : Nat), vf B n (fun _ => 0) = 0
  | 0 => rfl
  | n + 1 => by rw [vf, vf_zero n]; omega
theorem vf_add {B : Int} : ∀ (n : Nat) (f g : Nat → Int), vf B n (fun k => f k + g k) = vf B n f + vf B n g
  | 0, _, _ => rfl
  | n + 1, f, g => by rw [vf, vf, vf, vf_add n]; grind
theorem vf_mul {B : Int} (x : Int) : ∀ (n : Nat) (f : Nat → Int), vf B n (fun k => x * f k) = x * vf B n f
  | 0, _ => by rw [vf, vf]; omega
  | n + 1, f => by rw [vf, vf, vf_mul x n]; grind
theorem rd_cons_succ (x : Int) (l : List Int) (k : Nat) : rd (x :: l) ((k + 1 : Nat) : Int) = rd l (k : Int) := by
  unfold rd; rw [Int.toNat_natCast, Int.toNat_natCast, List.getD_cons_succ]
theorem rd_cons_zero (x : Int) (l : List Int) : rd (x :: l) ((0 : Nat) : Int) = x := rfl
theorem vf_list {B : Int} : ∀ (l : List Int) (n : Nat), l.length ≤ n → vf B n (fun k => rd l (k : Int)) = vl B l
  | [], n, _ => by
    rw [vf_congr (g := fun _ => 0) (fun k _ => rd_out [] k (by simp)), vf_zero]; rfl
  | x :: l, 0, h => by simp at h
  | x :: l, n + 1, h => by
    rw [vf, vl, rd_cons_zero, vf_congr (g := fun k => rd l (k : Int)) (fun k _ => rd_cons_succ x l k), vf_list l n (by simpa using h)]
theorem vf_cv {B : Int} (b : List Int) : ∀ (a : List Int), vf B (a.length + b.length) (cv a b) = vl B a * vl B b
  | [] => by
    rw [vf_congr (f := cv [] b) (g := fun _ => 0) (fun k _ => rfl), vf_zero, vl]; omega
  | x :: a => by
    rw [List.length_cons, Nat.add_right_comm, vf_congr (f := cv (x :: a) b) (g := fun k => x * rd b (k : Int) + sh (cv a b) k) (fun k _ => rfl), vf_add, vf_mul, vf_list b _ (by omega)]
    have h : vf B (a.length + b.length + 1) (sh (cv a b)) = B * (vl B a * vl B b) := by
      rw [vf, ← vf_cv b a, sh_zero, Int.zero_add]; rfl
    rw [h, vl]; grind
theorem cv_take (b : List Int) : ∀ (a : List Int) (i k : Nat), i < a.length → cv (a.take (i + 1)) b k = cv (a.take i) b k + (if i ≤ k then rd a (i : Int) * rd b ((k - i : Nat) : Int) else 0)
  | [], i, k, h => by simp at h
  | x :: a, 0, k, _ => by
    rw [List.take_succ_cons, List.take_zero, List.take_zero, cv_cons, cv_nil, if_pos (Nat.zero_le _), rd_cons_zero, Nat.sub_zero]
    cases k with
    | zero => rw [sh_zero]; omega
    | succ k => rw [sh_succ, cv_nil]; omega
  | x :: a, i + 1, k, h => by
    rw [List.take_succ_cons, List.take_succ_cons, cv_cons, cv_cons, rd_cons_succ]
    cases k with
    | zero => rw [sh_zero, sh_zero, if_neg (by omega)]; omega
    | succ k =>
      rw [sh_succ, sh_succ, cv_take b a i k (by simpa using h), Nat.add_sub_add_right]
      by_cases hik : i ≤ k
      · rw [if_pos hik, if_pos (by omega)]; omega
      · rw [if_neg hik, if_neg (by omega)]; omega
theorem cv_past (b : List Int) (a : List Int) (k : Nat) : ∀ (m i : Nat), m + i = a.length → k < i → cv (a.take i) b k = cv a b k := by
  intro m
  induction m with
  | zero => intro i hi _; rw [List.take_of_length_le (by omega)]
  | succ m ih =>
    intro i hi hk
    rw [← ih (i + 1) (by omega) (by omega), cv_take b a i k (by omega), if_neg (by omega)]; omega
theorem cv_bound {a b : List Int} (ha : Dig 1000000 a) (hb : Dig 1000000 b) (k : Nat) : ∀ i, i ≤ a.length → 0 ≤ cv (a.take i) b k ∧ cv (a.take i) b k ≤ i * 1000000000000 := by
  intro i
  induction i with
  | zero => intro _; rw [List.take_zero, cv_nil]; omega
  | succ i ih =>
    intro hi
    have h := ih (by omega)
    rw [cv_take b a i k (by omega)]
    have h1 := ha.rd (by omega) i
    have h2 := hb.rd (by omega) (k - i)
    have p0 : 0 ≤ rd a (i : Int) * rd b ((k - i : Nat) : Int) := Int.mul_nonneg h1.1 h2.1
    have p1 : rd a (i : Int) * rd b ((k - i : Nat) : Int) ≤ 999999 * 999999 := Int.mul_le_mul (by omega) (by omega) h2.1 (by omega)
    split <;> omega
theorem Mul_l1 (a b : List Int) (ha : Dig 1000000 a) (hb : Dig 1000000 b) (hla : a.length ≤ 9000000) (hlb : b.length ≤ 1000000000) (k : Nat) (R : List Int)
    (K : ∀ o : List Int, o.length = a.length + b.length → (∀ p : Nat, p < k + 1 → rd o (p : Int) = cv a b p) → (∀ p : Nat, k + 1 ≤ p → rd o (p : Int) = 0) → Ev (fun f => waypointref01_Mul.l0 f a b o ((k + 1 : Nat) : Int)) R) :
    ∀ (m i : Nat) (o : List Int), m + i = a.length → i ≤ k + 1 → k < o.length → o.length = a.length + b.length → (∀ p : Nat, p < k → rd o (p : Int) = cv a b p) → rd o (k : Int) = cv (a.take i) b k → (∀ p : Nat, k + 1 ≤ p → rd o (p : Int) = 0) →
    Ev (fun f => waypointref01_Mul.l1 f a b o (k : Int) (i : Int)) R := by
  intro m
  induction m with
  | zero =>
    intro i o hi hik hk ho h1 h2 h3
    have hK := K o ho (fun p hp => by
      by_cases hpk : p = k
      · subst hpk; rw [h2, List.take_of_length_le (by omega)]
      · exact h1 p (by omega)) h3
    refine Ev.step (f := fun f => waypointref01_Mul.j2 f a b o (k : Int) (i : Int) false) (fun f => ?_) (Ev.step (fun f => ?_) hK)
    · rw [waypointref01_Mul.l1]
      split
      · rw [show decide ((i : Int) < (a.length : Int)) = false from decide_eq_false (by omega)]
      · rfl
    · rw [waypointref01_Mul.j2, if_neg (by simp), wsucc k (by omega)]
  | succ m ih =>
    intro i o hi hik hk ho h1 h2 h3
    by_cases hle : i ≤ k
    · have hct := cv_take b a i k (by omega)
      rw [if_pos hle] at hct
      have hwk : wrap64 ((k : Int) - (i : Int)) = ((k - i : Nat) : Int) := wsub _ _ (by omega) hle
      by_cases hb2 : k - i < b.length
      · have hbd := cv_bound ha hb k i (by omega)
        have hbd2 := cv_bound ha hb k (i + 1) (by omega)
        have q1 := ha.rd (by omega) i
        have q2 := hb.rd (by omega) (k - i)
        have p0 : 0 ≤ rd a (i : Int) * rd b ((k - i : Nat) : Int) := Int.mul_nonneg q1.1 q2.1
        have p1 : rd a (i : Int) * rd b ((k - i : Nat) : Int) ≤ 999999 * 999999 := Int.mul_le_mul (by omega) (by omega) q2.1 (by omega)
        have h := ih (i + 1) (o.set k (cv (a.take (i + 1)) b k)) (by omega) (by omega) (by simpa using hk) (by simpa using ho) (fun p hp => by rw [rd_set_ne _ _ _ _ (by omega)]; exact h1 p hp) (by rw [rd_set_eq _ _ _ hk]) (fun p hp => by rw [rd_set_ne _ _ _ _ (by omega)]; exact h3 p hp)
        refine Ev.step (f := fun f => waypointref01_Mul.j2 f a b o (k : Int) (i : Int) true) (fun f => ?_) (Ev.step (fun f => ?_) h)
        · rw [waypointref01_Mul.l1, if_pos (by clear hwk; omega), show decide ((i : Int) < (a.length : Int)) = true from decide_eq_true (by clear hwk; omega)]
        · rw [waypointref01_Mul.j2, hwk]
          clear hwk
          rw [w64 (x := rd a (i : Int) * rd b ((k - i : Nat) : Int)) (by omega) (by omega), h2, ← hct, w64 (x := cv (a.take (i + 1)) b k) (by omega) (by omega)]
          clear hct
          rw [if_pos rfl, if_pos (by omega), if_pos (by omega), if_pos (by omega), if_pos (by omega), if_pos (by omega), if_pos (by omega), wsucc i (by omega), Int.toNat_natCast]
      · have hz : rd b ((k - i : Nat) : Int) = 0 := rd_out _ _ (by omega)
        rw [hz, Int.mul_zero, Int.add_zero] at hct
        have h := ih (i + 1) o (by omega) (by omega) hk ho h1 (by rw [hct]; exact h2) h3
        refine Ev.step (f := fun f => waypointref01_Mul.j2 f a b o (k : Int) (i : Int) true) (fun f => ?_) (Ev.step (fun f => ?_) h)
        · rw [waypointref01_Mul.l1, if_pos (by clear hwk; omega), show decide ((i : Int) < (a.length : Int)) = true from decide_eq_true (by clear hwk; omega)]
        · rw [waypointref01_Mul.j2, hwk]
          clear hwk
          rw [if_pos rfl, if_neg (by omega), wsucc i (by omega)]
    · have hik' : i = k + 1 := by omega
      have hK := K o ho (fun p hp => by
        by_cases hpk : p = k
        · subst hpk; rw [h2]; exact cv_past b a p (m + 1) i hi (by omega)
        · exact h1 p (by omega)) h3
      refine Ev.step (f := fun f => waypointref01_Mul.j2 f a b o (k : Int) (i : Int) false) (fun f => ?_) (Ev.step (fun f => ?_) hK)
      · rw [waypointref01_Mul.l1, if_neg (by omega)]
      · rw [waypointref01_Mul.j2, if_neg (by simp), wsucc k (by omega)]
theorem Mul_l0 (a b : List Int) (ha : Dig 1000000 a) (hb : Dig 1000000 b) (hla : a.length ≤ 9000000) (hlb : b.length ≤ 1000000000) :
    ∀ (m k : Nat) (o : List Int), m + k = a.length + b.length → o.length = a.length + b.length → (∀ p : Nat, p < k → rd o (p : Int) = cv a b p) → (∀ p : Nat, k ≤ p → rd o (p : Int) = 0) →
    Ev (fun f => waypointref01_Mul.l0 f a b o (k : Int)) (dg 1000000 (vl 1000000 a * vl 1000000 b).toNat) := by
  intro m
  induction m with
  | zero =>
    intro k o hk ho h1 h2
    have hv : vl 1000000 o = vl 1000000 a * vl 1000000 b := by
      rw [← vf_list o (a.length + b.length) (by omega), vf_congr (g := cv a b) (fun p hp => h1 p (by omega)), vf_cv]
    have hB : Big o := fun x hx => by
      obtain ⟨p, hp, rfl⟩ := List.getElem_of_mem hx
      have h3 := h1 p (by omega)
      have h4 := cv_bound ha hb p a.length (Nat.le_refl _)
      rw [List.take_of_length_le (Nat.le_refl _)] at h4
      rw [rd_nat _ _ hp] at h3
      omega
    have h := carried_ev hB (by omega)
    rw [hv] at h
    refine Ev.step (f := fun f => (waypointref01_carried.f f o).bind fun t => some t) (fun f => ?_) (Ev.bind (f := fun _ t => some t) h (Ev.now _))
    rw [waypointref01_Mul.l0, if_neg (by omega)]
  | succ m ih =>
    intro k o hk ho h1 h2
    have h := Mul_l1 a b ha hb hla hlb k _ (fun o2 h3 h4 h5 => ih (k + 1) o2 (by omega) h3 h4 h5) a.length 0 o (by omega) (by omega) (by omega) ho h1 (by rw [List.take_zero, cv_nil]; exact h2 k (Nat.le_refl _)) (fun p hp => h2 p (by omega))
    refine Ev.step (fun f => ?_) h
    rw [waypointref01_Mul.l0, if_pos (by omega)]
    rfl
theorem Mul_nat (a b : Nat) (ha : (dg 1000000 a).length ≤ 9000000) (hb : (dg 1000000 b).length ≤ 1000000000) : Ev (fun k => waypointref01_Mul.f k (dg 1000000 a) (dg 1000000 b)) (dg 1000000 (a * b)) := by
  have h := Mul_l0 (dg 1000000 a) (dg 1000000 b) (dig6 a) (dig6 b) ha hb ((dg 1000000 a).length + (dg 1000000 b).length) 0 (List.replicate ((dg 1000000 a).length + (dg 1000000 b).length) 0) (by omega) (by simp) (fun p hp => by omega) (fun p _ => rd_rep _ _)
  rw [vl6, vl6, ← Int.natCast_mul, Int.toNat_natCast] at h
  refine Ev.congr (fun k => ?_) h
  unfold waypointref01_Mul.f
  rw [wadd _ _ (by omega), if_pos (by omega), if_pos (by omega), Int.toNat_natCast]
  rfl
theorem chr_eq (g : Nat) (h : g < 1000000000) : strOfNums [(wrap64 (48 + (Int.tmod (g : Int) 10))) % 256] = ⟨[UInt8.ofNat (48 + g % 10)].toArray⟩ := by
  rw [Int.tmod_eq_emod_of_nonneg (by omega), w64 (by omega) (by omega)]
  have e : (48 + (g : Int) % 10) % 256 = ((48 + g % 10 : Nat) : Int) := by omega
  rw [e]
  rfl
theorem tdiv10 (g : Nat) (h : g < 1000000000) : wrap64 (Int.tdiv (g : Int) 10) = ((g / 10 : Nat) : Int) := by
  rw [Int.tdiv_eq_ediv_of_nonneg (by omega), w64 (by omega) (by omega)]; omega
theorem mk_append' (l r : List UInt8) : (⟨l.toArray⟩ : ByteArray) ++ ⟨r.toArray⟩ = ⟨(l ++ r).toArray⟩ := by
  apply ByteArray.ext
  simp
theorem size_mk' (l : List UInt8) : (⟨l.toArray⟩ : ByteArray).size = l.length := by simp [ByteArray.size]
def padr : Nat → Nat → List UInt8
  | 0, _ => []
  | r + 1, g => padr r (g / 10) ++ [UInt8.ofNat (48 + g % 10)]
theorem padr_eq : ∀ (k g : Nat), g < 10 ^ k → padr k g = List.replicate (k - (dec g).length) 48 ++ dec g
  | 0, g, h => by
    have : g = 0 := by simpa using h
    subst this
    rw [dec_zero]; rfl
  | k + 1, g, h => by
    have hk : g / 10 < 10 ^ k := by rw [Nat.pow_succ] at h; omega
    rw [padr, padr_eq k (g / 10) hk]
    rcases Nat.eq_zero_or_pos g with h0 | h0
    · subst h0
      rw [show 0 / 10 = 0 from rfl, dec_zero]
      simp only [List.length_nil, Nat.sub_zero, List.append_nil]
      rw [List.replicate_succ']
      rfl
    · rw [dec_step g h0, List.length_append, List.length_singleton, Nat.add_sub_add_right, List.append_assoc]
theorem Text_mid (L : List Int) (i : Nat) (hi : i + 1 < L.length) (hL : L.length ≤ 100000000000) (R : ByteArray) : ∀ (r g k : Nat) (s : List UInt8), r + k = 6 → g < 1000000 → s.length ≤ 1000000000000000 + k →
    Ev (fun f => waypointref01_Text.l0 f L ⟨(padr r g ++ s).toArray⟩ ((i + 1 : Nat) : Int)) R → Ev (fun f => waypointref01_Text.l1 f L ⟨s.toArray⟩ (i : Int) (g : Int) (k : Int)) R := by
  intro r
  induction r with
  | zero =>
    intro g k s hk hg hs h
    refine Ev.step (fun f => ?_) h
    rw [waypointref01_Text.l1, if_neg (by omega), wsucc i (by omega)]
    rfl
  | succ r ih =>
    intro g k s hk hg hs h
    rw [padr, List.append_assoc] at h
    have h2 := ih (g / 10) (k + 1) ([UInt8.ofNat (48 + g % 10)] ++ s) (by omega) (by omega) (by rw [List.length_append, List.length_singleton]; omega) h
    refine Ev.step (fun f => ?_) h2
    have hw : wrap64 ((L.length : Int) - 1) = ((L.length - 1 : Nat) : Int) := wsub1 _ (by omega) (by omega)
    rw [waypointref01_Text.l1, hw]
    clear hw
    rw [if_pos (by omega), if_pos (by omega), Option.bind_some, chr_eq g (by omega), size_mk', size_mk', List.length_singleton, if_pos (by omega), mk_append', tdiv10 g (by omega), wsucc k (by omega)]
theorem Text_last (L : List Int) (i : Nat) (hi : i + 1 = L.length) (hL : L.length ≤ 100000000000) : ∀ (r g k : Nat) (s : List UInt8), r + k = 6 → g < 10 ^ r → s.length ≤ 1000000000000000 + k →
    Ev (fun f => waypointref01_Text.l1 f L ⟨s.toArray⟩ (i : Int) (g : Int) (k : Int)) ⟨(dec g ++ s).toArray⟩ := by
  intro r
  induction r with
  | zero =>
    intro g k s hk hg hs
    have : g = 0 := by simpa using hg
    subst this
    refine Ev.step (f := fun f => waypointref01_Text.l0 f L ⟨s.toArray⟩ ((i + 1 : Nat) : Int)) (fun f => ?_) (Ev.step (f := fun _ => some ⟨s.toArray⟩) (fun f => ?_) ?_)
    · rw [waypointref01_Text.l1, if_neg (by omega), wsucc i (by omega)]
    · rw [waypointref01_Text.l0, if_neg (by omega)]
    · rw [dec_zero]; exact Ev.now _
  | succ r ih =>
    intro g k s hk hg hs
    have hw : wrap64 ((L.length : Int) - 1) = (i : Int) := by rw [wsub1 _ (by omega) (by omega)]; omega
    rcases Nat.eq_zero_or_pos g with h0 | h0
    · subst h0
      refine Ev.step (f := fun f => waypointref01_Text.l0 f L ⟨s.toArray⟩ ((i + 1 : Nat) : Int)) (fun f => ?_) (Ev.step (f := fun _ => some ⟨s.toArray⟩) (fun f => ?_) ?_)
      · rw [waypointref01_Text.l1, hw]
        clear hw
        rw [if_pos (by omega), if_neg (by omega), if_neg (by omega), wsucc i (by omega)]
      · clear hw; rw [waypointref01_Text.l0, if_neg (by omega)]
      · rw [dec_zero]; exact Ev.now _
    · have hg6 : g < 1000000 := Nat.lt_of_lt_of_le hg (Nat.pow_le_pow_right (n := 10) (j := 6) (by omega) (by omega))
      have h2 := ih (g / 10) (k + 1) ([UInt8.ofNat (48 + g % 10)] ++ s) (by clear hw; omega) (by clear hw; rw [Nat.pow_succ] at hg; omega) (by clear hw; rw [List.length_append, List.length_singleton]; omega)
      rw [← List.append_assoc, ← dec_step g h0] at h2
      refine Ev.step (fun f => ?_) h2
      rw [waypointref01_Text.l1, hw]
      clear hw hg
      rw [if_pos (by omega), if_neg (by omega), if_pos (by omega), Option.bind_some, chr_eq g (by omega), size_mk', size_mk', List.length_singleton, if_pos (by omega), mk_append', tdiv10 g (by omega), wsucc k (by omega)]
theorem Text_l0 (L : List Int) (hL : L.length ≤ 100000000000) : ∀ (m i : Nat) (s : List UInt8), 0 < m → i < L.length → L.drop i = dg 1000000 m → s.length ≤ 6 * i →
    Ev (fun f => waypointref01_Text.l0 f L ⟨s.toArray⟩ (i : Int)) ⟨(dec m ++ s).toArray⟩ := by
  intro m
  induction m using Nat.strongRecOn with
  | _ m ih =>
    intro i s hm hi hd hs
    rw [List.drop_eq_getElem_cons hi, dg_pos (by omega) hm] at hd
    injection hd with hd1 hd2
    rw [← rd_nat L i hi] at hd1
    have hstep : ∀ f, waypointref01_Text.l0 (f + 1) L ⟨s.toArray⟩ (i : Int) = waypointref01_Text.l1 f L ⟨s.toArray⟩ (i : Int) ((m % 1000000 : Nat) : Int) ((0 : Nat) : Int) := fun f => by
      rw [waypointref01_Text.l0, if_pos (by omega), if_pos (by omega), hd1]; rfl
    have hlen : (L.drop (i + 1)).length = (dg 1000000 (m / 1000000)).length := by rw [hd2]
    rw [List.length_drop] at hlen
    rcases Nat.eq_zero_or_pos (m / 1000000) with h0 | h0
    · have hmm : m % 1000000 = m := by omega
      rw [h0, dg_zero, List.length_nil] at hlen
      have h := Text_last L i (by omega) hL 6 m 0 s (by omega) (by omega) (by omega)
      rw [hmm] at hstep
      exact Ev.step hstep h
    · have hne : 0 < (dg 1000000 (m / 1000000)).length := by rw [dg_pos (by omega) h0]; simp
      have hmod : m % 1000000 < 10 ^ 6 := Nat.mod_lt _ (by omega)
      have hpl : (padr 6 (m % 1000000)).length ≤ 6 := by
        rw [padr_eq 6 _ hmod, List.length_append, List.length_replicate]
        have := dec_le hmod
        omega
      have h := ih (m / 1000000) (by omega) (i + 1) (padr 6 (m % 1000000) ++ s) h0 (by omega) hd2 (by rw [List.length_append]; omega)
      have hsplit : dec m = dec (m / 1000000) ++ padr 6 (m % 1000000) := by
        have e : m = m % 1000000 + 10 ^ 6 * (m / 1000000) := (Nat.mod_add_div m 1000000).symm
        have h2 := dec_split h0 hmod
        rw [← e] at h2
        rw [h2, padr_eq 6 _ hmod]
      rw [← List.append_assoc, ← hsplit] at h
      exact Ev.step hstep (Text_mid L i (by omega) hL _ 6 (m % 1000000) 0 s (by omega) (by omega) (by omega) h)
theorem Text_nat (n : Nat) (hl : (dg 1000000 n).length ≤ 100000000000) : Ev (fun k => waypointref01_Text.f k (dg 1000000 n)) ⟨(txt n).toArray⟩ := by
  rcases Nat.eq_zero_or_pos n with h0 | h0
  · subst h0
    refine Ev.congr (f := fun _ => some ⟨#[48]⟩) (fun k => ?_) ?_
    · unfold waypointref01_Text.f; rw [dg_zero, if_pos (by simp)]
    · rw [txt_zero]; exact Ev.now _
  · have hp : 0 < (dg 1000000 n).length := by rw [dg_pos (by omega) h0]; simp
    have h := Text_l0 (dg 1000000 n) hl n 0 [] h0 hp rfl (by simp)
    rw [txt_pos n h0]
    rw [List.append_nil] at h
    refine Ev.congr (fun k => ?_) h
    unfold waypointref01_Text.f
    rw [if_neg (by omega)]
    rfl
end Go.Proofs.YtmjkhbjfacfmcaaDoor.RV
end
section
namespace Go.Proofs.YtmjkhbjfacfmcaaDoor.NL
open Go Go.RowKit Go.Proofs.YtmjkhbjfacfmcaaDoor Go.Proofs.YtmjkhbjfacfmcaaDoor.PA Go.Proofs.YtmjkhbjfacfmcaaDoor.NM Go.Proofs.YtmjkhbjfacfmcaaDoor.NT Go.Proofs.YtmjkhbjfacfmcaaDoor.NV Go.Proofs.YtmjkhbjfacfmcaaDoorW.PrintWords Go.Proofs.YtmjkhbjfacfmcaaDoorW.PrintLast
theorem pow_grow {a b : Nat} (c k : Nat) (h : a ≤ b ^ c) : a ^ k ≤ b ^ (c * k) := by
  rw [Nat.pow_mul]; exact Nat.pow_le_pow_left h k
def Sz (k n : Nat) : Prop := n < 4294967296 ^ k
theorem Sz.d32 {k n : Nat} (h : Sz k n) : (dg 4294967296 n).length ≤ k := dg_length (by omega) h
theorem Sz.d6 {k n : Nat} (h : Sz k n) : (dg 1000000 n).length ≤ 2 * k := dg_length (by omega) (Nat.lt_of_lt_of_le h (pow_grow 2 k (by omega)))
theorem Sz.d9 {k n : Nat} (h : Sz k n) : (dg 1000000000 n).length ≤ 2 * k := dg_length (by omega) (Nat.lt_of_lt_of_le h (pow_grow 2 k (by omega)))
theorem Sz.dec {k n : Nat} (h : Sz k n) : (dec n).length ≤ 10 * k := dec_le (Nat.lt_of_lt_of_le h (pow_grow 10 k (by omega)))
theorem Sz.txt {k n : Nat} (h : Sz k n) (hk : 1 ≤ k) : (txt n).length ≤ 10 * k := (txt_le (by omega) (Nat.lt_of_lt_of_le h (pow_grow 10 k (by omega)))).2
theorem Sz.mono {k m n : Nat} (h : Sz k n) (hkm : k ≤ m) : Sz m n := Nat.lt_of_lt_of_le h (Nat.pow_le_pow_right (by omega) hkm)
theorem Sz.mul {k m a b : Nat} (h : Sz k a) (g : Sz m b) : Sz (k + m) (a * b) := by
  unfold Sz at *
  rw [Nat.pow_add]
  exact Nat.mul_lt_mul'' h g
theorem Sz.add {k a b : Nat} (h : Sz k a) (g : Sz k b) : Sz (k + 1) (a + b) := by
  unfold Sz at *
  rw [Nat.pow_succ]
  generalize 4294967296 ^ k = P at *
  omega
theorem Sz.small {n : Nat} (h : n < 18446744073709551616) : Sz 2 n := h
theorem Text_sz {n k : Nat} (h : Sz k n) (hk : k ≤ 100000) : Ev (fun k => nat_Text.f k (dg 4294967296 n)) ⟨(txt n).toArray⟩ := by
  have h1 := h.d32
  have h2 := h.d9
  have h3 := h.dec
  exact Text_nat n (by omega) (by omega) (by omega)
theorem RText_sz {n k : Nat} (h : Sz k n) (hk : k ≤ 100000) : Ev (fun k => waypointref01_Text.f k (dg 1000000 n)) ⟨(txt n).toArray⟩ := by
  have h1 := h.d6
  exact RV.Text_nat n (by omega)
theorem Parse_sz {n k : Nat} (h : Sz k n) (hk0 : 1 ≤ k) (hk : k ≤ 100) : Ev (fun k => nat_Parse.f k ⟨(txt n).toArray⟩) (dg 4294967296 n, 0) := by
  have h1 := h.txt hk0
  exact Parse_txt n (by omega)
theorem dig_of_wf {l : List Int} (h : ∀ x ∈ l, (Lit.int .u32 x).wf = true) : Dig 4294967296 l := fun x hx => by
  have := h x hx
  simp [Lit.wf, IntKind.min, IntKind.max, IntKind.signed, IntKind.bits] at this
  omega
theorem num_sz {l : List Int} (hl : Dig 4294967296 l) {k : Nat} (hk : l.length ≤ k) : Sz k (RV.num l) := Sz.mono (RV.num_lt hl) hk
theorem number_ev {l : List Int} (hl : Dig 4294967296 l) (hn : l.length ≤ 12) : Ev (fun k => waypointlaw01_number.f k l) (dg 4294967296 (RV.num l), dg 1000000 (RV.num l)) := by
  have hs := num_sz hl hn
  obtain ⟨K1, e1⟩ := RV.Make_ev hl (by omega)
  obtain ⟨K2, e2⟩ := RText_sz hs (by omega)
  obtain ⟨K3, e3⟩ := Parse_sz hs (by omega) (by omega)
  refine ⟨K1 + K2 + K3, fun k hk => ?_⟩
  have e1 := e1 k (by omega)
  have e2 := e2 k (by omega)
  have e3 := e3 k (by omega)
  dsimp only at e1 e2 e3 ⊢
  unfold waypointlaw01_number.f
  rw [e1, Option.bind_some, e2, Option.bind_some, e3, Option.bind_some]
theorem is_ev {n k : Nat} (h : Sz k n) (hk : k ≤ 100000) : Ev (fun k => waypointlaw01_is.f k (dg 4294967296 n) (dg 1000000 n)) true := by
  obtain ⟨K1, e1⟩ := Text_sz h hk
  obtain ⟨K2, e2⟩ := RText_sz h hk
  refine ⟨K1 + K2, fun k hk => ?_⟩
  have e1 := e1 k (by omega)
  have e2 := e2 k (by omega)
  dsimp only at e1 e2 ⊢
  unfold waypointlaw01_is.f
  rw [e1, Option.bind_some, e2, Option.bind_some, beq_self_eq_true]
theorem cmp_neg {a b : Int} : cmp a b < 0 ↔ a < b := by
  unfold cmp
  split
  · omega
  · split <;> omega
theorem DivMod_one (a b : Nat) (hb0 : 0 < b) (hb : b < 4294967296) (ha : (dg 4294967296 a).length ≤ 1000000000) : Ev (fun k => nat_DivMod.f k (dg 4294967296 a) (dg 4294967296 b)) (dg 4294967296 (a / b), dg 4294967296 (a % b), 0) := by
  have hbz : ¬ (decide (b = 0) = true) := by simp; omega
  have hdb : dg 4294967296 b = [(b : Int)] := by
    rw [dg_pos (by omega) hb0, Nat.div_eq_of_lt hb, dg_zero, Nat.mod_eq_of_lt hb]
  obtain ⟨K1, e1⟩ := Cmp_nat a b (by omega)
  by_cases hab : a < b
  · refine ⟨K1, fun k hk => ?_⟩
    have e1 := e1 k hk
    dsimp only at e1 ⊢
    unfold nat_DivMod.f
    rw [IsZero_nat, Option.bind_some, if_neg hbz, e1, Option.bind_some, if_pos (cmp_neg.2 (by omega)), Nat.div_eq_of_lt hab, Nat.mod_eq_of_lt hab, dg_zero]
  · obtain ⟨q, q1, q2, q3, K2, e2⟩ := short_nat a b (by omega) hb0 hb
    obtain ⟨K3, e3⟩ := norm_nat (by omega) q2 q3
    have hr : a % b < 4294967296 := Nat.lt_trans (Nat.mod_lt _ hb0) hb
    have hdr : Dig 4294967296 [((a % b : Nat) : Int)] := Dig.cons (by omega) (by omega) (Dig.nil _)
    obtain ⟨K4, e4⟩ := norm_nat (l := [((a % b : Nat) : Int)]) (n := a % b) (by simp) hdr (by simp [vl])
    refine ⟨K1 + K2 + K3 + K4, fun k hk => ?_⟩
    have e1 := e1 k (by omega)
    have e2 := e2 k (by omega)
    have e3 := e3 k (by omega)
    have e4 := e4 k (by omega)
    dsimp only at e1 e2 e3 e4 ⊢
    have hl1 : (([(b : Int)] : List Int).length : Int) = 1 := rfl
    have hr0 : rd [(b : Int)] 0 = (b : Int) := rfl
    unfold nat_DivMod.f
    rw [IsZero_nat, Option.bind_some, if_neg hbz, e1, Option.bind_some, if_neg (by rw [cmp_neg]; omega), hdb, hl1, if_pos rfl, if_pos (by omega), hr0, e2, Option.bind_some, e3, Option.bind_some, e4, Option.bind_some]
theorem lit_txt (l : List UInt8) (n : Nat) (hv : pv 0 l = n) (hd : Digits l) (h0 : l ≠ []) (h1 : ∀ c r, l = c :: r → c.toNat = 48 → r = []) : txt n = l := by rw [← hv]; exact txt_pv hd h0 h1
theorem one_txt (c : UInt8) (h : 48 ≤ c.toNat ∧ c.toNat ≤ 57) : txt (dval c) = [c] := by
  have := txt_pv (l := [c]) (fun x hx => by rw [List.mem_singleton.1 hx]; exact h) (by simp) (fun c' r e _ => by injection e with _ e; exact e.symm)
  rw [pv_cons, pv_nil] at this
  rw [← this]; simp
theorem txt_big : txt 18446744073709551616 = [49, 56, 52, 52, 54, 55, 52, 52, 48, 55, 51, 55, 48, 57, 53, 53, 49, 54, 49, 54] := by
  refine lit_txt _ _ (by decide +kernel) ?_ (by simp) ?_
  · have : ∀ c ∈ ([49, 56, 52, 52, 54, 55, 52, 52, 48, 55, 51, 55, 48, 57, 53, 53, 49, 54, 49, 54] : List UInt8), 48 ≤ c.toNat ∧ c.toNat ≤ 57 := by decide +kernel
    exact this
  · intro c r e hc
    injection e with e1 e2
    subst e1
    exact absurd hc (by decide)
theorem len_one : bits_Len32.f 1 = some 1 := by
  unfold bits_Len32.f
  rw [if_pos ⟨by omega, by omega⟩]
  rfl
theorem Bits_big (k : Nat) : nat_Bits.f (dg 4294967296 18446744073709551616) = some 65 := by
  have e : dg 4294967296 18446744073709551616 = [0, 0, 1] := by
    rw [dg_pos (by omega) (by omega), dg_pos (by omega) (by omega), dg_pos (by omega) (by omega)]
    have : (18446744073709551616 / 4294967296 / 4294967296 / 4294967296 : Nat) = 0 := by decide
    rw [this, dg_zero]
    rfl
  unfold nat_Bits.f
  rw [IsZero_nat, e]
  have hr : rd [0, 0, 1] 2 = 1 := rfl
  have hw : wrap64 ((([0, 0, 1] : List Int).length : Int) - 1) = 2 := by
    have : (([0, 0, 1] : List Int).length : Int) = 3 := rfl
    rw [this, w64 (by omega) (by omega)]; omega
  rw [Option.bind_some, if_neg (by simp), hw, if_pos (by omega), if_pos (by decide), hr, len_one, Option.bind_some, w64 (x := 32 * 2) (by omega) (by omega), w64 (by omega) (by omega)]
  rfl
theorem GCD_ex : Ev (fun k => nat_GCD.f k (dg 4294967296 12) (dg 4294967296 18)) (dg 4294967296 6) := by
  have hz : ∀ n : Nat, 0 < n → ¬ (decide (n = 0) = true) := fun n h => by simp; omega
  have hs : ∀ n : Nat, n < 18446744073709551616 → (dg 4294967296 n).length ≤ 1000000000 := fun n h => by have := (Sz.small h).d32; omega
  obtain ⟨K1, e1⟩ := DivMod_one 12 18 (by omega) (by omega) (hs _ (by omega))
  obtain ⟨K2, e2⟩ := DivMod_one 18 12 (by omega) (by omega) (hs _ (by omega))
  obtain ⟨K3, e3⟩ := DivMod_one 12 6 (by omega) (by omega) (hs _ (by omega))
  refine ⟨K1 + K2 + K3 + 4, fun k hk => ?_⟩
  obtain ⟨m, rfl⟩ : ∃ m, k = m + 4 := ⟨k - 4, by omega⟩
  have e1 := e1 (m + 3) (by omega)
  have e2 := e2 (m + 2) (by omega)
  have e3 := e3 (m + 1) (by omega)
  dsimp only at e1 e2 e3 ⊢
  unfold nat_GCD.f
  rw [nat_GCD.l0, IsZero_nat, Option.bind_some, if_neg (hz 18 (by omega)), e1, Option.bind_some]
  rw [nat_GCD.l0, IsZero_nat, Option.bind_some, if_neg (hz _ (by omega)), show 12 % 18 = 12 from rfl, e2, Option.bind_some]
  rw [nat_GCD.l0, IsZero_nat, Option.bind_some, if_neg (hz _ (by omega)), show 18 % 12 = 6 from rfl, e3, Option.bind_some]
  rw [nat_GCD.l0, IsZero_nat, Option.bind_some, if_pos (by rfl)]
theorem Parse_007 : Ev (fun k => nat_Parse.f k (⟨#[48, 48, 55]⟩ : ByteArray)) ([], 3) := by
  refine Ev.congr (fun k => ?_) (Parse_bad ⟨#[48, 48, 55]⟩)
  unfold nat_Parse.f
  have h1 : (⟨#[48, 48, 55]⟩ : ByteArray).toList = [48, 48, 55] := toList_mk [48, 48, 55]
  have h2 : bt (⟨#[48, 48, 55]⟩ : ByteArray) 0 = 48 := bt_zero 48 [48, 55]
  have h3 : (⟨#[48, 48, 55]⟩ : ByteArray).size = 3 := rfl
  rw [h1, if_neg (by simp), h3, if_pos (by omega), h2, if_pos rfl, if_pos (by omega)]
theorem awake_ev : Ev (fun k => waypointlaw01_awake.f k) true := by
  have hs : ∀ n : Nat, n < 18446744073709551616 → (dg 4294967296 n).length ≤ 2 := fun n h => (Sz.small h).d32
  obtain ⟨K1, e1⟩ := Of_ev 4294967296 (by omega)
  obtain ⟨K2, e2⟩ := Of_ev 17 (by omega)
  obtain ⟨K3, e3⟩ := Of_ev 5 (by omega)
  obtain ⟨K4, e4⟩ := DivMod_one 17 5 (by omega) (by omega) (by have := hs 17 (by omega); omega)
  obtain ⟨K5, e5⟩ := Parse_007
  obtain ⟨K6, e6⟩ := Mul_nat 4294967296 4294967296 (by have := hs 4294967296 (by omega); omega)
  obtain ⟨K7, e7⟩ := Text_sz (n := 4294967296 * 4294967296) (k := 3) (by unfold Sz; omega) (by omega)
  obtain ⟨K8, e8⟩ := Text_sz (n := 17 / 5) (Sz.small (by omega)) (by omega)
  obtain ⟨K9, e9⟩ := Text_sz (n := 17 % 5) (Sz.small (by omega)) (by omega)
  obtain ⟨K10, e10⟩ := Of_ev 12 (by omega)
  obtain ⟨K11, e11⟩ := Of_ev 18 (by omega)
  obtain ⟨K12, e12⟩ := GCD_ex
  obtain ⟨K13, e13⟩ := Text_sz (n := 6) (Sz.small (by omega)) (by omega)
  refine ⟨K1 + K2 + K3 + K4 + K5 + K6 + K7 + K8 + K9 + K10 + K11 + K12 + K13, fun k hk => ?_⟩
  have e1 : nat_Of.f k 4294967296 = _ := e1 k (by omega)
  have e2 : nat_Of.f k 17 = _ := e2 k (by omega)
  have e3 : nat_Of.f k 5 = _ := e3 k (by omega)
  have e4 := e4 k (by omega)
  have e5 := e5 k (by omega)
  have e6 := e6 k (by omega)
  have e7 := e7 k (by omega)
  have e8 := e8 k (by omega)
  have e9 := e9 k (by omega)
  have e10 : nat_Of.f k 12 = _ := e10 k (by omega)
  have e11 : nat_Of.f k 18 = _ := e11 k (by omega)
  have e12 := e12 k (by omega)
  have e13 := e13 k (by omega)
  dsimp only at e4 e5 e6 e7 e8 e9 e12 e13
  have t7 : (⟨(txt (4294967296 * 4294967296)).toArray⟩ : ByteArray).toList = [49, 56, 52, 52, 54, 55, 52, 52, 48, 55, 51, 55, 48, 57, 53, 53, 49, 54, 49, 54] := by rw [toList_mk]; exact txt_big
  have t8 : (⟨(txt (17 / 5)).toArray⟩ : ByteArray).toList = [51] := by rw [toList_mk]; exact one_txt 51 (by decide)
  have t9 : (⟨(txt (17 % 5)).toArray⟩ : ByteArray).toList = [50] := by rw [toList_mk]; exact one_txt 50 (by decide)
  have t13 : (⟨(txt 6).toArray⟩ : ByteArray).toList = [54] := by rw [toList_mk]; exact one_txt 54 (by decide)
  have hb : nat_Bits.f (dg 4294967296 (4294967296 * 4294967296)) = some 65 := Bits_big 0
  show waypointlaw01_awake.f k = some true
  unfold waypointlaw01_awake.f
  rw [e1, Option.bind_some, e2, Option.bind_some, e3, Option.bind_some, e4, Option.bind_some, e5, Option.bind_some, e6, Option.bind_some, e7, Option.bind_some, if_pos t7, Option.bind_some, hb, Option.bind_some, if_pos rfl, if_pos rfl, e8, Option.bind_some, if_pos t8, e9, Option.bind_some, if_pos t9, e10, Option.bind_some, e11, Option.bind_some, e12, Option.bind_some, e13, Option.bind_some, if_pos t13]
  rfl
theorem small_yes {l r : List Int} (hl : l.length ≤ 12) (hr : r.length ≤ 12) : waypointlaw01_small.f l r = some true := by
  unfold waypointlaw01_small.f
  rw [if_pos (by omega), decide_eq_true (by omega)]
theorem small_no {l r : List Int} (h : ¬ (l.length ≤ 12 ∧ r.length ≤ 12)) : waypointlaw01_small.f l r = some false := by
  unfold waypointlaw01_small.f
  split
  · rw [decide_eq_false (by omega)]
  · rfl
end Go.Proofs.YtmjkhbjfacfmcaaDoor.NL
end
section
namespace Go.Proofs.YtmjkhbjfacfmcaaDoor.Pure
open Go Go.RowKit Go.Proofs.YtmjkhbjfacfmcaaDoor Go.Proofs.YtmjkhbjfacfmcaaDoor.PA Go.Proofs.YtmjkhbjfacfmcaaDoor.NM Go.Proofs.YtmjkhbjfacfmcaaDoor.NT Go.Proofs.YtmjkhbjfacfmcaaDoor.NV Go.Proofs.YtmjkhbjfacfmcaaDoor.NL Go.Proofs.YtmjkhbjfacfmcaaDoorW.PrintWords Go.Proofs.YtmjkhbjfacfmcaaDoorW.PrintLast
theorem NatProducts : waypointlaw01_NatProducts.Pure := by
  intro l r hl hl2 hlw hr hr2 hrw
  have dl := dig_of_wf hlw
  have dr := dig_of_wf hrw
  refine Ev.rounds ?_
  obtain ⟨K0, e0⟩ := awake_ev
  by_cases hs : l.length ≤ 12 ∧ r.length ≤ 12
  · obtain ⟨K1, e1⟩ := number_ev dl hs.1
    obtain ⟨K2, e2⟩ := number_ev dr hs.2
    have s1 := num_sz dl hs.1
    have s2 := num_sz dr hs.2
    have s3 := Sz.mul s1 s2
    obtain ⟨K3, e3⟩ := Mul_nat (RV.num l) (RV.num r) (by have := s1.d32; have := s2.d32; omega)
    obtain ⟨K4, e4⟩ := RV.Mul_nat (RV.num l) (RV.num r) (by have := s1.d6; omega) (by have := s2.d6; omega)
    obtain ⟨K5, e5⟩ := is_ev s3 (by omega)
    refine ⟨K0 + K1 + K2 + K3 + K4 + K5, fun k hk => ?_⟩
    have e0 := e0 k (by omega)
    have e1 := e1 k (by omega)
    have e2 := e2 k (by omega)
    have e3 := e3 k (by omega)
    have e4 := e4 k (by omega)
    have e5 := e5 k (by omega)
    dsimp only at e0 e1 e2 e3 e4 e5
    show waypointlaw01_NatProducts.f k l r = some true
    unfold waypointlaw01_NatProducts.f
    rw [e0, Option.bind_some, if_pos rfl, small_yes hs.1 hs.2, Option.bind_some, if_pos rfl, e1, Option.bind_some, e2, Option.bind_some]
    dsimp only
    rw [e3, Option.bind_some, e4, Option.bind_some, e5, Option.bind_some]
  · refine ⟨K0, fun k hk => ?_⟩
    have e0 := e0 k hk
    dsimp only at e0
    show waypointlaw01_NatProducts.f k l r = some true
    unfold waypointlaw01_NatProducts.f
    rw [e0, Option.bind_some, if_pos rfl, small_no hs, Option.bind_some, if_neg (by simp)]
end Go.Proofs.YtmjkhbjfacfmcaaDoor.Pure
end
section
namespace Go.Proofs.YtmjkhbjfacfmcaaDoor.natProducts
open Go.ChangeShapes Go.WideShapes Go.ChangeAt Go.RowKit
open Go.ChangeMaps (open_string shut_string)
set_option linter.unusedVariables false
set_option linter.unusedSimpArgs false
theorem own : ownKnob Tryd.prog.godebug = none := by kernel_rfl
theorem laidOut : laidOutB Tryd.prog = true := by kernel_rfl
def IsRow (k : IntKind) (w : World) (a : Option Addr) (len cap : Nat) (zs : List Int) : Prop :=
  (a = none ∧ len = 0 ∧ cap = 0 ∧ zs = []) ∨
  ∃ x, a = some x ∧ len ≤ cap ∧ cap ≤ maxLen ∧ zs.length = cap ∧ (∀ i, i < zs.length → w.cell? (x.add i) = some (.int k (zs.getD i 0))) ∧ ∀ n ∈ zs, (Lit.int k n).wf = true
theorem gTab : Tryd.prog.globalNamed "internal/strconv.uint64pow10" = some 5 := by kernel_rfl
theorem gTy : (Tryd.prog.globals[5]?).map (·.type) = some 140 := by kernel_rfl
theorem cellsA : Tryd.prog.cellsOf 140 = 20 := by kernel_rfl
theorem cellsE : Tryd.prog.cellsOf 52 = 1 := by kernel_rfl
theorem pwData : (Rows.laid_internal_strconv_uint64pow10 : DataW Unit) = Lib.tabData .u64 Lib.pow10Tab := by simp [Rows.laid_internal_strconv_uint64pow10, Lib.tabData, Lib.pow10Tab, List.range, List.range.loop]
theorem glw {W : World} (h : laidMetH Tryd.prog Rows.natProductsRow.laid W) : GLw W := by
  obtain ⟨g', t', cs, fuel, p, hg', ht', hvar, hd⟩ := Lib.laidMet.reads h (n := "internal/strconv.uint64pow10") (d := Rows.laid_internal_strconv_uint64pow10) (by simp [Rows.natProductsRow])
  obtain rfl := Option.some.inj (gTab.symm.trans hg')
  obtain rfl := Option.some.inj (gTy.symm.trans ht')
  rw [pwData] at hd
  have hcs := Lib.cells_of_tab Tryd.underlying140 Tryd.underlying52 cellsE cellsA hd
  exact ⟨by unfold Lib.TabIs; rw [hvar, ← hcs]⟩
noncomputable def laidWorld (os : Os) : World :=
  let w0 := World.holding Tryd.prog os ⟨#[.cells #[.string ⟨#[118, 97, 108, 117, 101, 32, 111, 117, 116, 32, 111, 102, 32, 114, 97, 110, 103, 101]⟩] 138, .cells #[.string ⟨#[105, 110, 118, 97, 108, 105, 100, 32, 115, 121, 110, 116, 97, 120]⟩] 138], #[], []⟩
  let put (h : Array Obj) (g : Nat) (cs : Array Value) : Array Obj := h.modify g fun
    | .cells _ t frozen => .cells cs t frozen
    | o => o
  let h0 := put w0.heap 7 #[.int .u8 0, .int .u8 1, .int .u8 28, .int .u8 2, .int .u8 29, .int .u8 14, .int .u8 24, .int .u8 3, .int .u8 30, .int .u8 22, .int .u8 20, .int .u8 15, .int .u8 25, .int .u8 17, .int .u8 4, .int .u8 8, .int .u8 31, .int .u8 27, .int .u8 13, .int .u8 23, .int .u8 21, .int .u8 19, .int .u8 16, .int .u8 7, .int .u8 26, .int .u8 12, .int .u8 18, .int .u8 6, .int .u8 11, .int .u8 5, .int .u8 10, .int .u8 9]
  let h1 := put h0 8 #[.int .u8 0, .int .u8 1, .int .u8 56, .int .u8 2, .int .u8 57, .int .u8 49, .int .u8 28, .int .u8 3, .int .u8 61, .int .u8 58, .int .u8 42, .int .u8 50, .int .u8 38, .int .u8 29, .int .u8 17, .int .u8 4, .int .u8 62, .int .u8 47, .int .u8 59, .int .u8 36, .int .u8 45, .int .u8 43, .int .u8 51, .int .u8 22, .int .u8 53, .int .u8 39, .int .u8 33, .int .u8 30, .int .u8 24, .int .u8 18, .int .u8 12, .int .u8 5, .int .u8 63, .int .u8 55, .int .u8 48, .int .u8 27, .int .u8 60, .int .u8 41, .int .u8 37, .int .u8 16, .int .u8 46, .int .u8 35, .int .u8 44, .int .u8 21, .int .u8 52, .int .u8 32, .int .u8 23, .int .u8 11, .int .u8 54, .int .u8 26, .int .u8 40, .int .u8 15, .int .u8 34, .int .u8 20, .int .u8 31, .int .u8 10, .int .u8 25, .int .u8 14, .int .u8 19, .int .u8 9, .int .u8 13, .int .u8 8, .int .u8 7, .int .u8 6]
  let h2 := put h1 5 #[.int .u64 1, .int .u64 10, .int .u64 100, .int .u64 1000, .int .u64 10000, .int .u64 100000, .int .u64 1000000, .int .u64 10000000, .int .u64 100000000, .int .u64 1000000000, .int .u64 10000000000, .int .u64 100000000000, .int .u64 1000000000000, .int .u64 10000000000000, .int .u64 100000000000000, .int .u64 1000000000000000, .int .u64 10000000000000000, .int .u64 100000000000000000, .int .u64 1000000000000000000, .int .u64 10000000000000000000]
  let h3 := put h2 4 #[.int .u8 128, .int .u8 191, .int .u8 160, .int .u8 191, .int .u8 128, .int .u8 159, .int .u8 144, .int .u8 191, .int .u8 128, .int .u8 143, .int .u8 0, .int .u8 0, .int .u8 0, .int .u8 0, .int .u8 0, .int .u8 0, .int .u8 0, .int .u8 0, .int .u8 0, .int .u8 0, .int .u8 0, .int .u8 0, .int .u8 0, .int .u8 0, .int .u8 0, .int .u8 0, .int .u8 0, .int .u8 0, .int .u8 0, .int .u8 0, .int .u8 0, .int .u8 0]
  let h4 := put h3 2 #[.iface 136 (.pointer (some ⟨(World.settled Tryd.prog os).heap.size + 0, 0, none⟩))]
  let h5 := put h4 1 #[.iface 136 (.pointer (some ⟨(World.settled Tryd.prog os).heap.size + 1, 0, none⟩))]
  let h6 := put h5 3 (Lib.firstTab.map fun z => Value.int .u8 z).toArray
  { w0 with heap := h6 }
set_option maxRecDepth 100000 in
theorem laid_met (os : Os) (args : Array Value) : laidMet Tryd.prog Rows.natProductsRow.laid ((laidWorld os).forCall (fun _ _ => 0) ⟨#[], args, []⟩).memory :=
  laidMet_of_run' 8 (by kernel_rfl) (by kernel_rfl)
set_option maxRecDepth 100000 in
theorem witness_row (os : Os) {H : Type} (enc : TypeId × Value → H) :
    (OpenSpec.ofChange Rows.natProductsSpec).preRow enc Tryd.prog Tryd.f5 Rows.natProductsRow.domain false Rows.natProductsRow.laid ((laidWorld os).forCall (fun _ _ => 0) ⟨#[], #[.slice none 0 0, .slice none 0 0], []⟩).memory #[.slice none 0 0, .slice none 0 0] := by
  have hw : (DataW.whole enc Tryd.prog ((laidWorld os).forCall (fun _ _ => 0) ⟨#[], #[.slice none 0 0, .slice none 0 0], []⟩).memory Tryd.f5.params.toList Rows.natProductsSpec.vars false (#[.slice none 0 0, .slice none 0 0] : Array Value).toList 8).map (fun x => (x.1, x.2.1)) =
      some ([.nil, .nil], []) := by kernel_rfl
  obtain ⟨⟨x1, x2, x3⟩, hx, hx1⟩ := Option.map_eq_some_iff.1 hw
  simp only [Prod.mk.injEq] at hx1
  obtain ⟨rfl, rfl⟩ := hx1
  exact OpenSpec.preRow_of_cond 8 hx (by kernel_rfl) (fun k hk => by cases hk) (by kernel_rfl) (laid_met os _)
set_option maxRecDepth 100000 in
set_option maxHeartbeats 2000000 in
theorem lifted (os : Os) (started : os.Started) (H : Type) (enc : TypeId × Value → H) (F : Stop.Interp) :
    ReturnsInHanded {} Tryd.checked os 5 .any ((OpenSpec.ofChange Rows.natProductsSpec).preRow enc Tryd.prog Tryd.f5 Rows.natProductsRow.domain false Rows.natProductsRow.laid) (((OpenSpec.ofChange Rows.natProductsSpec).at F).post enc Tryd.prog Tryd.f5 false true false false) := by
  refine returnsInHanded_of_row (C := Tryd.checked) (s := OpenSpec.ofChange Rows.natProductsSpec) own started (by kernel_rfl) Tryd.func5
    (witness_row_atRef (enc := enc) (C := Tryd.checked) false (laidWorld os) #[.slice none 0 0, .slice none 0 0] rfl (by kernel_rfl) (by kernel_rfl) (by kernel_rfl) (witness_row os enc)) ?_
  intro W base args ds gs before hval0 hW _ _ hsz0 hL _ _
  have hsz : (DataW.weightsEach Tryd.prog (Tryd.f5.params.toList ++ Rows.natProductsSpec.plain.varTypes Tryd.prog) (ds ++ gs)).all (· ≤ reachBytes) = true := hsz0
  have hval : ∀ (j : Nat) t v, Tryd.f5.params[j]? = some t → args[j]? = some v → Value.okWide Tryd.prog W .any base t v := hval0
  have hW' := hW
  obtain ⟨p, q, hA0, hV, rfl, hfz, hnd⟩ := hW
  have hA : DataW.TrodAll enc Tryd.prog W 0 (fun _ => true) true Tryd.f5.params.toList args.toList ds p := hA0
  rw [Tryd.params5] at hA hval hsz
  obtain ⟨v0, vs0, d0, ds0, p0, q0, hargs, rfl, rfl, h0, r0⟩ := trodAll_cons hA
  obtain ⟨v1, vs1, d1, ds1, p1, q1, rfl, rfl, rfl, h1, r1⟩ := trodAll_cons r0
  obtain ⟨rfl, rfl, rfl⟩ := trodAll_nil r1
  obtain rfl : args = #[v0, v1] := by cases args; simp_all
  obtain ⟨rfl, rfl⟩ := trodVars_none hV
  obtain ⟨a0, len0, cap0, rfl⟩ := okWide_slice Tryd.underlying22 (hval 0 22 v0 rfl rfl)
  have k0 := h0
  have lt0 : ∀ x ∈ p0, x.block < W.heap.size := by obtain ⟨m, hm⟩ := k0; exact DataW.trod_lt m _ _ _ hm
  obtain ⟨z0, w0⟩ : ∃ zs, IsRow .u32 W a0 len0 cap0 zs := by
    obtain ⟨fuel, hf⟩ := h0
    rcases open_ints Tryd.underlying22 Tryd.underlying62 (by kernel_rfl) hf with ⟨hcs, _⟩ | ⟨x, l, c, zs, hcs, _, hl, hm, hz, _, hcell, hwz⟩
    · simp [Value.cells] at hcs
      obtain ⟨rfl, rfl, rfl⟩ := hcs
      exact ⟨[], .inl ⟨rfl, rfl, rfl, rfl⟩⟩
    · simp [Value.cells] at hcs
      obtain ⟨rfl, rfl, rfl⟩ := hcs
      exact ⟨zs, .inr ⟨_, rfl, hl, hm, by simpa using hz, hcell, hwz⟩⟩
  have y0 : len0 * 4 ≤ 140737488351232 := Go.Proofs.YtmjkhbjfacfmcaaDoorW.PrintWords.sized_ints hsz (j := 0) (t := 22) rfl rfl Tryd.underlying22 Tryd.underlying62 (by kernel_rfl) (by kernel_rfl) h0
  obtain ⟨a1, len1, cap1, rfl⟩ := okWide_slice Tryd.underlying22 (hval 1 22 v1 rfl rfl)
  have k1 := h1
  have lt1 : ∀ x ∈ p1, x.block < W.heap.size := by obtain ⟨m, hm⟩ := k1; exact DataW.trod_lt m _ _ _ hm
  obtain ⟨z1, w1⟩ : ∃ zs, IsRow .u32 W a1 len1 cap1 zs := by
    obtain ⟨fuel, hf⟩ := h1
    rcases open_ints Tryd.underlying22 Tryd.underlying62 (by kernel_rfl) hf with ⟨hcs, _⟩ | ⟨x, l, c, zs, hcs, _, hl, hm, hz, _, hcell, hwz⟩
    · simp [Value.cells] at hcs
      obtain ⟨rfl, rfl, rfl⟩ := hcs
      exact ⟨[], .inl ⟨rfl, rfl, rfl, rfl⟩⟩
    · simp [Value.cells] at hcs
      obtain ⟨rfl, rfl, rfl⟩ := hcs
      exact ⟨zs, .inr ⟨_, rfl, hl, hm, by simpa using hz, hcell, hwz⟩⟩
  have y1 : len1 * 4 ≤ 140737488351232 := Go.Proofs.YtmjkhbjfacfmcaaDoorW.PrintWords.sized_ints hsz (j := 1) (t := 22) rfl rfl Tryd.underlying22 Tryd.underlying62 (by kernel_rfl) (by kernel_rfl) h1
  clear hA0 hval0 hsz0 hsz
  refine (PA.waypointlaw01_NatProducts.walk Pure.NatProducts a0 len0 cap0 z0 a1 len1 cap1 z1 W (glw hL) w0 y0 w1 y1).mono fun e W' ⟨he, bel⟩ => ?_
  subst he
  exact ⟨_, rfl, _, _, _, [], _, [], hW', trodAll_mk1 (shut_bool Tryd.underlying4 _), (trodAll_cons_mk (Below.trod laidOut (by kernel_rfl) (of_decide_eq_true (by kernel_rfl)) k0 bel lt0) (trodAll_cons_mk (Below.trod laidOut (by kernel_rfl) (of_decide_eq_true (by kernel_rfl)) k1 bel lt1) trodAll_mk0)), rfl, bel.frame _, fun h => by cases h⟩
theorem said : Rows.NatProductsSaid :=
  OpenClaim.holds_of_cond 5 Tryd.f5 rfl rfl rfl rfl rfl rfl rfl ⟨rfl, rfl, rfl, rfl, rfl⟩ rfl rfl rfl rfl rfl (by kernel_rfl) Tryd.func5 (by kernel_rfl)
    (of_decide_eq_true (by kernel_rfl)) (by unfold Func.isWrapper; first | (rw [if_pos (by decide +kernel)]; kernel_rfl) | (rw [if_neg (by decide +kernel)]; exact ⟨rfl, rfl⟩))
    (fun os started H enc _ F => by rw [OpenClaim.pre_eq_preRow]; exact lifted os started H enc F)
theorem plain (f : FuncId) (fn : Func) (hf : Tryd.pinned.checked.prog.funcNamed "waypoint/waypointlaw01.NatProducts" = some f) (hfn : Tryd.pinned.checked.prog.funcs[f]? = some fn) :
    true = Tryd.pinned.checked.prog.looks [] ∧ ∀ (j : Nat) t, fn.params[j]? = some t → Tryd.pinned.checked.prog.wantsStandIn t = false := by
  obtain rfl : f = 5 := Option.some.inj ((show Tryd.prog.funcNamed "waypoint/waypointlaw01.NatProducts" = some 5 by kernel_rfl).symm.trans hf) |>.symm
  obtain rfl : fn = Tryd.f5 := (Option.some.inj (Tryd.func5.symm.trans hfn)).symm
  refine ⟨by kernel_rfl, fun j t ht => ?_⟩
  rw [Tryd.params5] at ht
  have hm := Array.mem_of_getElem? ht
  simp only [List.mem_toArray, List.mem_cons, List.mem_nil_iff, or_false] at hm
  rcases hm with rfl | rfl
  · exact (show Tryd.prog.wantsStandIn 22 = false by kernel_rfl)
  · exact (show Tryd.prog.wantsStandIn 22 = false by kernel_rfl)
theorem card : Rows.NatProductsCardSaid :=
  Claim7.holds_tied_plain_at .later [] _ _ _ _ said (fun _ h => by cases h) (by kernel_rfl) (fun _ h => by cases h) natProducts_row_tie rfl ⟨rfl, rfl⟩ (by kernel_rfl) rfl plain (by kernel_rfl)
end Go.Proofs.YtmjkhbjfacfmcaaDoor.natProducts
namespace Go.Proofs.YtmjkhbjfacfmcaaDoor
theorem natProducts_card : Rows.NatProductsCardSaid := natProducts.card
end Go.Proofs.YtmjkhbjfacfmcaaDoor
end
