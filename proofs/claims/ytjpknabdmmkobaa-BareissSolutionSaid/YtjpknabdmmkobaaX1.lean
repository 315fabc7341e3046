/- Part 14 of the proof: Rq1, Dw, L5b. -/
import Derived.Test.YtjpknabdmmkobaaY1
set_option linter.unusedVariables false
set_option linter.unusedSimpArgs false
section
set_option maxRecDepth 20000
open Go Go.QM Go.Elim
namespace Go.Proofs.Ytjpknabdmmkobaa
variable {h : VH} {Q : Value → VH → Prop} {c : Cw Q}
variable {P : Raw → Prop} {n w i j k p : Nat} {R : List (List Raw)} {A : Fm}
def qc (q : Rat) : RRaw := (cz q.num, cz (q.den : Int))
def qv (x : RRaw) : Rat := (iz x.1 : Rat) / (iz x.2 : Rat)
def Sq (k : Nat) (q : Rat) : Prop := Sk k q.num ∧ Sk k (q.den : Int)
theorem qz_qc (a b : Int) (hb : b ≠ 0) : qz a b = qc ((a : Rat) / (b : Rat)) := by
 rw [← Rat.divInt_eq_div]
 unfold qz qc lowN lowD
 rw [Rat.num_divInt, Rat.den_divInt, if_neg hb]
 have hg : Int.gcd (ofN a b) (ofD b) = Int.gcd b a := by
  unfold ofN ofD
  rw [if_neg hb, if_neg hb]
  split
  ·rw [Int.gcd_neg, Int.neg_gcd, Int.gcd_comm]
  ·rw [Int.gcd_comm]
 have h1 : ofN a b = b.sign * a := by
  unfold ofN
  rw [if_neg hb]
  split
  ·rename_i h; rw [Int.sign_eq_neg_one_of_neg h]; omega
  ·rw [Int.sign_eq_one_of_pos (by omega)]; omega
 have h2 : ofD b = (b.natAbs : Int) := by
  unfold ofD
  rw [if_neg hb]
  split <;> omega
 rw [hg, h1, h2, Int.natCast_ediv]
theorem qc_qv (q : Rat) : qv (qc q) = q := by
 unfold qv qc
 rw [iz_cz, iz_cz, ← Rat.divInt_eq_div]
 exact Rat.num_divInt_den q
theorem Sq.okq {k : Nat} {q : Rat} (h : Sq k q) (hk : k < 1099511627776) : Okq (qc q) := ⟨Okr.cz h.1 hk, Okr.cz h.2 hk⟩
theorem Sq.mono {k l : Nat} {q : Rat} (h : Sq k q) (hkl : k ≤ l) : Sq l q := ⟨h.1.mono hkl, h.2.mono hkl⟩
theorem Sq.div {k : Nat} {a b : Int} (ha : Sk k a) (hb : Sk k b) (hk : 1 ≤ k) : Sq k ((a : Rat) / (b : Rat)) := by
 by_cases h0 : b = 0
 ·subst h0
  rw [← Rat.divInt_eq_div, Rat.divInt_zero]
  exact ⟨Sk.zero _, Sk.mono (show Sk 1 1 from dig_len.2 (by decide)) hk⟩
 ·rw [← Rat.divInt_eq_div]
  refine ⟨?_, ?_⟩
  ·rw [Rat.num_divInt]
   refine ha.le (Nat.le_trans (natAbs_ediv_le' _ _) ?_)
   rw [Int.natAbs_mul]
   rcases Int.lt_trichotomy b 0 with h | h | h
   ·rw [Int.sign_eq_neg_one_of_neg h]; simp
   ·omega
   ·rw [Int.sign_eq_one_of_pos h]; simp
  ·rw [Rat.den_divInt, if_neg h0]
   refine hb.le ?_
   rw [Int.natAbs_natCast]
   exact Nat.div_le_self _ _
theorem Sq.int {k : Nat} {a : Int} (ha : Sk k a) (hk : 1 ≤ k) : Sq k (a : Rat) := ⟨ha, Sk.mono (show Sk 1 1 from dig_len.2 (by decide)) hk⟩
theorem Sq.neg {k : Nat} {q : Rat} (h : Sq k q) : Sq k (-q) := ⟨by rw [Rat.neg_num]; exact h.1.neg, by rw [Rat.neg_den]; exact h.2⟩
theorem q_add (p q : Rat) : p + q = ((p.num * q.den + q.num * p.den : Int) : Rat) / ((p.den * q.den : Int) : Rat) := by
 rw [Rat.add_def', Rat.mkRat_eq_div, ← Rat.intCast_natCast, Int.natCast_mul]
theorem q_mul (p q : Rat) : p * q = ((p.num * q.num : Int) : Rat) / ((p.den * q.den : Int) : Rat) := by
 rw [Rat.mul_def', Rat.mkRat_eq_div, ← Rat.intCast_natCast, Int.natCast_mul]
theorem Sq.add {k : Nat} {p q : Rat} (hp : Sq k p) (hq : Sq k q) (hk : 1 ≤ k) : Sq (2 * k + 1) (p + q) := by
 rw [q_add]
 exact Sq.div (((hp.1.mul hq.2).mono (by omega)).add ((hq.1.mul hp.2).mono (by omega))) ((hp.2.mul hq.2).mono (by omega)) (by omega)
theorem Sq.mul {k : Nat} {p q : Rat} (hp : Sq k p) (hq : Sq k q) (hk : 1 ≤ k) : Sq (2 * k) (p * q) := by
 rw [q_mul]
 exact Sq.div ((hp.1.mul hq.1).mono (by omega)) ((hp.2.mul hq.2).mono (by omega)) (by omega)
theorem cl4 {r t : Nat} {x0 x1 x2 x3 : Value} (hc : Cell h r t [x0, x1, x2, x3]) : rdN h r 0 4 = some [x0, x1, x2, x3] := rd_s4 hc.2
theorem clA {r t : Nat} {x0 x1 x2 x3 : Value} (hc : Cell h r t [x0, x1, x2, x3]) : rdN h r 0 2 = some [x0, x1] := by rw [rdN_of hc.2]; rfl
theorem clB {r t : Nat} {x0 x1 x2 x3 : Value} (hc : Cell h r t [x0, x1, x2, x3]) : rdN h r 2 2 = some [x2, x3] := by rw [rdN_of hc.2]; rfl
theorem rWhole_ok (x : Raw) (hx : Okr x) (hq : ∀ h1, h.le h1 → Q (rV (qc (iz x : Rat))) h1) : Runs Try.prog cfg 38 [iV x] h Q c := by
 refine Runs.go Try.func38 rfl rfl (.refl _ _) ?_
 refine W.rseqZ ?_
 simp (disch := first | omega | (simp only [vd]; done) | (simp only [vd]; omega)) only [vs, reduceIte, Nat.reduceEqDiff, Value.cells]
 refine WF.d1 1 rfl (WF.done ?_)
 try simp (disch := first | omega | (simp only [vd]; done) | (simp only [vd]; omega)) only [vs, reduceIte, Nat.reduceEqDiff, next_push, next_skip]
 have hle : h.le (h.skip.push ⟨58, 0, [.bool false, .slice none 0 0, .bool false, .slice none 0 0]⟩) := (VH.le_skip _).trans (VH.le_push _ _)
 have hR : (h.skip.push ⟨58, 0, [.bool false, .slice none 0 0, .bool false, .slice none 0 0]⟩).blk (h.next + 1) = some ⟨58, 0, [.bool false, .slice none 0 0, .bool false, .slice none 0 0]⟩ := blk_push
 have hn : h.next + 1 < (h.skip.push ⟨58, 0, [.bool false, .slice none 0 0, .bool false, .slice none 0 0]⟩).next := Nat.lt_succ_self _
 have hhr : h.next ≤ h.next + 1 := by omega
 generalize h.skip.push ⟨58, 0, [.bool false, .slice none 0 0, .bool false, .slice none 0 0]⟩ = H at *
 generalize h.next + 1 = r at *
 refine W.rseq ?_
 simp (disch := first | omega | (simp only [vd]; done) | (simp only [vd]; omega)) only [vs, reduceIte, Nat.reduceEqDiff]
 refine rNormalize_r x hx fun h1 hx1 => ?_
 simp (disch := first | omega | (simp only [vd]; done) | (simp only [vd]; omega)) only [vs, reduceIte, Nat.reduceEqDiff]
 refine rSmall_r 1 (by decide) (by decide) fun h2 hx2 => ?_
 obtain ⟨h4, k1, k2, k2', k3, k4⟩ := fin_r (x := qc (iz x : Rat)) hle hR hn hhr (hx1.trans hx2)
 change wrN 0 h2 r 0 [.bool (cz (iz x)).1, u32S (cz (iz x)).2, .bool (cz 1).1, u32S (cz 1).2] = some h4 at k1
 simp (disch := first | omega | (simp only [vd]; done) | (simp only [vd]; omega)) only [vs, reduceIte, Nat.reduceEqDiff, k1]
 refine W.ret ⟨.inr rfl, _, _, _, .refl _ _, ress_c rfl ?_, hq _ k4⟩
 simp (disch := first | omega | (simp only [vd]; done) | (simp only [vd]; omega)) only [vs, reduceIte, Nat.reduceEqDiff, k3]
theorem rQSmall_ok (n : Int) (h1 : -9223372036854775808 ≤ n) (h2 : n < 9223372036854775808) (hq : ∀ h1, h.le h1 → Q (rV (qc (n : Rat))) h1) : Runs Try.prog cfg 35 [.int .i64 n] h Q c := by
 refine Runs.go Try.func35 rfl rfl (.refl _ _) ?_
 refine W.rseqZ ?_
 simp (disch := first | omega | (simp only [vd]; done) | (simp only [vd]; omega)) only [vs, reduceIte, Nat.reduceEqDiff, Value.cells]
 refine WF.done ?_
 try simp (disch := first | omega | (simp only [vd]; done) | (simp only [vd]; omega)) only [vs, reduceIte, Nat.reduceEqDiff, next_push, next_skip]
 have hle : h.le (h.push ⟨58, 0, [.bool false, .slice none 0 0, .bool false, .slice none 0 0]⟩) := VH.le_push _ _
 have hR : (h.push ⟨58, 0, [.bool false, .slice none 0 0, .bool false, .slice none 0 0]⟩).blk (h.next) = some ⟨58, 0, [.bool false, .slice none 0 0, .bool false, .slice none 0 0]⟩ := blk_push
 have hn : h.next < (h.push ⟨58, 0, [.bool false, .slice none 0 0, .bool false, .slice none 0 0]⟩).next := Nat.lt_succ_self _
 have hhr : h.next ≤ h.next := by omega
 generalize h.push ⟨58, 0, [.bool false, .slice none 0 0, .bool false, .slice none 0 0]⟩ = H at *
 refine W.rseq ?_
 simp (disch := first | omega | (simp only [vd]; done) | (simp only [vd]; omega)) only [vs, reduceIte, Nat.reduceEqDiff]
 refine rSmall_r n h1 h2 fun h3 hx1 => ?_
 simp (disch := first | omega | (simp only [vd]; done) | (simp only [vd]; omega)) only [vs, reduceIte, Nat.reduceEqDiff]
 refine rWhole_ok (cz n) (Okr.cz (Sk.small (z := n) (by omega) (by omega)) (by decide)) fun h4 hx2 => ?_
 rw [iz_cz]
 obtain ⟨h5, k1, k2, k2', k3, k4⟩ := fin_r (x := qc (n : Rat)) hle hR hn hhr (hx1.trans hx2)
 simp (disch := first | omega | (simp only [vd]; done) | (simp only [vd]; omega)) only [vs, reduceIte, Nat.reduceEqDiff, k1]
 refine W.ret ⟨.inr rfl, _, _, _, .refl _ _, ress_c rfl ?_, hq _ k4⟩
 simp (disch := first | omega | (simp only [vd]; done) | (simp only [vd]; omega)) only [vs, reduceIte, Nat.reduceEqDiff, k3]
theorem rQNormalize_ok (x : RRaw) (hx : Okq x) (hq : ∀ h1, h.le h1 → Q (rV (qc (qv x))) h1) : Runs Try.prog cfg 76 [rV x] h Q c := by
 refine Runs.go Try.func76 rfl rfl (.refl _ _) ?_
 refine W.rseqZ ?_
 simp (disch := first | omega | (simp only [vd]; done) | (simp only [vd]; omega)) only [vs, reduceIte, Nat.reduceEqDiff, Value.cells]
 refine WF.d1 1 rfl (WF.done ?_)
 try simp (disch := first | omega | (simp only [vd]; done) | (simp only [vd]; omega)) only [vs, reduceIte, Nat.reduceEqDiff, next_push, next_skip]
 have hle : h.le (h.skip.push ⟨58, 0, [.bool false, .slice none 0 0, .bool false, .slice none 0 0]⟩) := (VH.le_skip _).trans (VH.le_push _ _)
 have hR : (h.skip.push ⟨58, 0, [.bool false, .slice none 0 0, .bool false, .slice none 0 0]⟩).blk (h.next + 1) = some ⟨58, 0, [.bool false, .slice none 0 0, .bool false, .slice none 0 0]⟩ := blk_push
 have hn : h.next + 1 < (h.skip.push ⟨58, 0, [.bool false, .slice none 0 0, .bool false, .slice none 0 0]⟩).next := Nat.lt_succ_self _
 have hhr : h.next ≤ h.next + 1 := by omega
 generalize h.skip.push ⟨58, 0, [.bool false, .slice none 0 0, .bool false, .slice none 0 0]⟩ = H at *
 generalize h.next + 1 = r at *
 refine W.rseq ?_
 simp (disch := first | omega | (simp only [vd]; done) | (simp only [vd]; omega)) only [vs, reduceIte, Nat.reduceEqDiff]
 refine rNew_ok x.1 x.2 hx.1 hx.2 (fun h0 h1 hx1 => ?_) (fun h0 h1 hx1 => ?_)
 ·rw [qz_qc _ _ h0]
  simp (disch := first | omega | (simp only [vd]; done) | (simp only [vd]; omega)) only [vs, reduceIte, Nat.reduceEqDiff, extV, Value.cells]
  have hcG : Cell (h1.push ⟨58, 0, [.bool (qc ((iz x.1 : Rat) / (iz x.2 : Rat))).1.1, u32S (qc ((iz x.1 : Rat) / (iz x.2 : Rat))).1.2, .bool (qc ((iz x.1 : Rat) / (iz x.2 : Rat))).2.1, u32S (qc ((iz x.1 : Rat) / (iz x.2 : Rat))).2.2]⟩) h1.next 58 [.bool (qc ((iz x.1 : Rat) / (iz x.2 : Rat))).1.1, u32S (qc ((iz x.1 : Rat) / (iz x.2 : Rat))).1.2, .bool (qc ((iz x.1 : Rat) / (iz x.2 : Rat))).2.1, u32S (qc ((iz x.1 : Rat) / (iz x.2 : Rat))).2.2] := Cell.new
  have hlG := VH.le_push h1 ⟨58, 0, [.bool (qc ((iz x.1 : Rat) / (iz x.2 : Rat))).1.1, u32S (qc ((iz x.1 : Rat) / (iz x.2 : Rat))).1.2, .bool (qc ((iz x.1 : Rat) / (iz x.2 : Rat))).2.1, u32S (qc ((iz x.1 : Rat) / (iz x.2 : Rat))).2.2]⟩
  have hnG := next_push (h := h1) (B := ⟨58, 0, [.bool (qc ((iz x.1 : Rat) / (iz x.2 : Rat))).1.1, u32S (qc ((iz x.1 : Rat) / (iz x.2 : Rat))).1.2, .bool (qc ((iz x.1 : Rat) / (iz x.2 : Rat))).2.1, u32S (qc ((iz x.1 : Rat) / (iz x.2 : Rat))).2.2]⟩)
  generalize h1.push ⟨58, 0, [.bool (qc ((iz x.1 : Rat) / (iz x.2 : Rat))).1.1, u32S (qc ((iz x.1 : Rat) / (iz x.2 : Rat))).1.2, .bool (qc ((iz x.1 : Rat) / (iz x.2 : Rat))).2.1, u32S (qc ((iz x.1 : Rat) / (iz x.2 : Rat))).2.2]⟩ = G at *
  refine W.seq (W.rseq ?_)
  simp (disch := first | omega | (simp only [vd]; done) | (simp only [vd]; omega)) only [vs, reduceIte, Nat.reduceEqDiff, Bool.not_true]
  refine W.cond false (by rfl) nofun (fun _ => ?_)
  refine W.skip ?_
  simp (disch := first | omega | (simp only [vd]; done) | (simp only [vd]; omega)) only [vs, reduceIte, Nat.reduceEqDiff]
  obtain ⟨h4, k1, k2, k2', k3, k4⟩ := fin_r (x := qc (qv x)) hle hR hn hhr (hx1.trans hlG)
  change wrN 0 G r 0 [.bool (qc ((iz x.1 : Rat) / (iz x.2 : Rat))).1.1, u32S (qc ((iz x.1 : Rat) / (iz x.2 : Rat))).1.2, .bool (qc ((iz x.1 : Rat) / (iz x.2 : Rat))).2.1, u32S (qc ((iz x.1 : Rat) / (iz x.2 : Rat))).2.2] = some h4 at k1
  refine W.rseq ?_
  simp (disch := first | omega | (simp only [vd]; done) | (simp only [vd]; omega)) only [vs, reduceIte, Nat.reduceEqDiff, cl4 hcG, k1]
  refine W.ret ⟨.inr rfl, _, _, _, .refl _ _, ress_c rfl ?_, hq _ k4⟩
  simp (disch := first | omega | (simp only [vd]; done) | (simp only [vd]; omega)) only [vs, reduceIte, Nat.reduceEqDiff, k3]
 ·simp (disch := first | omega | (simp only [vd]; done) | (simp only [vd]; omega)) only [vs, reduceIte, Nat.reduceEqDiff, extV, Value.cells]
  have hcG : Cell (h1.push ⟨58, 0, [.bool rraw0.1.1, u32S rraw0.1.2, .bool rraw0.2.1, u32S rraw0.2.2]⟩) h1.next 58 [.bool rraw0.1.1, u32S rraw0.1.2, .bool rraw0.2.1, u32S rraw0.2.2] := Cell.new
  have hlG := VH.le_push h1 ⟨58, 0, [.bool rraw0.1.1, u32S rraw0.1.2, .bool rraw0.2.1, u32S rraw0.2.2]⟩
  have hnG := next_push (h := h1) (B := ⟨58, 0, [.bool rraw0.1.1, u32S rraw0.1.2, .bool rraw0.2.1, u32S rraw0.2.2]⟩)
  generalize h1.push ⟨58, 0, [.bool rraw0.1.1, u32S rraw0.1.2, .bool rraw0.2.1, u32S rraw0.2.2]⟩ = G at *
  refine W.seq (W.rseq ?_)
  simp (disch := first | omega | (simp only [vd]; done) | (simp only [vd]; omega)) only [vs, reduceIte, Nat.reduceEqDiff, Bool.not_false]
  refine W.cond true (by rfl) (fun _ => ?_) nofun
  refine W.rseq ?_
  simp (disch := first | omega | (simp only [vd]; done) | (simp only [vd]; omega)) only [vs, reduceIte, Nat.reduceEqDiff]
  refine rQSmall_ok 0 (by decide) (by decide) fun h2 hx2 => ?_
  have hv : qv x = ((0 : Int) : Rat) := by
   unfold qv
   rw [h0, ← Rat.divInt_eq_div, Rat.divInt_zero]
   rfl
  obtain ⟨h4, k1, k2, k2', k3, k4⟩ := fin_r (x := qc ((0 : Int) : Rat)) hle hR hn hhr (hx1.trans (hlG.trans hx2))
  simp (disch := first | omega | (simp only [vd]; done) | (simp only [vd]; omega)) only [vs, reduceIte, Nat.reduceEqDiff, k1]
  rw [hv] at hq
  refine W.ret ⟨.inr rfl, _, _, _, .refl _ _, ress_c rfl ?_, hq _ k4⟩
  simp (disch := first | omega | (simp only [vd]; done) | (simp only [vd]; omega)) only [vs, reduceIte, Nat.reduceEqDiff, k3]
theorem wr_pp4 {b ty sz : Nat} {x0 x1 x2 x3 y0 y1 y2 y3 : Value} {B : Blk} (hb : b = h.next) : wrN 0 ((h.push ⟨ty, sz, [x0, x1, x2, x3]⟩).push B) b 0 [y0, y1, y2, y3] = some ((h.push ⟨ty, sz, [y0, y1, y2, y3]⟩).push B) := by
 have hne : b ≠ (h.push ⟨ty, sz, [x0, x1, x2, x3]⟩).next := by rw [next_push]; omega
 rw [wr_s4 (by rw [blk_push_ne hne, blk_push' hb]), set_push_ne hne, set_push' hb]
theorem rQAdd_ok {K : Nat} (p q : Rat) (hp : Sq K p) (hqq : Sq K q) (hK1 : 1 ≤ K) (hK : 2 * K + 1 < 1099511627776) (hq : ∀ h1, h.le h1 → Q (rV (qc (p + q))) h1) : Runs Try.prog cfg 36 [rV (qc p), rV (qc q)] h Q c := by
 have okp := hp.okq (by omega)
 have okqq := hqq.okq (by omega)
 refine Runs.go Try.func36 rfl rfl (.refl _ _) ?_
 refine W.rseqZ ?_
 simp (disch := first | omega | (simp only [vd]; done) | (simp only [vd]; omega)) only [vs, reduceIte, Nat.reduceEqDiff, Value.cells]
 refine WF.d2 2 rfl (WF.d1 3 rfl (WF.done ?_))
 try simp (disch := first | omega | (simp only [vd]; done) | (simp only [vd]; omega)) only [vs, reduceIte, Nat.reduceEqDiff, next_push, next_skip]
 have hle : h.le (h.skip.skip.push ⟨58, 0, [.bool false, .slice none 0 0, .bool false, .slice none 0 0]⟩) := (VH.le_skip _).trans ((VH.le_skip _).trans (VH.le_push _ _))
 have hR : (h.skip.skip.push ⟨58, 0, [.bool false, .slice none 0 0, .bool false, .slice none 0 0]⟩).blk (h.next + 1 + 1) = some ⟨58, 0, [.bool false, .slice none 0 0, .bool false, .slice none 0 0]⟩ := blk_push
 have hn : h.next + 1 + 1 < (h.skip.skip.push ⟨58, 0, [.bool false, .slice none 0 0, .bool false, .slice none 0 0]⟩).next := Nat.lt_succ_self _
 have hhr : h.next ≤ h.next + 1 + 1 := by omega
 generalize h.skip.skip.push ⟨58, 0, [.bool false, .slice none 0 0, .bool false, .slice none 0 0]⟩ = H at *
 generalize h.next + 1 + 1 = r at *
 refine W.dseqL (fun _ => True) [false, true, false, true, false, false, false, false] (by rfl) ?_
 simp (disch := first | omega | (simp only [vd]; done) | (simp only [vd]; omega)) only [vs, reduceIte, Nat.reduceEqDiff]
 refine rQNormalize_ok (qc p) okp fun h1 hx1 => ?_
 rw [qc_qv]
 simp (disch := first | omega | (simp only [vd]; done) | (simp only [vd]; omega)) only [vs, reduceIte, Nat.reduceEqDiff, gr_le hx1, gr0_le hx1]
 refine rQNormalize_ok (qc q) okqq fun h2 hx2 => ?_
 rw [qc_qv]
 simp (disch := first | omega | (simp only [vd]; done) | (simp only [vd]; omega)) only [vs, reduceIte, Nat.reduceEqDiff, gr_le hx2, gr0_le hx2, Value.cells, wr_pp4]
 refine ⟨gr0_pp, gr0_p1, ?_⟩
 have hcG5 : Cell (h2.push ⟨58, 0, [.bool (qc p).1.1, u32S (qc p).1.2, .bool (qc p).2.1, u32S (qc p).2.2]⟩) h2.next 58 [.bool (qc p).1.1, u32S (qc p).1.2, .bool (qc p).2.1, u32S (qc p).2.2] := Cell.new
 have hlG5 := VH.le_push h2 ⟨58, 0, [.bool (qc p).1.1, u32S (qc p).1.2, .bool (qc p).2.1, u32S (qc p).2.2]⟩
 have hnG5 := next_push (h := h2) (B := ⟨58, 0, [.bool (qc p).1.1, u32S (qc p).1.2, .bool (qc p).2.1, u32S (qc p).2.2]⟩)
 generalize h2.push ⟨58, 0, [.bool (qc p).1.1, u32S (qc p).1.2, .bool (qc p).2.1, u32S (qc p).2.2]⟩ = G5 at *
 have hcG6 : Cell (G5.push ⟨58, 0, [.bool (qc q).1.1, u32S (qc q).1.2, .bool (qc q).2.1, u32S (qc q).2.2]⟩) G5.next 58 [.bool (qc q).1.1, u32S (qc q).1.2, .bool (qc q).2.1, u32S (qc q).2.2] := Cell.new
 have hlG6 := VH.le_push G5 ⟨58, 0, [.bool (qc q).1.1, u32S (qc q).1.2, .bool (qc q).2.1, u32S (qc q).2.2]⟩
 have hnG6 := next_push (h := G5) (B := ⟨58, 0, [.bool (qc q).1.1, u32S (qc q).1.2, .bool (qc q).2.1, u32S (qc q).2.2]⟩)
 generalize G5.push ⟨58, 0, [.bool (qc q).1.1, u32S (qc q).1.2, .bool (qc q).2.1, u32S (qc q).2.2]⟩ = G6 at *
 have hc5 := hcG5.mono hlG6
 rw [hnG5] at hcG6
 refine W.gen [4, 5, 6] (fun e he => ?_)
 simp only [List.forall_mem_cons, List.not_mem_nil, false_implies, implies_true, and_true, e0_zero, e0_succ, put_some, put_none, reduceIte, Nat.reduceEqDiff, next_push] at he
 obtain ⟨e4, e5, e6⟩ := he
 refine W.dseqL (fun _ => True) [false, false, false, false, true, false, false, false, false, true, true, false, false, false, false, true, true, false, false, false, false, false, false] (by rfl) ?_
 simp (disch := first | omega | (simp only [vd]; done) | (simp only [vd]; omega)) only [vs, reduceIte, Nat.reduceEqDiff, e5, e6, clA hc5, clB hcG6]
 have kp1 := okp.1
 have kp2 := okp.2
 have kq1 := okqq.1
 have kq2 := okqq.2
 refine rMul_r (qc p).1 (qc q).2 kp1 kq2 fun h3 hx3 => ?_
 have c53 := hc5.mono hx3
 have c63 := hcG6.mono hx3
 simp (disch := first | omega | (simp only [vd]; done) | (simp only [vd]; omega)) only [vs, reduceIte, Nat.reduceEqDiff, gr_le hx3, gr0_le hx3, e5, e6, clB c53, clA c63]
 refine rMul_r (qc q).1 (qc p).2 kq1 kp2 fun h4 hx4 => ?_
 have z1 : iz (qc p).1 = p.num := iz_cz _
 have z2 : iz (qc p).2 = (p.den : Int) := iz_cz _
 have z3 : iz (qc q).1 = q.num := iz_cz _
 have z4 : iz (qc q).2 = (q.den : Int) := iz_cz _
 rw [z1, z2, z3, z4]
 have s1 := hp.1.mul hqq.2
 have s2 := hqq.1.mul hp.2
 have s3 := hp.2.mul hqq.2
 simp (disch := first | omega | (simp only [vd]; done) | (simp only [vd]; omega)) only [vs, reduceIte, Nat.reduceEqDiff, gr_le hx4, gr0_le hx4]
 refine rAdd_r (cz _) (cz _) (Okr.cz s1 (by omega)) (Okr.cz s2 (by omega)) fun h5 hx5 => ?_
 rw [iz_cz, iz_cz]
 have c55 := c53.mono (hx4.trans hx5)
 have c65 := c63.mono (hx4.trans hx5)
 simp (disch := first | omega | (simp only [vd]; done) | (simp only [vd]; omega)) only [vs, reduceIte, Nat.reduceEqDiff, gr_le hx5, gr0_le hx5, e5, e6, clB c55, clB c65]
 refine rMul_r (qc p).2 (qc q).2 kp2 kq2 fun h6 hx6 => ?_
 rw [z2, z4]
 simp (disch := first | omega | (simp only [vd]; done) | (simp only [vd]; omega)) only [vs, reduceIte, Nat.reduceEqDiff, gr_le hx6, gr0_le hx6]
 have hd0 : (p.den : Int) * (q.den : Int) ≠ 0 := Int.mul_ne_zero (by have := p.den_nz; omega) (by have := q.den_nz; omega)
 refine rNew_ok (cz _) (cz _) (Okr.cz (s1.add (s2.mono (by omega))) (by omega)) (Okr.cz s3 (by omega)) (fun h0 h7 hx7 => ?_) (fun h0 => by rw [iz_cz] at h0; exact absurd h0 hd0)
 rw [iz_cz, iz_cz, qz_qc _ _ hd0, ← q_add]
 simp (disch := first | omega | (simp only [vd]; done) | (simp only [vd]; omega)) only [vs, reduceIte, Nat.reduceEqDiff, gr_le hx7, gr0_le hx7, extV, Value.cells]
 refine ⟨gr0_p1, ?_⟩
 have hcG8 : Cell (h7.push ⟨58, 0, [.bool (qc (p + q)).1.1, u32S (qc (p + q)).1.2, .bool (qc (p + q)).2.1, u32S (qc (p + q)).2.2]⟩) h7.next 58 [.bool (qc (p + q)).1.1, u32S (qc (p + q)).1.2, .bool (qc (p + q)).2.1, u32S (qc (p + q)).2.2] := Cell.new
 have hlG8 := VH.le_push h7 ⟨58, 0, [.bool (qc (p + q)).1.1, u32S (qc (p + q)).1.2, .bool (qc (p + q)).2.1, u32S (qc (p + q)).2.2]⟩
 have hnG8 := next_push (h := h7) (B := ⟨58, 0, [.bool (qc (p + q)).1.1, u32S (qc (p + q)).1.2, .bool (qc (p + q)).2.1, u32S (qc (p + q)).2.2]⟩)
 generalize h7.push ⟨58, 0, [.bool (qc (p + q)).1.1, u32S (qc (p + q)).1.2, .bool (qc (p + q)).2.1, u32S (qc (p + q)).2.2]⟩ = G8 at *
 have hx27 : h2.le h7 := hlG5.trans (hlG6.trans (hx3.trans (hx4.trans (hx5.trans (hx6.trans hx7)))))
 obtain ⟨h8, k1, k2, k2', k3, k4⟩ := fin_r (x := qc (p + q)) hle hR hn hhr (hx1.trans (hx2.trans (hx27.trans hlG8)))
 refine W.gen [4, 7] (fun e he => ?_)
 simp only [List.forall_mem_cons, List.not_mem_nil, false_implies, implies_true, and_true, e0_zero, e0_succ, put_some, put_none, reduceIte, Nat.reduceEqDiff, e4] at he
 obtain ⟨e4, e7⟩ := he
 refine W.rseq ?_
 simp (disch := first | omega | (simp only [vd]; done) | (simp only [vd]; omega)) only [vs, reduceIte, Nat.reduceEqDiff, e4, e7, cl4 hcG8, k1]
 refine W.ret ⟨.inr rfl, _, _, _, .refl _ _, ress_c rfl ?_, hq _ k4⟩
 simp (disch := first | omega | (simp only [vd]; done) | (simp only [vd]; omega)) only [vs, reduceIte, Nat.reduceEqDiff, e4, k3]
theorem rQMul_ok {K : Nat} (p q : Rat) (hp : Sq K p) (hqq : Sq K q) (hK1 : 1 ≤ K) (hK : 2 * K < 1099511627776) (hq : ∀ h1, h.le h1 → Q (rV (qc (p * q))) h1) : Runs Try.prog cfg 37 [rV (qc p), rV (qc q)] h Q c := by
 have okp := hp.okq (by omega)
 have okqq := hqq.okq (by omega)
 refine Runs.go Try.func37 rfl rfl (.refl _ _) ?_
 refine W.rseqZ ?_
 simp (disch := first | omega | (simp only [vd]; done) | (simp only [vd]; omega)) only [vs, reduceIte, Nat.reduceEqDiff, Value.cells]
 refine WF.d2 2 rfl (WF.d1 3 rfl (WF.done ?_))
 try simp (disch := first | omega | (simp only [vd]; done) | (simp only [vd]; omega)) only [vs, reduceIte, Nat.reduceEqDiff, next_push, next_skip]
 have hle : h.le (h.skip.skip.push ⟨58, 0, [.bool false, .slice none 0 0, .bool false, .slice none 0 0]⟩) := (VH.le_skip _).trans ((VH.le_skip _).trans (VH.le_push _ _))
 have hR : (h.skip.skip.push ⟨58, 0, [.bool false, .slice none 0 0, .bool false, .slice none 0 0]⟩).blk (h.next + 1 + 1) = some ⟨58, 0, [.bool false, .slice none 0 0, .bool false, .slice none 0 0]⟩ := blk_push
 have hn : h.next + 1 + 1 < (h.skip.skip.push ⟨58, 0, [.bool false, .slice none 0 0, .bool false, .slice none 0 0]⟩).next := Nat.lt_succ_self _
 have hhr : h.next ≤ h.next + 1 + 1 := by omega
 generalize h.skip.skip.push ⟨58, 0, [.bool false, .slice none 0 0, .bool false, .slice none 0 0]⟩ = H at *
 generalize h.next + 1 + 1 = r at *
 refine W.dseqL (fun _ => True) [false, true, false, true, false, false, false, false] (by rfl) ?_
 simp (disch := first | omega | (simp only [vd]; done) | (simp only [vd]; omega)) only [vs, reduceIte, Nat.reduceEqDiff]
 refine rQNormalize_ok (qc p) okp fun h1 hx1 => ?_
 rw [qc_qv]
 simp (disch := first | omega | (simp only [vd]; done) | (simp only [vd]; omega)) only [vs, reduceIte, Nat.reduceEqDiff, gr_le hx1, gr0_le hx1]
 refine rQNormalize_ok (qc q) okqq fun h2 hx2 => ?_
 rw [qc_qv]
 simp (disch := first | omega | (simp only [vd]; done) | (simp only [vd]; omega)) only [vs, reduceIte, Nat.reduceEqDiff, gr_le hx2, gr0_le hx2, Value.cells, wr_pp4]
 refine ⟨gr0_pp, gr0_p1, ?_⟩
 have hcG5 : Cell (h2.push ⟨58, 0, [.bool (qc p).1.1, u32S (qc p).1.2, .bool (qc p).2.1, u32S (qc p).2.2]⟩) h2.next 58 [.bool (qc p).1.1, u32S (qc p).1.2, .bool (qc p).2.1, u32S (qc p).2.2] := Cell.new
 have hlG5 := VH.le_push h2 ⟨58, 0, [.bool (qc p).1.1, u32S (qc p).1.2, .bool (qc p).2.1, u32S (qc p).2.2]⟩
 have hnG5 := next_push (h := h2) (B := ⟨58, 0, [.bool (qc p).1.1, u32S (qc p).1.2, .bool (qc p).2.1, u32S (qc p).2.2]⟩)
 generalize h2.push ⟨58, 0, [.bool (qc p).1.1, u32S (qc p).1.2, .bool (qc p).2.1, u32S (qc p).2.2]⟩ = G5 at *
 have hcG6 : Cell (G5.push ⟨58, 0, [.bool (qc q).1.1, u32S (qc q).1.2, .bool (qc q).2.1, u32S (qc q).2.2]⟩) G5.next 58 [.bool (qc q).1.1, u32S (qc q).1.2, .bool (qc q).2.1, u32S (qc q).2.2] := Cell.new
 have hlG6 := VH.le_push G5 ⟨58, 0, [.bool (qc q).1.1, u32S (qc q).1.2, .bool (qc q).2.1, u32S (qc q).2.2]⟩
 have hnG6 := next_push (h := G5) (B := ⟨58, 0, [.bool (qc q).1.1, u32S (qc q).1.2, .bool (qc q).2.1, u32S (qc q).2.2]⟩)
 generalize G5.push ⟨58, 0, [.bool (qc q).1.1, u32S (qc q).1.2, .bool (qc q).2.1, u32S (qc q).2.2]⟩ = G6 at *
 have hc5 := hcG5.mono hlG6
 rw [hnG5] at hcG6
 refine W.gen [4, 5, 6] (fun e he => ?_)
 simp only [List.forall_mem_cons, List.not_mem_nil, false_implies, implies_true, and_true, e0_zero, e0_succ, put_some, put_none, reduceIte, Nat.reduceEqDiff, next_push] at he
 obtain ⟨e4, e5, e6⟩ := he
 refine W.dseqL (fun _ => True) [false, false, false, false, true, false, false, false, false, true, true, false, false, false, false, false, false] (by rfl) ?_
 simp (disch := first | omega | (simp only [vd]; done) | (simp only [vd]; omega)) only [vs, reduceIte, Nat.reduceEqDiff, e5, e6, clA hc5, clA hcG6]
 have kp1 := okp.1
 have kp2 := okp.2
 have kq1 := okqq.1
 have kq2 := okqq.2
 refine rMul_r (qc p).1 (qc q).1 kp1 kq1 fun h3 hx3 => ?_
 have c53 := hc5.mono hx3
 have c63 := hcG6.mono hx3
 simp (disch := first | omega | (simp only [vd]; done) | (simp only [vd]; omega)) only [vs, reduceIte, Nat.reduceEqDiff, gr_le hx3, gr0_le hx3, e5, e6, clB c53, clB c63]
 refine rMul_r (qc p).2 (qc q).2 kp2 kq2 fun h4 hx4 => ?_
 have z1 : iz (qc p).1 = p.num := iz_cz _
 have z2 : iz (qc p).2 = (p.den : Int) := iz_cz _
 have z3 : iz (qc q).1 = q.num := iz_cz _
 have z4 : iz (qc q).2 = (q.den : Int) := iz_cz _
 rw [z1, z2, z3, z4]
 have s1 := hp.1.mul hqq.1
 have s3 := hp.2.mul hqq.2
 simp (disch := first | omega | (simp only [vd]; done) | (simp only [vd]; omega)) only [vs, reduceIte, Nat.reduceEqDiff, gr_le hx4, gr0_le hx4]
 have hd0 : (p.den : Int) * (q.den : Int) ≠ 0 := Int.mul_ne_zero (by have := p.den_nz; omega) (by have := q.den_nz; omega)
 refine rNew_ok (cz _) (cz _) (Okr.cz s1 (by omega)) (Okr.cz s3 (by omega)) (fun h0 h7 hx7 => ?_) (fun h0 => by rw [iz_cz] at h0; exact absurd h0 hd0)
 rw [iz_cz, iz_cz, qz_qc _ _ hd0, ← q_mul]
 simp (disch := first | omega | (simp only [vd]; done) | (simp only [vd]; omega)) only [vs, reduceIte, Nat.reduceEqDiff, gr_le hx7, gr0_le hx7, extV, Value.cells]
 refine ⟨gr0_p1, ?_⟩
 have hcG8 : Cell (h7.push ⟨58, 0, [.bool (qc (p * q)).1.1, u32S (qc (p * q)).1.2, .bool (qc (p * q)).2.1, u32S (qc (p * q)).2.2]⟩) h7.next 58 [.bool (qc (p * q)).1.1, u32S (qc (p * q)).1.2, .bool (qc (p * q)).2.1, u32S (qc (p * q)).2.2] := Cell.new
 have hlG8 := VH.le_push h7 ⟨58, 0, [.bool (qc (p * q)).1.1, u32S (qc (p * q)).1.2, .bool (qc (p * q)).2.1, u32S (qc (p * q)).2.2]⟩
 have hnG8 := next_push (h := h7) (B := ⟨58, 0, [.bool (qc (p * q)).1.1, u32S (qc (p * q)).1.2, .bool (qc (p * q)).2.1, u32S (qc (p * q)).2.2]⟩)
 generalize h7.push ⟨58, 0, [.bool (qc (p * q)).1.1, u32S (qc (p * q)).1.2, .bool (qc (p * q)).2.1, u32S (qc (p * q)).2.2]⟩ = G8 at *
 have hx27 : h2.le h7 := hlG5.trans (hlG6.trans (hx3.trans (hx4.trans hx7)))
 obtain ⟨h8, k1, k2, k2', k3, k4⟩ := fin_r (x := qc (p * q)) hle hR hn hhr (hx1.trans (hx2.trans (hx27.trans hlG8)))
 refine W.gen [4, 7] (fun e he => ?_)
 simp only [List.forall_mem_cons, List.not_mem_nil, false_implies, implies_true, and_true, e0_zero, e0_succ, put_some, put_none, reduceIte, Nat.reduceEqDiff, e4] at he
 obtain ⟨e4, e7⟩ := he
 refine W.rseq ?_
 simp (disch := first | omega | (simp only [vd]; done) | (simp only [vd]; omega)) only [vs, reduceIte, Nat.reduceEqDiff, e4, e7, cl4 hcG8, k1]
 refine W.ret ⟨.inr rfl, _, _, _, .refl _ _, ress_c rfl ?_, hq _ k4⟩
 simp (disch := first | omega | (simp only [vd]; done) | (simp only [vd]; omega)) only [vs, reduceIte, Nat.reduceEqDiff, e4, k3]
theorem rQNeg_ok {K : Nat} (p : Rat) (hp : Sq K p) (hK : K < 1099511627776) (hq : ∀ h1, h.le h1 → Q (rV (qc (-p))) h1) : Runs Try.prog cfg 107 [rV (qc p)] h Q c := by
 have okp := hp.okq (by omega)
 refine Runs.go Try.func107 rfl rfl (.refl _ _) ?_
 refine W.rseqZ ?_
 simp (disch := first | omega | (simp only [vd]; done) | (simp only [vd]; omega)) only [vs, reduceIte, Nat.reduceEqDiff, Value.cells]
 refine WF.d1 1 rfl (WF.done ?_)
 try simp (disch := first | omega | (simp only [vd]; done) | (simp only [vd]; omega)) only [vs, reduceIte, Nat.reduceEqDiff, next_push, next_skip]
 have hle : h.le (h.skip.push ⟨58, 0, [.bool false, .slice none 0 0, .bool false, .slice none 0 0]⟩) := (VH.le_skip _).trans (VH.le_push _ _)
 have hR : (h.skip.push ⟨58, 0, [.bool false, .slice none 0 0, .bool false, .slice none 0 0]⟩).blk (h.next + 1) = some ⟨58, 0, [.bool false, .slice none 0 0, .bool false, .slice none 0 0]⟩ := blk_push
 have hn : h.next + 1 < (h.skip.push ⟨58, 0, [.bool false, .slice none 0 0, .bool false, .slice none 0 0]⟩).next := Nat.lt_succ_self _
 have hhr : h.next ≤ h.next + 1 := by omega
 generalize h.skip.push ⟨58, 0, [.bool false, .slice none 0 0, .bool false, .slice none 0 0]⟩ = H at *
 generalize h.next + 1 = r at *
 refine W.rseq ?_
 simp (disch := first | omega | (simp only [vd]; done) | (simp only [vd]; omega)) only [vs, reduceIte, Nat.reduceEqDiff]
 refine rQNormalize_ok (qc p) okp fun h1 hx1 => ?_
 rw [qc_qv]
 simp (disch := first | omega | (simp only [vd]; done) | (simp only [vd]; omega)) only [vs, reduceIte, Nat.reduceEqDiff, Value.cells]
 have hcG : Cell (h1.push ⟨58, 0, [.bool (qc p).1.1, u32S (qc p).1.2, .bool (qc p).2.1, u32S (qc p).2.2]⟩) h1.next 58 [.bool (qc p).1.1, u32S (qc p).1.2, .bool (qc p).2.1, u32S (qc p).2.2] := Cell.new
 have hlG := VH.le_push h1 ⟨58, 0, [.bool (qc p).1.1, u32S (qc p).1.2, .bool (qc p).2.1, u32S (qc p).2.2]⟩
 have hnG := next_push (h := h1) (B := ⟨58, 0, [.bool (qc p).1.1, u32S (qc p).1.2, .bool (qc p).2.1, u32S (qc p).2.2]⟩)
 generalize h1.push ⟨58, 0, [.bool (qc p).1.1, u32S (qc p).1.2, .bool (qc p).2.1, u32S (qc p).2.2]⟩ = G at *
 refine W.gen [2, 3] (fun e he => ?_)
 simp only [List.forall_mem_cons, List.not_mem_nil, false_implies, implies_true, and_true, e0_zero, e0_succ, put_some, put_none, reduceIte, Nat.reduceEqDiff] at he
 obtain ⟨e2, e3⟩ := he
 refine W.dseqL (fun _ => True) [false, false, true, false, false, false, false] (by rfl) ?_
 simp (disch := first | omega | (simp only [vd]; done) | (simp only [vd]; omega)) only [vs, reduceIte, Nat.reduceEqDiff, e3, clA hcG]
 refine rNeg_r (qc p).1 okp.1 fun h2 hx2 => ?_
 have c2 := hcG.mono hx2
 have z1 : iz (qc p).1 = p.num := iz_cz _
 rw [z1]
 obtain ⟨h4, k1, k2, k2', k3, k4⟩ := fin_r (x := qc (-p)) hle hR hn hhr (hx1.trans (hlG.trans hx2))
 change wrN 0 h2 r 0 [.bool (cz (-p.num)).1, u32S (cz (-p.num)).2, .bool (qc p).2.1, u32S (qc p).2.2] = some h4 at k1
 simp (disch := first | omega | (simp only [vd]; done) | (simp only [vd]; omega)) only [vs, reduceIte, Nat.reduceEqDiff, gr_le hx2, gr0_le hx2, e2, e3, clB c2, k1]
 refine ⟨k2, W.ret ⟨.inr rfl, _, _, _, .refl _ _, ress_c rfl ?_, hq _ k4⟩⟩
 simp (disch := first | omega | (simp only [vd]; done) | (simp only [vd]; omega)) only [vs, reduceIte, Nat.reduceEqDiff, e2, k3]
theorem rQSub_ok {K : Nat} (p q : Rat) (hp : Sq K p) (hqq : Sq K q) (hK1 : 1 ≤ K) (hK : 2 * K + 1 < 1099511627776) (hq : ∀ h1, h.le h1 → Q (rV (qc (p - q))) h1) : Runs Try.prog cfg 78 [rV (qc p), rV (qc q)] h Q c := by
 refine Runs.go Try.func78 rfl rfl (.refl _ _) ?_
 refine W.rseqZ ?_
 simp (disch := first | omega | (simp only [vd]; done) | (simp only [vd]; omega)) only [vs, reduceIte, Nat.reduceEqDiff, Value.cells]
 refine WF.d2 2 rfl (WF.d1 3 rfl (WF.done ?_))
 try simp (disch := first | omega | (simp only [vd]; done) | (simp only [vd]; omega)) only [vs, reduceIte, Nat.reduceEqDiff, next_push, next_skip]
 have hle : h.le (h.skip.skip.push ⟨58, 0, [.bool false, .slice none 0 0, .bool false, .slice none 0 0]⟩) := (VH.le_skip _).trans ((VH.le_skip _).trans (VH.le_push _ _))
 have hR : (h.skip.skip.push ⟨58, 0, [.bool false, .slice none 0 0, .bool false, .slice none 0 0]⟩).blk (h.next + 1 + 1) = some ⟨58, 0, [.bool false, .slice none 0 0, .bool false, .slice none 0 0]⟩ := blk_push
 have hn : h.next + 1 + 1 < (h.skip.skip.push ⟨58, 0, [.bool false, .slice none 0 0, .bool false, .slice none 0 0]⟩).next := Nat.lt_succ_self _
 have hhr : h.next ≤ h.next + 1 + 1 := by omega
 generalize h.skip.skip.push ⟨58, 0, [.bool false, .slice none 0 0, .bool false, .slice none 0 0]⟩ = H at *
 generalize h.next + 1 + 1 = r at *
 refine W.dseqL (fun _ => True) [false, false, true, false, false] (by rfl) ?_
 simp (disch := first | omega | (simp only [vd]; done) | (simp only [vd]; omega)) only [vs, reduceIte, Nat.reduceEqDiff]
 refine rQNeg_ok q hqq (by omega) fun h1 hx1 => ?_
 simp (disch := first | omega | (simp only [vd]; done) | (simp only [vd]; omega)) only [vs, reduceIte, Nat.reduceEqDiff, gr_le hx1, gr0_le hx1]
 refine rQAdd_ok p (-q) hp hqq.neg hK1 hK fun h2 hx2 => ?_
 rw [← Rat.sub_eq_add_neg]
 obtain ⟨h4, k1, k2, k2', k3, k4⟩ := fin_r (x := qc (p - q)) hle hR hn hhr (hx1.trans hx2)
 simp (disch := first | omega | (simp only [vd]; done) | (simp only [vd]; omega)) only [vs, reduceIte, Nat.reduceEqDiff, gr_le hx2, gr0_le hx2, k1]
 refine ⟨k2, W.ret ⟨.inr rfl, _, _, _, .refl _ _, ress_c rfl ?_, hq _ k4⟩⟩
 simp (disch := first | omega | (simp only [vd]; done) | (simp only [vd]; omega)) only [vs, reduceIte, Nat.reduceEqDiff, k3]
theorem rQSign_ok {K : Nat} (p : Rat) (hp : Sq K p) (hK : K < 1099511627776) (hq : ∀ h1, h.le h1 → Q (.int .i64 p.num.sign) h1) : Runs Try.prog cfg 77 [rV (qc p)] h Q c := by
 have okp := hp.okq (by omega)
 refine Runs.go Try.func77 rfl rfl (.refl _ _) ?_
 refine W.rseqZ ?_
 simp (disch := first | omega | (simp only [vd]; done) | (simp only [vd]; omega)) only [vs, reduceIte, Nat.reduceEqDiff, Value.cells]
 refine WF.d0 1 rfl (WF.done ?_)
 simp (disch := first | omega | (simp only [vd]; done) | (simp only [vd]; omega)) only [vs, reduceIte, Nat.reduceEqDiff]
 refine W.rseq ?_
 simp (disch := first | omega | (simp only [vd]; done) | (simp only [vd]; omega)) only [vs, reduceIte, Nat.reduceEqDiff]
 refine rQNormalize_ok (qc p) okp fun h1 hx1 => ?_
 rw [qc_qv]
 simp (disch := first | omega | (simp only [vd]; done) | (simp only [vd]; omega)) only [vs, reduceIte, Nat.reduceEqDiff, extV]
 refine rSign_r (qc p).1 okp.1 fun h2 hx2 => ?_
 have z1 : iz (qc p).1 = p.num := iz_cz _
 rw [z1]
 simp (disch := first | omega | (simp only [vd]; done) | (simp only [vd]; omega)) only [vs, reduceIte, Nat.reduceEqDiff]
 exact W.ret ⟨.inr rfl, _, _, _, .refl _ _, ress_t rfl, hq _ ((VH.le_skip h).trans (hx1.trans hx2))⟩
theorem rQCmp_ok {K : Nat} (p q : Rat) (hp : Sq K p) (hqq : Sq K q) (hK1 : 1 ≤ K) (hK : 2 * K + 1 < 1099511627776) (hq : ∀ h1, h.le h1 → Q (.int .i64 (p - q).num.sign) h1) : Runs Try.prog cfg 39 [rV (qc p), rV (qc q)] h Q c := by
 have hd : Sq (2 * K + 1) (p - q) := by rw [Rat.sub_eq_add_neg]; exact hp.add hqq.neg hK1
 refine Runs.go Try.func39 rfl rfl (.refl _ _) ?_
 refine W.rseqZ ?_
 simp (disch := first | omega | (simp only [vd]; done) | (simp only [vd]; omega)) only [vs, reduceIte, Nat.reduceEqDiff, Value.cells]
 refine WF.d1 2 rfl (WF.d0 3 rfl (WF.done ?_))
 simp (disch := first | omega | (simp only [vd]; done) | (simp only [vd]; omega)) only [vs, reduceIte, Nat.reduceEqDiff]
 refine W.rseq ?_
 simp (disch := first | omega | (simp only [vd]; done) | (simp only [vd]; omega)) only [vs, reduceIte, Nat.reduceEqDiff]
 refine rQSub_ok p q hp hqq hK1 hK fun h1 hx1 => ?_
 simp (disch := first | omega | (simp only [vd]; done) | (simp only [vd]; omega)) only [vs, reduceIte, Nat.reduceEqDiff]
 refine rQSign_ok (p - q) hd hK fun h2 hx2 => ?_
 simp (disch := first | omega | (simp only [vd]; done) | (simp only [vd]; omega)) only [vs, reduceIte, Nat.reduceEqDiff]
 exact W.ret ⟨.inr rfl, _, _, _, .refl _ _, ress_t rfl, hq _ (((VH.le_skip h).trans (VH.le_skip _)).trans (hx1.trans hx2))⟩
theorem rQuotient_ok (x y : Raw) (hx : Okr x) (hy : Okr y) (hq : ∀ h1, h.le h1 → Q (rV (qc ((iz x : Rat) / (iz y : Rat)))) h1) : Runs Try.prog cfg 50 [iV x, iV y] h Q c := by
 refine Runs.go Try.func50 rfl rfl (.refl _ _) ?_
 refine W.rseqZ ?_
 simp (disch := first | omega | (simp only [vd]; done) | (simp only [vd]; omega)) only [vs, reduceIte, Nat.reduceEqDiff, Value.cells]
 refine WF.d2 2 rfl (WF.d1 3 rfl (WF.done ?_))
 try simp (disch := first | omega | (simp only [vd]; done) | (simp only [vd]; omega)) only [vs, reduceIte, Nat.reduceEqDiff, next_push, next_skip]
 have hle : h.le (h.skip.skip.push ⟨58, 0, [.bool false, .slice none 0 0, .bool false, .slice none 0 0]⟩) := (VH.le_skip _).trans ((VH.le_skip _).trans (VH.le_push _ _))
 have hR : (h.skip.skip.push ⟨58, 0, [.bool false, .slice none 0 0, .bool false, .slice none 0 0]⟩).blk (h.next + 1 + 1) = some ⟨58, 0, [.bool false, .slice none 0 0, .bool false, .slice none 0 0]⟩ := blk_push
 have hn : h.next + 1 + 1 < (h.skip.skip.push ⟨58, 0, [.bool false, .slice none 0 0, .bool false, .slice none 0 0]⟩).next := Nat.lt_succ_self _
 have hhr : h.next ≤ h.next + 1 + 1 := by omega
 generalize h.skip.skip.push ⟨58, 0, [.bool false, .slice none 0 0, .bool false, .slice none 0 0]⟩ = H at *
 generalize h.next + 1 + 1 = r at *
 refine W.rseq ?_
 simp (disch := first | omega | (simp only [vd]; done) | (simp only [vd]; omega)) only [vs, reduceIte, Nat.reduceEqDiff]
 refine rQNormalize_ok (x, y) ⟨hx, hy⟩ fun h1 hx1 => ?_
 obtain ⟨h4, k1, k2, k2', k3, k4⟩ := fin_r (x := qc (qv (x, y))) hle hR hn hhr hx1
 simp (disch := first | omega | (simp only [vd]; done) | (simp only [vd]; omega)) only [vs, reduceIte, Nat.reduceEqDiff, k1]
 refine W.ret ⟨.inr rfl, _, _, _, .refl _ _, ress_c rfl ?_, hq _ k4⟩
 simp (disch := first | omega | (simp only [vd]; done) | (simp only [vd]; omega)) only [vs, reduceIte, Nat.reduceEqDiff, k3]
 rfl
end Go.Proofs.Ytjpknabdmmkobaa
end

section
namespace Go.Dt
def upc (A : Rm) (c : Nat) (v : Nat → Rat) : Rm := fun i j => if j = c then v i else A i j
theorem mnr_upc0 (A : Rm) (i : Nat) (v : Nat → Rat) : mnr (upc A 0 v) i = mnr A i := by
 funext a b
 unfold mnr upc
 rw [if_neg (by omega)]
theorem mnr_upc (A : Rm) (c i : Nat) (v : Nat → Rat) : mnr (upc A (c + 1) v) i = upc (mnr A i) c (fun a => v (if a < i then a else a + 1)) := by
 funext a b
 unfold mnr upc
 simp only [Nat.add_right_cancel_iff]
theorem C_lin (t : Rat) : ∀ {n c : Nat} {A : Rm} (u v : Nat → Rat), c < n → D n (upc A c (fun i => u i + t * v i)) = D n (upc A c u) + t * D n (upc A c v)
 | 0, c, A, u, v, h => absurd h (Nat.not_lt_zero _)
 | n + 1, 0, A, u, v, h => by
  rw [D_succ, D_succ, D_succ, ← sm_mul, ← sm_add]
  refine sm_congr (fun i hi => ?_)
  rw [mnr_upc0, mnr_upc0, mnr_upc0]
  simp only [upc, if_true]
  grind
 | n + 1, c + 1, A, u, v, h => by
  rw [D_succ, D_succ, D_succ, ← sm_mul, ← sm_add]
  refine sm_congr (fun i hi => ?_)
  rw [mnr_upc, mnr_upc, mnr_upc, C_lin t _ _ (by omega)]
  simp only [upc]
  rw [if_neg (by omega)]
  grind
theorem C_zero : ∀ {n c : Nat} {A : Rm}, c < n → (∀ i, i < n → A i c = 0) → D n A = 0
 | 0, c, A, h, _ => absurd h (Nat.not_lt_zero _)
 | n + 1, 0, A, h, h2 => D_col0 h2
 | n + 1, c + 1, A, h, h2 => by
  rw [D_succ]
  refine sm_zero (fun i hi => ?_)
  rw [C_zero (c := c) (by omega) (fun a ha => h2 _ (by split <;> omega))]
  grind
theorem piv_ind {n : Nat} {P : Rm → Prop} (A : Rm) (h0 : (∀ i, i < n + 1 → A i 0 = 0) → P A) (h1 : ∀ B : Rm, B 0 0 ≠ 0 → (B = A ∨ ∃ p, 0 < p ∧ p < n + 1 ∧ B = sw A p 0) → P B) (h2 : ∀ p, 0 < p → p < n + 1 → P (sw A p 0) → P A) : P A := by
 rcases piv_cases (n + 1) A with h | ⟨p, hp, hpa⟩
 ·exact h0 h
 ·rcases Nat.eq_zero_or_pos p with rfl | hp0
  ·exact h1 A hpa (.inl rfl)
  ·refine h2 p hp0 hp (h1 _ ?_ (.inr ⟨p, hp0, hp, rfl⟩))
   unfold sw
   rw [if_neg (by omega), if_pos rfl]
   exact hpa
theorem C_eq : ∀ {n c d : Nat} {A : Rm}, c < d → d < n → (∀ i, i < n → A i c = A i d) → D n A = 0
 | 0, c, d, A, _, h, _ => absurd h (Nat.not_lt_zero _)
 | n + 1, c + 1, d, A, hcd, h, h2 => by
  rw [D_succ]
  refine sm_zero (fun i hi => ?_)
  rw [C_eq (c := c) (d := d - 1) (by omega) (by omega) (fun a ha => ?_)]
  ·grind
  ·unfold mnr
   rw [show d - 1 + 1 = d by omega]
   exact h2 _ (by split <;> omega)
 | n + 1, 0, d, A, hcd, h, h2 => by
  obtain ⟨e, rfl⟩ : ∃ e, d = e + 1 := ⟨d - 1, by omega⟩
  have key : ∀ B : Rm, B 0 0 ≠ 0 → (∀ i, i < n + 1 → B i 0 = B i (e + 1)) → D (n + 1) B = 0 := by
   intro B hB hB2
   rw [D_sch hB, C_zero (c := e) (by omega) (fun i hi => ?_)]
   ·grind
   ·unfold sch
    rw [← hB2 0 (by omega), ← hB2 (i + 1) (by omega)]
    grind
  refine piv_ind (n := n) (P := fun B => D (n + 1) B = 0) A D_col0 (fun B hB hA => key B hB ?_) (fun p hp hp2 hs => ?_)
  ·rcases hA with rfl | ⟨p, hp, hp2, rfl⟩
   ·exact h2
   ·intro i hi
    unfold sw
    exact h2 _ (by split <;> (try split) <;> omega)
  ·have := D_sw (A := A) (n := n + 1) hp2 (Nat.succ_pos n) (by omega)
   grind
theorem upc_self (A : Rm) (c : Nat) : upc A c (fun i => A i c) = A := by
 funext a b
 unfold upc
 split
 ·rename_i h; rw [h]
 ·rfl
theorem C_sum {n c : Nat} {A : Rm} (x : Nat → Rat) (hc : c < n) : ∀ m, D n (upc A c (fun i => sm m (fun j => A i j * x j))) = sm m (fun j => x j * D n (upc A c (fun i => A i j)))
 | 0 => C_zero hc (fun i _ => by unfold upc; rw [if_pos rfl]; rfl)
 | m + 1 => by
  rw [sm, ← C_sum x hc m, ← C_lin (x m) _ _ hc]
  refine D_congr (fun i j _ _ => ?_)
  unfold upc
  split
  ·show sm m (fun j => A i j * x j) + A i m * x m = sm m (fun j => A i j * x j) + x m * A i m
   grind
  ·rfl
theorem cramer {n c : Nat} {A : Rm} {b x : Nat → Rat} (hc : c < n) (h : ∀ i, i < n → sm n (fun j => A i j * x j) = b i) : D n (upc A c b) = x c * D n A := by
 have h1 : D n (upc A c b) = D n (upc A c (fun i => sm n (fun j => A i j * x j))) := D_congr (fun i j hi _ => by
  unfold upc
  split
  ·exact (h i hi).symm
  ·rfl)
 rw [h1, C_sum x hc n, sm_one hc]
 ·rw [upc_self]
 ·intro j hj hjc
  have : D n (upc A c fun i => A i j) = 0 := by
   rcases Nat.lt_or_gt_of_ne hjc with h2 | h2
   ·exact C_eq h2 hc (fun i _ => by unfold upc; rw [if_neg hjc, if_pos rfl])
   ·exact C_eq h2 hj (fun i _ => by unfold upc; rw [if_pos rfl, if_neg hjc])
  rw [this]; grind
def cns (x0 : Rat) (x : Nat → Rat) : Nat → Rat
 | 0 => x0
 | k + 1 => x k
theorem sm_cns {n : Nat} (f : Nat → Rat) (x0 : Rat) (x : Nat → Rat) : sm (n + 1) (fun j => f j * cns x0 x j) = f 0 * x0 + sm n (fun j => f (j + 1) * x j) := sm_succ _ _
theorem sm_sch {n i : Nat} {A : Rm} (x : Nat → Rat) : sm n (fun j => sch A i j * x j) = sm n (fun j => A (i + 1) (j + 1) * x j) - A (i + 1) 0 / A 0 0 * sm n (fun j => A 0 (j + 1) * x j) := by
 have h1 : sm n (fun j => sch A i j * x j) = sm n (fun j => A (i + 1) (j + 1) * x j + (-(A (i + 1) 0 / A 0 0)) * (A 0 (j + 1) * x j)) := sm_congr (fun j _ => by unfold sch; grind)
 rw [h1, sm_add, sm_mul]
 grind
theorem solve : ∀ {n : Nat} {A : Rm} (b : Nat → Rat), D n A ≠ 0 → ∃ x : Nat → Rat, ∀ i, i < n → sm n (fun j => A i j * x j) = b i
 | 0, A, b, _ => ⟨fun _ => 0, fun i hi => absurd hi (Nat.not_lt_zero _)⟩
 | n + 1, A, b, h => by
  have key : ∀ B : Rm, B 0 0 ≠ 0 → D (n + 1) B ≠ 0 → ∀ b : Nat → Rat, ∃ x : Nat → Rat, ∀ i, i < n + 1 → sm (n + 1) (fun j => B i j * x j) = b i := by
   intro B hB hD b
   rw [D_sch hB] at hD
   obtain ⟨x, hx⟩ := solve (A := sch B) (fun i => b (i + 1) - B (i + 1) 0 / B 0 0 * b 0) (fun h0 => hD (by rw [h0]; grind))
   refine ⟨cns ((b 0 - sm n (fun j => B 0 (j + 1) * x j)) / B 0 0) x, fun i hi => ?_⟩
   rw [sm_cns]
   cases i with
   | zero => grind
   | succ i =>
    have := hx i (by omega)
    rw [sm_sch] at this
    grind
  revert h b
  refine piv_ind (n := n) (P := fun B => ∀ b : Nat → Rat, D (n + 1) B ≠ 0 → ∃ x : Nat → Rat, ∀ i, i < n + 1 → sm (n + 1) (fun j => B i j * x j) = b i) A (fun h0 b hD => absurd (D_col0 h0) hD) (fun B hB _ b hD => key B hB hD b) (fun p hp hp2 hs b hD => ?_)
  obtain ⟨x, hx⟩ := hs (fun i => b (if i = p then 0 else if i = 0 then p else i)) (by rw [D_sw hp2 (Nat.succ_pos n) (by omega)]; grind)
  refine ⟨x, fun i hi => ?_⟩
  have := hx (if i = p then 0 else if i = 0 then p else i) (by split <;> (try split) <;> omega)
  unfold sw at this
  have he : (if (if i = p then 0 else if i = 0 then p else i) = p then 0 else if (if i = p then 0 else if i = 0 then p else i) = 0 then p else (if i = p then 0 else if i = 0 then p else i)) = i := by
   repeat' split
   all_goals omega
  rw [he] at this
  exact this
theorem kern : ∀ {n : Nat} {A : Rm}, 0 < n → D n A = 0 → ∃ x : Nat → Rat, (∃ j, j < n ∧ x j ≠ 0) ∧ ∀ i, i < n → sm n (fun j => A i j * x j) = 0
 | 0, A, h, _ => absurd h (Nat.lt_irrefl _)
 | n + 1, A, h, hD => by
  have key : ∀ B : Rm, B 0 0 ≠ 0 → D (n + 1) B = 0 → ∃ x : Nat → Rat, (∃ j, j < n + 1 ∧ x j ≠ 0) ∧ ∀ i, i < n + 1 → sm (n + 1) (fun j => B i j * x j) = 0 := by
   intro B hB hD
   rw [D_sch hB] at hD
   have hD2 : D n (sch B) = 0 := by grind
   cases n with
   | zero => exact absurd (show D 0 (sch B) = 1 from rfl) (by rw [hD2]; decide)
   | succ n =>
    obtain ⟨x, ⟨j, hj, hjx⟩, hx⟩ := kern (A := sch B) (Nat.succ_pos n) hD2
    refine ⟨cns ((0 - sm (n + 1) (fun j => B 0 (j + 1) * x j)) / B 0 0) x, ⟨j + 1, by omega, hjx⟩, fun i hi => ?_⟩
    rw [sm_cns]
    cases i with
    | zero => grind
    | succ i =>
     have := hx i (by omega)
     rw [sm_sch] at this
     grind
  revert hD
  refine piv_ind (n := n) (P := fun B => D (n + 1) B = 0 → ∃ x : Nat → Rat, (∃ j, j < n + 1 ∧ x j ≠ 0) ∧ ∀ i, i < n + 1 → sm (n + 1) (fun j => B i j * x j) = 0) A (fun h0 _ => ?_) (fun B hB _ hD => key B hB hD) (fun p hp hp2 hs hD => ?_)
  ·refine ⟨cns 1 (fun _ => 0), ⟨0, Nat.succ_pos n, by show (1 : Rat) ≠ 0; decide⟩, fun i hi => ?_⟩
   rw [sm_cns, h0 i hi, sm_zero (fun j _ => by grind)]
   grind
  ·obtain ⟨x, hx0, hx⟩ := hs (by rw [D_sw hp2 (Nat.succ_pos n) (by omega), hD]; grind)
   refine ⟨x, hx0, fun i hi => ?_⟩
   have := hx (if i = p then 0 else if i = 0 then p else i) (by split <;> (try split) <;> omega)
   unfold sw at this
   have he : (if (if i = p then 0 else if i = 0 then p else i) = p then 0 else if (if i = p then 0 else if i = 0 then p else i) = 0 then p else (if i = p then 0 else if i = 0 then p else i)) = i := by
    repeat' split
    all_goals omega
   rw [he] at this
   exact this
theorem cramer_sum {n i : Nat} {A : Rm} {b : Nat → Rat} (h : D n A ≠ 0) (hi : i < n) : sm n (fun j => A i j * (D n (upc A j b) / D n A)) = b i := by
 obtain ⟨x, hx⟩ := solve b h
 rw [← hx i hi]
 refine sm_congr (fun j hj => ?_)
 rw [cramer hj hx]
 grind
end Go.Dt
end

section
set_option maxRecDepth 20000
open Go Go.QM Go.Elim Go.Dt
namespace Go.Proofs.Ytjpknabdmmkobaa
variable {h : VH} {Q : Value → VH → Prop} {c : Cw Q}
variable {P : Raw → Prop} {n w i j k p : Nat} {R : List (List Raw)} {A : Fm}
def solX (m : List (List Raw)) (b : List Raw) (k : Nat) : Rat := ((det m.length (colrep (fm m) k (fl b)) : Int) : Rat) / ((det m.length (fm m) : Int) : Rat)
theorem sols_get {m : List (List Raw)} {b : List Raw} (hd : det m.length (fm m) ≠ 0) (hk : k < m.length) : (sols m b).getD k rraw0 = qc (solX m b k) := by
 have : (sols m b).getD k rraw0 = qz (det m.length (colrep (fm m) k (fl b))) (det m.length (fm m)) := by simp [sols, hk]
 rw [this, qz_qc _ _ hd]
 rfl
theorem solX_sq {K : Nat} {m : List (List Raw)} {b : List Raw} (hm : MatK K m) (hb : LisK K b) (hl : m.length ≤ 16) : Sq (wd K 16 + 1) (solX m b k) := by
 have h2 := wd_le K hl
 have h3 : Sk (wd K m.length + 1) (det m.length (colrep (fm m) k (fl b))) := det_sk (fun a b' ha hb' => by
  unfold colrep
  split
  ·exact Sk.of_raw (hb.lim a) (hb.len a)
  ·exact hm.sk a b')
 have h4 : Sk (wd K m.length + 1) (det m.length (fm m)) := det_sk (fun a b' ha hb' => hm.sk a b')
 exact Sq.div (h3.mono (by omega)) (h4.mono (by omega)) (by omega)
theorem sol_sum {m : List (List Raw)} {b : List Raw} (hd : det m.length (fm m) ≠ 0) (hi : i < m.length) : sm m.length (fun j => (fm m i j : Rat) * solX m b j) = (fl b i : Rat) := by
 have h0 : D m.length (rt (fm m)) ≠ 0 := by
  rw [← det_D]
  intro e
  exact hd (Rat.intCast_inj.mp e)
 rw [← cramer_sum (b := fun i => (fl b i : Rat)) h0 hi]
 refine sm_congr (fun j hj => ?_)
 unfold solX
 rw [det_D, det_D]
 have : rt (colrep (fm m) j (fl b)) = upc (rt (fm m)) j (fun i => (fl b i : Rat)) := by
  funext a c
  unfold rt colrep upc
  split <;> rfl
 rw [this]
 rfl
theorem wdL : 2 * wd (2 * (wd 2 16 + 1)) 16 + 1 < 1099511627776 := by decide +kernel
theorem BareissSolution_runs (x : GridV) (hx : GridOk x) (l : List Int) (hl : l.length * 1 ≤ 140737488351232 ∧ ∀ x ∈ l, IntKind.i8.min ≤ x ∧ x ≤ IntKind.i8.max) :
  Runs Try.prog cfg 7 [gridV x, i8V l] hp0 (fun v _ => v = .bool true) := by
 obtain ⟨hg1, hg2⟩ := sqM_matK (sqG_ok hx) (most := 5) (by decide) (by decide)
 change MatK 2 (sqM x 5) at hg1
 have hs := sqM_sq hx (most := 5) (by decide) (by decide)
 have h8 : I8 l := fun y hy => hl.2 y hy
 refine Runs.go Try.func7 rfl rfl (.refl _ _) ?_
 refine W.rseqZ ?_
 simp (disch := first | omega | (simp only [vd]; done) | (simp only [vd]; omega)) only [vs, reduceIte, Nat.reduceEqDiff, gridV, Value.cells]
 refine WF.d0 2 rfl (WF.done ?_)
 simp (disch := first | omega | (simp only [vd]; done) | (simp only [vd]; omega)) only [vs, reduceIte, Nat.reduceEqDiff]
 refine W.rseq ?_
 simp (disch := first | omega | (simp only [vd]; done) | (simp only [vd]; omega)) only [vs, reduceIte, Nat.reduceEqDiff, ldGrid]
 refine Square_fz x 5 hx (by decide) (by decide) fun h1 hx1 => ?_
 generalize hmx : sqM x 5 = m at *
 have hml := hs.1.2.1
 have hm1 := hs.1.1
 have hwd := wd2
 simp (disch := first | omega | (simp only [vd]; done) | (simp only [vd]; omega)) only [vs, reduceIte, Nat.reduceEqDiff]
 refine W.gen [1, 5] (fun e he => ?_)
 simp only [List.forall_mem_cons, List.not_mem_nil, false_implies, implies_true, and_true, e0_zero, e0_succ, put_some, put_none, reduceIte, Nat.reduceEqDiff] at he
 obtain ⟨e1, e5⟩ := he
 refine W.rseq ?_
 simp (disch := first | omega | (simp only [vd]; done) | (simp only [vd]; omega)) only [vs, reduceIte, Nat.reduceEqDiff, e1, e5]
 refine Column_ok l m.length (by omega) h8 (by omega) fun h2 hx2 => ?_
 simp (disch := first | omega | (simp only [vd]; done) | (simp only [vd]; omega)) only [vs, reduceIte, Nat.reduceEqDiff]
 have hbK := colI_lisK (n := m.length) h8 (by omega)
 have hbl : (colI l m.length).length = m.length := by simp [colI]
 generalize colI l m.length = b at *
 refine W.gen [5, 6] (fun e he => ?_)
 simp only [List.forall_mem_cons, List.not_mem_nil, false_implies, implies_true, and_true, e0_zero, e0_succ, put_some, put_none, reduceIte, Nat.reduceEqDiff, e5] at he
 obtain ⟨e5, e6⟩ := he
 refine W.rseq ?_
 simp (disch := first | omega | (simp only [vd]; done) | (simp only [vd]; omega)) only [vs, reduceIte, Nat.reduceEqDiff, e5, e6]
 refine Solve_ok m b hg1 hbK wd2 (fun _ _ hd h3 hx3 => ?_) (fun hh => absurd ⟨hs, hbl⟩ hh) (fun _ _ h0 h3 hx3 => ?_)
 ·simp (disch := first | omega | (simp only [vd]; done) | (simp only [vd]; omega)) only [vs, reduceIte, Nat.reduceEqDiff, extV]
  have hsl : (sols m b).length = m.length := by simp [sols]
  have hsg := fun k => sols_get (m := m) (b := b) (k := k) hd
  have hsq := fun k => solX_sq (k := k) hg1 hbK hml
  have hsum := fun i => sol_sum (m := m) (b := b) (i := i) hd
  generalize sols m b = S at *
  generalize solX m b = X at *
  refine W.gen [5, 6, 7, 8] (fun e he => ?_)
  simp only [List.forall_mem_cons, List.not_mem_nil, false_implies, implies_true, and_true, e0_zero, e0_succ, put_some, put_none, reduceIte, Nat.reduceEqDiff, e5, e6] at he
  obtain ⟨e5, e6, e7, e8⟩ := he
  refine W.seq (W.rseq ?_)
  simp (disch := first | omega | (simp only [vd]; done) | (simp only [vd]; omega)) only [vs, reduceIte, Nat.reduceEqDiff, e8]
  refine W.cond false (by rfl) nofun (fun _ => ?_)
  refine W.skip ?_
  simp (disch := first | omega | (simp only [vd]; done) | (simp only [vd]; omega)) only [vs, reduceIte, Nat.reduceEqDiff]
  have hsl' := hsl.symm
  refine W.seq (W.rseq ?_)
  simp (disch := first | omega | (simp only [vd]; done) | (simp only [vd]; omega)) only [vs, reduceIte, Nat.reduceEqDiff, e5, e7, hsl']
  refine W.cond false (by rfl) nofun (fun _ => ?_)
  refine W.skip ?_
  simp (disch := first | omega | (simp only [vd]; done) | (simp only [vd]; omega)) only [vs, reduceIte, Nat.reduceEqDiff]
  refine W.then (fun _ _ => True) ?_ ?_
  ·skip
   refine W.rseq ?_
   simp (disch := first | omega | (simp only [vd]; done) | (simp only [vd]; omega)) only [vs, reduceIte, Nat.reduceEqDiff, e5]
   refine W.gen [5, 6, 7, 48, 49] (fun e he => ?_)
   simp only [List.forall_mem_cons, List.not_mem_nil, false_implies, implies_true, and_true, e0_zero, e0_succ, put_some, put_none, reduceIte, Nat.reduceEqDiff, e5, e6, e7] at he
   obtain ⟨e5, e6, e7, e48, e49⟩ := he
   refine W.range (fun i e h' => e 5 = mV m ∧ e 6 = isV b ∧ e 7 = rsV S) m.length (by omega) rfl e49 e48 ⟨e5, e6, e7⟩ ?_ ?_
   ·rintro i e h' hi ei en ⟨e5, e6, e7⟩
    refine W.block ?_
    refine W.rseq ?_
    simp (disch := first | omega | (simp only [vd]; done) | (simp only [vd]; omega)) only [vs, reduceIte, Nat.reduceEqDiff, ei]
    refine W.rseq ?_
    simp (disch := first | omega | (simp only [vd]; done) | (simp only [vd]; omega)) only [vs, reduceIte, Nat.reduceEqDiff]
    refine rQSmall_ok 0 (by decide) (by decide) fun h4 hx4 => ?_
    simp (disch := first | omega | (simp only [vd]; done) | (simp only [vd]; omega)) only [vs, reduceIte, Nat.reduceEqDiff, Value.cells]
    have hcG : Cell (h4.push ⟨58, 0, [.bool (qc ((0 : Int) : Rat)).1.1, u32S (qc ((0 : Int) : Rat)).1.2, .bool (qc ((0 : Int) : Rat)).2.1, u32S (qc ((0 : Int) : Rat)).2.2]⟩) h4.next 58 [.bool (qc ((0 : Int) : Rat)).1.1, u32S (qc ((0 : Int) : Rat)).1.2, .bool (qc ((0 : Int) : Rat)).2.1, u32S (qc ((0 : Int) : Rat)).2.2] := Cell.new
    have hlG := VH.le_push h4 ⟨58, 0, [.bool (qc ((0 : Int) : Rat)).1.1, u32S (qc ((0 : Int) : Rat)).1.2, .bool (qc ((0 : Int) : Rat)).2.1, u32S (qc ((0 : Int) : Rat)).2.2]⟩
    have hnG := next_push (h := h4) (B := ⟨58, 0, [.bool (qc ((0 : Int) : Rat)).1.1, u32S (qc ((0 : Int) : Rat)).1.2, .bool (qc ((0 : Int) : Rat)).2.1, u32S (qc ((0 : Int) : Rat)).2.2]⟩)
    generalize h4.push ⟨58, 0, [.bool (qc ((0 : Int) : Rat)).1.1, u32S (qc ((0 : Int) : Rat)).1.2, .bool (qc ((0 : Int) : Rat)).2.1, u32S (qc ((0 : Int) : Rat)).2.2]⟩ = G at *
    refine W.gen [5, 6, 7, 9, 10, 48, 49] (fun e he => ?_)
    simp only [List.forall_mem_cons, List.not_mem_nil, false_implies, implies_true, and_true, e0_zero, e0_succ, put_some, put_none, reduceIte, Nat.reduceEqDiff, e5, e6, e7, ei, en] at he
    obtain ⟨e5, e6, e7, e9, e10, e48, e49⟩ := he
    refine W.then (fun e' h2 => e' 5 = mV m ∧ e' 6 = isV b ∧ e' 7 = rsV S ∧ e' 9 = .int .i64 (i : Int) ∧ e' 10 = .pointer (some ⟨h4.next, 0, none⟩) ∧ e' 48 = .int .i64 (m.length : Int) ∧ e' 49 = .int .i64 (i : Int) ∧ Cell h2 h4.next 58 [.bool (qc (fl b i : Rat)).1.1, u32S (qc (fl b i : Rat)).1.2, .bool (qc (fl b i : Rat)).2.1, u32S (qc (fl b i : Rat)).2.2]) ?_ ?_
    ·skip
     refine W.rseq ?_
     simp (disch := first | omega | (simp only [vd]; done) | (simp only [vd]; omega)) only [vs, reduceIte, Nat.reduceEqDiff, e7]
     refine W.gen [5, 6, 7, 9, 10, 48, 49, 54, 55] (fun e he => ?_)
     simp only [List.forall_mem_cons, List.not_mem_nil, false_implies, implies_true, and_true, e0_zero, e0_succ, put_some, put_none, reduceIte, Nat.reduceEqDiff, e5, e6, e7, e9, e10, e48, e49] at he
     obtain ⟨e5, e6, e7, e9, e10, e48, e49, e54, e55⟩ := he
     refine W.range (fun j e h2 => e 5 = mV m ∧ e 6 = isV b ∧ e 7 = rsV S ∧ e 9 = .int .i64 (i : Int) ∧ e 10 = .pointer (some ⟨h4.next, 0, none⟩) ∧ e 48 = .int .i64 (m.length : Int) ∧ e 49 = .int .i64 (i : Int) ∧ Cell h2 h4.next 58 [.bool (qc (sm j fun j => (fm m i j : Rat) * X j)).1.1, u32S (qc (sm j fun j => (fm m i j : Rat) * X j)).1.2, .bool (qc (sm j fun j => (fm m i j : Rat) * X j)).2.1, u32S (qc (sm j fun j => (fm m i j : Rat) * X j)).2.2] ∧ Sq (wd (2 * (wd 2 16 + 1)) j) (sm j fun j => (fm m i j : Rat) * X j)) S.length (by omega) rfl e55 e54
      ⟨e5, e6, e7, e9, e10, e48, e49, hcG, ⟨Sk.zero _, Sk.mono (show Sk 1 1 from dig_len.2 (by decide)) (by show 1 ≤ 2 * (wd 2 16 + 1); omega)⟩⟩ ?_ ?_
     ·rintro j e h5 hj ej en2 ⟨e5, e6, e7, e9, e10, e48, e49, hc, hS⟩
      have hjm : j < m.length := by omega
      have hml' : m.length ≤ 16 := hml
      have hokm := hg1.okm (by omega)
      have hrl := hs.1.2.2.2.2 i hi
      have hr0 := hs.2
      have hX := (hsq j).mono (Nat.le_refl _)
      have hwj := wd_le (2 * (wd 2 16 + 1)) (show j ≤ 16 by omega)
      have hw0 := wd_le (2 * (wd 2 16 + 1)) (Nat.zero_le j)
      have hw00 : wd (2 * (wd 2 16 + 1)) 0 = 2 * (wd 2 16 + 1) := rfl
      have hwL := wdL
      refine W.block ?_
      refine W.rseq ?_
      simp (disch := first | omega | (simp only [vd]; done) | (simp only [vd]; omega)) only [vs, reduceIte, Nat.reduceEqDiff, ej]
      refine W.drawL (fun _ => True) [false, false, false, false, false, false, false, false, true, false, false, false, false, true, false, false] (by rfl) ?_
      simp (disch := first | omega | (simp only [vd]; done) | (simp only [vd]; omega)) only [vs, reduceIte, Nat.reduceEqDiff, e5, e7, e9, e10, ej, Int.toNat_natCast, cl4 hc, hsg j hjm]
      refine rWhole_ok (ent m i j) (hokm.at i j) fun g1 x1 => ?_
      simp (disch := first | omega | (simp only [vd]; done) | (simp only [vd]; omega)) only [vs, reduceIte, Nat.reduceEqDiff, gr_le x1, gr0_le x1, e7, ej, Int.toNat_natCast, hsg j hjm]
      have sa : Sq (wd 2 16 + 1) ((fm m i j : Int) : Rat) := Sq.int ((hg1.sk i j).mono (by have := wd_le 2 (Nat.zero_le 16); exact Nat.le_trans this (by omega))) (by omega)
      refine rQMul_ok ((fm m i j : Int) : Rat) (X j) sa hX (by omega) (by omega) fun g2 x2 => ?_
      simp (disch := first | omega | (simp only [vd]; done) | (simp only [vd]; omega)) only [vs, reduceIte, Nat.reduceEqDiff, gr_le x2, gr0_le x2]
      have sp := sa.mul hX (by omega)
      refine rQAdd_ok _ _ hS (sp.mono (by omega)) (by omega) (by omega) fun g3 x3 => ?_
      have hc3 := hc.mono (x1.trans (x2.trans x3))
      have hw := wr_s4 (y0 := .bool (qc (sm (j + 1) fun j => (fm m i j : Rat) * X j)).1.1) (y1 := u32S (qc (sm (j + 1) fun j => (fm m i j : Rat) * X j)).1.2) (y2 := .bool (qc (sm (j + 1) fun j => (fm m i j : Rat) * X j)).2.1) (y3 := u32S (qc (sm (j + 1) fun j => (fm m i j : Rat) * X j)).2.2) hc3.2
      change wrN 0 g3 h4.next 0 [.bool (qc ((sm j fun j => (fm m i j : Rat) * X j) + (fm m i j : Rat) * X j)).1.1, u32S (qc ((sm j fun j => (fm m i j : Rat) * X j) + (fm m i j : Rat) * X j)).1.2, .bool (qc ((sm j fun j => (fm m i j : Rat) * X j) + (fm m i j : Rat) * X j)).2.1, u32S (qc ((sm j fun j => (fm m i j : Rat) * X j) + (fm m i j : Rat) * X j)).2.2] = _ at hw
      simp (disch := first | omega | (simp only [vd]; done) | (simp only [vd]; omega)) only [vs, reduceIte, Nat.reduceEqDiff, gr_le x3, gr0_le x3, e10, hw]
      refine ⟨gr0_set hc3.2, ?_⟩
      simp (disch := first | omega | (simp only [vd]; done) | (simp only [vd]; omega)) only [vs, reduceIte, Nat.reduceEqDiff, ej, en2, e5, e6, e7, e9, e10, e48, e49]
      exact ⟨hc3.set, hS.add (sp.mono (by omega)) (by omega)⟩
     ·rintro e h5 ej ⟨e5, e6, e7, e9, e10, e48, e49, hc, hS⟩
      rw [hsl, hsum i hi] at hc
      simp (disch := first | omega | (simp only [vd]; done) | (simp only [vd]; omega)) only [vs, reduceIte, Nat.reduceEqDiff, e5, e6, e7, e9, e10, e48, e49]
      exact hc
    ·rintro e h5 ⟨e5, e6, e7, e9, e10, e48, e49, hc⟩
     have hbi := hbK.lim i
     have okb : Okr (b.getD i raw0) := ⟨Nat.lt_of_le_of_lt (hbK.len i) (by decide), hbK.lim i⟩
     have sb : Sq 2 ((fl b i : Int) : Rat) := Sq.int (Sk.of_raw (hbK.lim i) (hbK.len i)) (by decide)
     have hib : i < b.length := by omega
     refine W.dseqL (fun _ => True) [false, false, false, false, false, true, false, false] (by rfl) ?_
     simp (disch := first | omega | (simp only [vd]; done) | (simp only [vd]; omega)) only [vs, reduceIte, Nat.reduceEqDiff, e6, e9, e10, Int.toNat_natCast, cl4 hc]
     refine rWhole_ok (b.getD i raw0) okb fun g1 x1 => ?_
     simp (disch := first | omega | (simp only [vd]; done) | (simp only [vd]; omega)) only [vs, reduceIte, Nat.reduceEqDiff, gr_le x1, gr0_le x1]
     refine rQCmp_ok ((fl b i : Int) : Rat) ((fl b i : Int) : Rat) sb sb (by decide) (by decide) fun g2 x2 => ?_
     rw [show ((fl b i : Int) : Rat) - ((fl b i : Int) : Rat) = 0 by grind]
     rw [show (0 : Rat).num.sign = 0 from rfl]
     simp (disch := first | omega | (simp only [vd]; done) | (simp only [vd]; omega)) only [vs, reduceIte, Nat.reduceEqDiff, gr_le x2, gr0_le x2]
     refine W.cond false (by rfl) nofun (fun _ => ?_)
     refine W.skip ?_
     simp (disch := first | omega | (simp only [vd]; done) | (simp only [vd]; omega)) only [vs, reduceIte, Nat.reduceEqDiff, e48, e49, e5, e6, e7]
   ·intros
    simp (disch := first | omega | (simp only [vd]; done) | (simp only [vd]; omega)) only [vs, reduceIte, Nat.reduceEqDiff]
  ·rintro e h' -
   refine W.rseq ?_
   simp (disch := first | omega | (simp only [vd]; done) | (simp only [vd]; omega)) only [vs, reduceIte, Nat.reduceEqDiff]
   refine awake_ok fun g3 x3 => ?_
   simp (disch := first | omega | (simp only [vd]; done) | (simp only [vd]; omega)) only [vs, reduceIte, Nat.reduceEqDiff]
   refine W.ret ⟨.inr rfl, ?_⟩
   change Fin cfg _ _ _ _
   exact Fin.done (ress_1 rfl rfl) rfl
 ·simp (disch := first | omega | (simp only [vd]; done) | (simp only [vd]; omega)) only [vs, reduceIte, Nat.reduceEqDiff, extV]
  refine W.gen [5, 6, 7, 8] (fun e he => ?_)
  simp only [List.forall_mem_cons, List.not_mem_nil, false_implies, implies_true, and_true, e0_zero, e0_succ, put_some, put_none, reduceIte, Nat.reduceEqDiff, e5, e6] at he
  obtain ⟨e5, e6, e7, e8⟩ := he
  refine W.seq (W.rseq ?_)
  simp (disch := first | omega | (simp only [vd]; done) | (simp only [vd]; omega)) only [vs, reduceIte, Nat.reduceEqDiff, e8]
  refine W.cond true (by rfl) (fun _ => ?_) nofun
  refine W.rseq ?_
  simp (disch := first | omega | (simp only [vd]; done) | (simp only [vd]; omega)) only [vs, reduceIte, Nat.reduceEqDiff, e5, e7, e8]
  refine rDet_ok m (hg1.sqm hs) (by omega) (by have := wd_le 2 hml; omega) fun g1 x1 => ?_
  rw [h0]
  simp (disch := first | omega | (simp only [vd]; done) | (simp only [vd]; omega)) only [vs, reduceIte, Nat.reduceEqDiff]
  refine rSign_r (cz 0) (by rw [cz_zero]; exact Okr.zero) fun g2 x2 => ?_
  rw [iz_cz, Int.sign_zero]
  simp (disch := first | omega | (simp only [vd]; done) | (simp only [vd]; omega)) only [vs, reduceIte, Nat.reduceEqDiff, e7]
  refine awake_ok fun g3 x3 => ?_
  simp (disch := first | omega | (simp only [vd]; done) | (simp only [vd]; omega)) only [vs, reduceIte, Nat.reduceEqDiff]
  refine W.ret ⟨.inr rfl, ?_⟩
  change Fin cfg _ _ _ _
  exact Fin.done (ress_1 rfl rfl) rfl
end Go.Proofs.Ytjpknabdmmkobaa
end
