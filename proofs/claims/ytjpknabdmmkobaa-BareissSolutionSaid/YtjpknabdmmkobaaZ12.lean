/- Part 12 of the proof: L4c, L4d. -/
import Derived.Test.YtjpknabdmmkobaaZ11
set_option linter.unusedVariables false
set_option linter.unusedSimpArgs false
section
set_option maxRecDepth 20000
open Go Go.QM Go.Elim
namespace Go.Proofs.Ytjpknabdmmkobaa
variable {h : VH} {Q : Value → VH → Prop} {c : Cw Q}
variable {P : Raw → Prop} {n w i j k p : Nat} {R : List (List Raw)} {A : Fm}
theorem sols_okq {K : Nat} {m : List (List Raw)} {b : List Raw} (hm : MatK K m) (hb : LisK K b) (hs : IsSq m) (hK : wd K 16 + 5 < 1099511627776) : ∀ i, Okq ((sols m b).getD i rraw0) := by
 intro i
 have hl := hs.1.2.1
 by_cases hi : i < m.length
 ·have : (sols m b).getD i rraw0 = qz (det m.length (colrep (fm m) i (fl b))) (det m.length (fm m)) := by simp [sols, hi]
  rw [this]
  have h2 := wd_le K hl
  have h3 : Sk (wd K m.length + 1) (det m.length (colrep (fm m) i (fl b))) := det_sk (fun a b' ha hb' => by
   unfold colrep
   split
   ·exact Sk.of_raw (hb.lim a) (hb.len a)
   ·exact hm.sk a b')
  have h4 : Sk (wd K m.length + 1) (det m.length (fm m)) := det_sk (fun a b' ha hb' => hm.sk a b')
  exact ⟨Okr.cz ((ofN_sk h3).div _) (by omega), Okr.cz ((ofD_sk h4 (by omega)).div _) (by omega)⟩
 ·have : (sols m b).getD i rraw0 = rraw0 := by simp [sols, List.getElem?_eq_none (show (List.range m.length).length ≤ i by simp; omega)]
  rw [this]
  exact ⟨Okr.zero, Okr.zero⟩
theorem okq_nil : ∀ i, Okq (([] : List RRaw).getD i rraw0) := fun i => by simp; exact ⟨Okr.zero, Okr.zero⟩
theorem solve_both {K : Nat} (m : List (List Raw)) (b : List Raw) (hm : MatK K m) (hb : LisK K b) (hK : wd K 16 + 5 < 1099511627776) :
  ∃ (l : List RRaw) (e : Int), (∀ i, Okq (l.getD i rraw0)) ∧ l.length < 1099511627776 ∧ ∀ (h : VH) (Q : Value → VH → Prop), (∀ h1, h.le h1 → Q (.tuple #[rsV l, .int .i64 e]) h1) → Runs Try.prog cfg 32 [mV m, isV b] h Q ∧ Runs Try.prog cfg 33 [mV m, isV b] h Q := by
 by_cases h1 : IsSq m ∧ b.length = m.length
 ·by_cases h2 : det m.length (fm m) = 0
  ·exact ⟨[], 8, okq_nil, by decide, fun h Q hq => ⟨Solve_ok m b hm hb hK (fun _ _ hh => absurd h2 hh) (fun hh => absurd h1 hh) (fun _ _ _ => hq), rSolve_ok m b hm hb hK (fun _ _ hh => absurd h2 hh) (fun hh => absurd h1 hh) (fun _ _ _ => hq)⟩⟩
  ·exact ⟨sols m b, 0, sols_okq hm hb h1.1 hK, by have := h1.1.1.2.1; simp [sols]; omega, fun h Q hq => ⟨Solve_ok m b hm hb hK (fun _ _ _ => hq) (fun hh => absurd h1 hh) (fun _ _ hh => absurd hh h2), rSolve_ok m b hm hb hK (fun _ _ _ => hq) (fun hh => absurd h1 hh) (fun _ _ hh => absurd hh h2)⟩⟩
 ·exact ⟨[], 3, okq_nil, by decide, fun h Q hq => ⟨Solve_ok m b hm hb hK (fun h3 h4 => absurd ⟨h3, h4⟩ h1) (fun _ => hq) (fun h3 h4 => absurd ⟨h3, h4⟩ h1), rSolve_ok m b hm hb hK (fun h3 h4 => absurd ⟨h3, h4⟩ h1) (fun _ => hq) (fun h3 h4 => absurd ⟨h3, h4⟩ h1)⟩⟩
theorem sqM_sq {x : GridV} (hx : GridOk x) {most : Nat} (h0 : 0 < most) (hm : most ≤ 16) : IsSq (sqM x most) := by
 have h2 := (sqM_matK (sqG_ok hx) h0 hm).2
 refine ⟨h2, ?_⟩
 have h1 : 0 < gR (sqG x) most := by unfold gR; omega
 have : (sqM x most).length = gR (sqG x) most := mat_len
 rw [this]
 show ((gM (sqG x) most).getD 0 []).length = _
 rw [gM, mat_row h1]
 simp [gC, gR, sqG]
theorem BareissSolves_runs (x : GridV) (hx : GridOk x) (l : List Int) (hl : l.length * 1 ≤ 140737488351232 ∧ ∀ x ∈ l, IntKind.i8.min ≤ x ∧ x ≤ IntKind.i8.max) (a : List (List Raw)) (ha : InM a) (b : List Raw) (hb : b.length * 32 ≤ 140737488351232 ∧ ∀ x ∈ b, RawOk x) :
  Runs Try.prog cfg 6 [gridV x, i8V l, mV a, isV b] hp0 (fun v _ => v = .bool true) := by
 obtain ⟨hg1, hg2⟩ := sqM_matK (sqG_ok hx) (most := 5) (by decide) (by decide)
 change MatK 2 (sqM x 5) at hg1
 have h8 : I8 l := fun y hy => hl.2 y hy
 have hbl := hb.1
 refine Runs.go Try.func6 rfl rfl (.refl _ _) ?_
 refine W.rseqZ ?_
 simp (disch := first | omega | (simp only [vd]; done) | (simp only [vd]; omega)) only [vs, reduceIte, Nat.reduceEqDiff, gridV, Value.cells]
 refine WF.d0 4 rfl (WF.done ?_)
 simp (disch := first | omega | (simp only [vd]; done) | (simp only [vd]; omega)) only [vs, reduceIte, Nat.reduceEqDiff]
 refine W.gen [0, 1, 2, 3, 4] (fun e he => ?_)
 simp only [List.forall_mem_cons, List.not_mem_nil, false_implies, implies_true, and_true, e0_zero, e0_succ, put_some, put_none, reduceIte, Nat.reduceEqDiff] at he
 obtain ⟨e0, e1, e2, e3, e4⟩ := he
 refine W.seq (W.rseq ?_)
 simp (disch := first | omega | (simp only [vd]; done) | (simp only [vd]; omega)) only [vs, reduceIte, Nat.reduceEqDiff, e2]
 refine ha.large fun bb hb0 => ?_
 by_cases hgo : bb = false ∧ b.length ≤ 20
 ·obtain ⟨rfl, hb20⟩ := hgo
  have ha1 := hb0 rfl
  simp (disch := first | omega | (simp only [vd]; done) | (simp only [vd]; omega)) only [vs, reduceIte, Nat.reduceEqDiff, e3]
  refine W.cond false (by rfl) nofun (fun _ => ?_)
  refine W.skip ?_
  simp (disch := first | omega | (simp only [vd]; done) | (simp only [vd]; omega)) only [vs, reduceIte, Nat.reduceEqDiff]
  refine W.gen [1, 2, 3, 4] (fun e he => ?_)
  simp only [List.forall_mem_cons, List.not_mem_nil, false_implies, implies_true, and_true, e0_zero, e0_succ, put_some, put_none, reduceIte, Nat.reduceEqDiff, e1, e2, e3, e4] at he
  obtain ⟨e1, e2, e3, e4⟩ := he
  refine W.then (fun e' h' => e' 1 = i8V l ∧ e' 2 = mV a ∧ e' 3 = isV b ∧ e' 4 = fP 0 #[.int .u8 x.rows, .int .u8 x.cols, i8V x.nums] ∧ LisK 120 b) ?_ ?_
  ·skip
   refine W.rseq ?_
   simp (disch := first | omega | (simp only [vd]; done) | (simp only [vd]; omega)) only [vs, reduceIte, Nat.reduceEqDiff, e3]
   refine W.gen [1, 2, 3, 4, 29, 30, 31] (fun e he => ?_)
   simp only [List.forall_mem_cons, List.not_mem_nil, false_implies, implies_true, and_true, e0_zero, e0_succ, put_some, put_none, reduceIte, Nat.reduceEqDiff, e1, e2, e3, e4] at he
   obtain ⟨e1, e2, e3, e4, e29, e30, e31⟩ := he
   refine W.range (fun i e h' => e 1 = i8V l ∧ e 2 = mV a ∧ e 3 = isV b ∧ e 4 = fP 0 #[.int .u8 x.rows, .int .u8 x.cols, i8V x.nums] ∧ e 29 = isV b ∧ ∀ i', i' < i → (b.getD i' raw0).2.length ≤ 10) b.length (by omega) rfl e31 e30 ⟨e1, e2, e3, e4, e29, fun i' hi' => by omega⟩ ?_ ?_
   ·rintro i e h' hi ei en' ⟨e1, e2, e3, e4, e29, hI⟩
    have hwl : (b.getD i raw0).2.length ≤ 35184372087808 := (hb.2 _ (by simp [hi])).2
    refine W.block ?_
    refine W.rseq ?_
    simp (disch := first | omega | (simp only [vd]; done) | (simp only [vd]; omega)) only [vs, reduceIte, Nat.reduceEqDiff, ei, e29, Int.toNat_natCast, Value.cells]
    have hcG : Cell (h'.push ⟨39, 0, [.bool (b.getD i raw0).1, u32S (b.getD i raw0).2]⟩) h'.next 39 [.bool (b.getD i raw0).1, u32S (b.getD i raw0).2] := Cell.new
    have hlG := VH.le_push h' ⟨39, 0, [.bool (b.getD i raw0).1, u32S (b.getD i raw0).2]⟩
    have hnG := next_push (h := h') (B := ⟨39, 0, [.bool (b.getD i raw0).1, u32S (b.getD i raw0).2]⟩)
    generalize h'.push ⟨39, 0, [.bool (b.getD i raw0).1, u32S (b.getD i raw0).2]⟩ = G at *
    have hr1 : rd1 G h'.next 1 = some (u32S (b.getD i raw0).2) := by rw [rd1_of hcG.2]; rfl
    by_cases h10 : (b.getD i raw0).2.length ≤ 10
    ·skip
     refine W.rseq ?_
     simp (disch := first | omega | (simp only [vd]; done) | (simp only [vd]; omega)) only [vs, reduceIte, Nat.reduceEqDiff, hr1]
     refine W.cond false (by rfl) nofun (fun _ => ?_)
     refine W.skip ?_
     simp (disch := first | omega | (simp only [vd]; done) | (simp only [vd]; omega)) only [vs, reduceIte, Nat.reduceEqDiff, ei, en', e1, e2, e3, e4, e29]
     intro i' hi'
     by_cases hii : i' = i
     ·rw [hii]; exact h10
     ·exact hI i' (by omega)
    ·skip
     refine W.rseq ?_
     simp (disch := first | omega | (simp only [vd]; done) | (simp only [vd]; omega)) only [vs, reduceIte, Nat.reduceEqDiff, hr1]
     refine W.cond true (by rfl) (fun _ => ?_) nofun
     refine W.rseq ?_
     simp (disch := first | omega | (simp only [vd]; done) | (simp only [vd]; omega)) only [vs, reduceIte, Nat.reduceEqDiff]
     refine awake_ok fun h1 hx1 => ?_
     simp (disch := first | omega | (simp only [vd]; done) | (simp only [vd]; omega)) only [vs, reduceIte, Nat.reduceEqDiff]
     refine W.ret ⟨.inr rfl, ?_⟩
     change Fin cfg _ _ _ _
     exact Fin.done (ress_1 rfl rfl) rfl
   ·rintro e h' ei ⟨e1, e2, e3, e4, e29, hI⟩
    simp (disch := first | omega | (simp only [vd]; done) | (simp only [vd]; omega)) only [vs, reduceIte, Nat.reduceEqDiff, e1, e2, e3, e4]
    have hob : ∀ i, ¬ i < b.length → b.getD i raw0 = raw0 := fun i hi => by simp [List.getElem?_eq_none (Nat.le_of_not_lt hi)]
    refine ⟨fun i => ?_, fun i => ?_, by omega⟩
    ·by_cases hi : i < b.length
     ·exact (hb.2 _ (by simp [hi])).1
     ·rw [hob i hi]; exact Lim.nil
    ·by_cases hi : i < b.length
     ·exact Nat.le_trans (hI i hi) (by omega)
     ·rw [hob i hi]; exact Nat.zero_le _
  ·rintro e h' ⟨e1, e2, e3, e4, hbK⟩
   have hsl : (sqM x 5).length = gR x 5 := mat_len
   have hgr : gR x 5 ≤ 16 := by unfold gR; have := Nat.mod_lt x.rows.toNat (show 0 < 5 by decide); omega
   refine W.rseq ?_
   simp (disch := first | omega | (simp only [vd]; done) | (simp only [vd]; omega)) only [vs, reduceIte, Nat.reduceEqDiff, e4, ldGrid]
   refine Square_fz x 5 hx (by decide) (by decide) fun h1 hx1 => ?_
   simp (disch := first | omega | (simp only [vd]; done) | (simp only [vd]; omega)) only [vs, reduceIte, Nat.reduceEqDiff]
   refine W.gen [1, 2, 3, 11] (fun e he => ?_)
   simp only [List.forall_mem_cons, List.not_mem_nil, false_implies, implies_true, and_true, e0_zero, e0_succ, put_some, put_none, reduceIte, Nat.reduceEqDiff, e1, e2, e3] at he
   obtain ⟨e1, e2, e3, e11⟩ := he
   refine W.rseq ?_
   simp (disch := first | omega | (simp only [vd]; done) | (simp only [vd]; omega)) only [vs, reduceIte, Nat.reduceEqDiff, e1, e11]
   refine Column_ok l _ (by omega) h8 (by rw [hsl]; omega) fun h2 hx2 => ?_
   simp (disch := first | omega | (simp only [vd]; done) | (simp only [vd]; omega)) only [vs, reduceIte, Nat.reduceEqDiff]
   refine W.gen [2, 3, 11, 12] (fun e he => ?_)
   simp only [List.forall_mem_cons, List.not_mem_nil, false_implies, implies_true, and_true, e0_zero, e0_succ, put_some, put_none, reduceIte, Nat.reduceEqDiff, e2, e3, e11] at he
   obtain ⟨e2, e3, e11, e12⟩ := he
   obtain ⟨l1, c1, ho1, hn1, k1⟩ := solve_both _ _ hg1 (colI_lisK (n := (sqM x 5).length) h8 (by rw [hsl]; omega)) wd2
   obtain ⟨l2, c2, ho2, hn2, k2⟩ := solve_both _ _ ha1 hbK wd120
   refine W.rseq ?_
   simp (disch := first | omega | (simp only [vd]; done) | (simp only [vd]; omega)) only [vs, reduceIte, Nat.reduceEqDiff, e11, e12]
   refine (k1 _ _ fun h3 hx3 => ?_).1
   simp (disch := first | omega | (simp only [vd]; done) | (simp only [vd]; omega)) only [vs, reduceIte, Nat.reduceEqDiff, extV]
   refine W.rseq ?_
   simp (disch := first | omega | (simp only [vd]; done) | (simp only [vd]; omega)) only [vs, reduceIte, Nat.reduceEqDiff, e11, e12]
   refine (k1 _ _ fun h4 hx4 => ?_).2
   simp (disch := first | omega | (simp only [vd]; done) | (simp only [vd]; omega)) only [vs, reduceIte, Nat.reduceEqDiff, extV]
   refine W.rseq ?_
   simp (disch := first | omega | (simp only [vd]; done) | (simp only [vd]; omega)) only [vs, reduceIte, Nat.reduceEqDiff, e2, e3]
   refine (k2 _ _ fun h5 hx5 => ?_).1
   simp (disch := first | omega | (simp only [vd]; done) | (simp only [vd]; omega)) only [vs, reduceIte, Nat.reduceEqDiff, extV]
   refine W.rseq ?_
   simp (disch := first | omega | (simp only [vd]; done) | (simp only [vd]; omega)) only [vs, reduceIte, Nat.reduceEqDiff, e2, e3]
   refine (k2 _ _ fun h6 hx6 => ?_).2
   simp (disch := first | omega | (simp only [vd]; done) | (simp only [vd]; omega)) only [vs, reduceIte, Nat.reduceEqDiff, extV]
   refine W.gen [13, 14, 15, 16, 17, 18, 19, 20] (fun e he => ?_)
   simp only [List.forall_mem_cons, List.not_mem_nil, false_implies, implies_true, and_true, e0_zero, e0_succ, put_some, put_none, reduceIte, Nat.reduceEqDiff] at he
   obtain ⟨e13, e14, e15, e16, e17, e18, e19, e20⟩ := he
   refine W.rseq ?_
   simp (maxSteps := 3000000) (disch := first | omega | (simp only [vd]; done) | (simp only [vd]; omega)) only [vs, reduceIte, Nat.reduceEqDiff, e13, e14, e15, e16, e17, e18, e19, e20]
   refine rSameRats_ok l1 l1 ho1 ho1 hn1 hn1 fun h7 hx7 => ?_
   rw [decide_eq_true rfl]
   simp (maxSteps := 3000000) (disch := first | omega | (simp only [vd]; done) | (simp only [vd]; omega)) only [vs, reduceIte, Nat.reduceEqDiff, e17, e18, e19, e20]
   refine rSameRats_ok l2 l2 ho2 ho2 hn2 hn2 fun h8 hx8 => ?_
   rw [decide_eq_true rfl]
   simp (disch := first | omega | (simp only [vd]; done) | (simp only [vd]; omega)) only [vs, reduceIte, Nat.reduceEqDiff]
   refine awake_ok fun h9 hx9 => ?_
   simp (disch := first | omega | (simp only [vd]; done) | (simp only [vd]; omega)) only [vs, reduceIte, Nat.reduceEqDiff]
   refine W.ret ⟨.inr rfl, ?_⟩
   change Fin cfg _ _ _ _
   exact Fin.done (ress_1 rfl rfl) rfl
 ·cases bb with
  | true =>
   simp (disch := first | omega | (simp only [vd]; done) | (simp only [vd]; omega)) only [vs, reduceIte, Nat.reduceEqDiff]
   refine W.cond true (by rfl) (fun _ => ?_) nofun
   refine W.rseq ?_
   simp (disch := first | omega | (simp only [vd]; done) | (simp only [vd]; omega)) only [vs, reduceIte, Nat.reduceEqDiff]
   refine awake_ok fun h1 hx1 => ?_
   simp (disch := first | omega | (simp only [vd]; done) | (simp only [vd]; omega)) only [vs, reduceIte, Nat.reduceEqDiff]
   refine W.ret ⟨.inr rfl, ?_⟩
   change Fin cfg _ _ _ _
   exact Fin.done (ress_1 rfl rfl) rfl
  | false =>
   have hb20 : 20 < b.length := by
    rcases Nat.lt_or_ge 20 b.length with hh | hh
    ·exact hh
    ·exact absurd ⟨rfl, hh⟩ hgo
   simp (disch := first | omega | (simp only [vd]; done) | (simp only [vd]; omega)) only [vs, reduceIte, Nat.reduceEqDiff, e3]
   refine W.cond true (by rfl) (fun _ => ?_) nofun
   refine W.rseq ?_
   simp (disch := first | omega | (simp only [vd]; done) | (simp only [vd]; omega)) only [vs, reduceIte, Nat.reduceEqDiff]
   refine awake_ok fun h1 hx1 => ?_
   simp (disch := first | omega | (simp only [vd]; done) | (simp only [vd]; omega)) only [vs, reduceIte, Nat.reduceEqDiff]
   refine W.ret ⟨.inr rfl, ?_⟩
   change Fin cfg _ _ _ _
   exact Fin.done (ress_1 rfl rfl) rfl
end Go.Proofs.Ytjpknabdmmkobaa
end

section
set_option maxRecDepth 20000
open Go Go.QM Go.Elim
namespace Go.Proofs.Ytjpknabdmmkobaa
variable {h : VH} {Q : Value → VH → Prop} {c : Cw Q}
variable {P : Raw → Prop} {n w i j k p : Nat} {R : List (List Raw)} {A : Fm}
theorem fm_gM {x : GridV} {most i j : Nat} (hi : i < gR x most) (hj : j < gC x most) : fm (gM x most) i j = x.nums.getD (i * gC x most + j) 0 := by unfold fm; rw [gM, mat_ent hi hj, iz_cz]
theorem BareissDefinite_runs (x : GridV) (hx : GridOk x) (a : List (List Raw)) (ha : InM a) (u : Int) (hu : IntKind.u8.min ≤ u ∧ u ≤ IntKind.u8.max) :
  Runs Try.prog cfg 8 [gridV x, mV a, .int .u8 u] hp0 (fun v _ => v = .bool true) := by
 have hu0 : 0 ≤ u := hu.1
 have hu1 : u ≤ 255 := hu.2
 refine Runs.go Try.func8 rfl rfl (.refl _ _) ?_
 refine W.rseqZ ?_
 simp (disch := first | omega | (simp only [vd]; done) | (simp only [vd]; omega)) only [vs, reduceIte, Nat.reduceEqDiff, gridV, Value.cells]
 refine WF.d0 3 rfl (WF.done ?_)
 simp (disch := first | omega | (simp only [vd]; done) | (simp only [vd]; omega)) only [vs, reduceIte, Nat.reduceEqDiff]
 refine W.gen [1, 2, 3] (fun e he => ?_)
 simp only [List.forall_mem_cons, List.not_mem_nil, false_implies, implies_true, and_true, e0_zero, e0_succ, put_some, put_none, reduceIte, Nat.reduceEqDiff] at he
 obtain ⟨e1, e2, e3⟩ := he
 refine W.seq (W.rseq ?_)
 simp (disch := first | omega | (simp only [vd]; done) | (simp only [vd]; omega)) only [vs, reduceIte, Nat.reduceEqDiff, e1]
 refine ha.large fun b hb => ?_
 cases b with
 | true =>
  simp (disch := first | omega | (simp only [vd]; done) | (simp only [vd]; omega)) only [vs, reduceIte, Nat.reduceEqDiff]
  refine W.cond true (by rfl) (fun _ => ?_) nofun
  refine W.rseq ?_
  simp (disch := first | omega | (simp only [vd]; done) | (simp only [vd]; omega)) only [vs, reduceIte, Nat.reduceEqDiff]
  refine awake_ok fun h1 hx1 => ?_
  simp (disch := first | omega | (simp only [vd]; done) | (simp only [vd]; omega)) only [vs, reduceIte, Nat.reduceEqDiff]
  refine W.ret ⟨.inr rfl, ?_⟩
  change Fin cfg _ _ _ _
  exact Fin.done (ress_1 rfl rfl) rfl
 | false =>
  have hb := hb rfl
  simp (disch := first | omega | (simp only [vd]; done) | (simp only [vd]; omega)) only [vs, reduceIte, Nat.reduceEqDiff]
  refine W.cond false (by rfl) nofun (fun _ => ?_)
  refine W.skip ?_
  simp (disch := first | omega | (simp only [vd]; done) | (simp only [vd]; omega)) only [vs, reduceIte, Nat.reduceEqDiff]
  refine W.rseq ?_
  simp (disch := first | omega | (simp only [vd]; done) | (simp only [vd]; omega)) only [vs, reduceIte, Nat.reduceEqDiff, e3, ldGrid]
  refine Square_ok x 5 hx (by decide) (by decide) fun b h1 hx1 hM => ?_
  simp (disch := first | omega | (simp only [vd]; done) | (simp only [vd]; omega)) only [vs, reduceIte, Nat.reduceEqDiff]
  have hsl : (sqM x 5).length = gR x 5 := mat_len
  have hgr : gR x 5 ≤ 16 := by unfold gR; have := Nat.mod_lt x.rows.toNat (show 0 < 5 by decide); omega
  have hgr1 : 1 ≤ gR x 5 := by unfold gR; omega
  have hsq := (sqM_matK (sqG_ok hx) (most := 5) (by decide) (by decide)).1.sqm (sqM_sq hx (by decide) (by decide))
  rw [show (gM (sqG x) 5).length = gR x 5 from hsl] at hsq
  have hsm : ∀ i j, i < gR x 5 → j < gR x 5 → -128 ≤ fm (sqM x 5) i j ∧ fm (sqM x 5) i j ≤ 127 := by
   intro i j hi hj
   have : fm (sqM x 5) i j = _ := fm_gM (x := sqG x) (most := 5) hi hj
   rw [this]
   exact I8.at (fun y hy => hx.2.2.2 y hy) _
  generalize hn : gR x 5 = n at *
  obtain ⟨n0, hM⟩ : ∃ n0, MM mkI n0 h1 b (sqM x 5) := ⟨_, hM⟩
  refine W.gen [1, 2, 7] (fun e he => ?_)
  simp only [List.forall_mem_cons, List.not_mem_nil, false_implies, implies_true, and_true, e0_zero, e0_succ, put_some, put_none, reduceIte, Nat.reduceEqDiff, e1, e2] at he
  obtain ⟨e1, e2, e7⟩ := he
  refine W.thenZ (fun e' h' => e' 1 = mV a ∧ e' 7 = slc b n ∧ ∃ R A, MM mkI n0 h' b R ∧ Rel (fun _ => True) n R A 2) ?_ ?_
  ·skip
   refine W.rseq ?_
   simp (disch := first | omega | (simp only [vd]; done) | (simp only [vd]; omega)) only [vs, reduceIte, Nat.reduceEqDiff, e7]
   refine W.gen [1, 2, 7, 16, 17] (fun e he => ?_)
   simp only [List.forall_mem_cons, List.not_mem_nil, false_implies, implies_true, and_true, e0_zero, e0_succ, put_some, put_none, reduceIte, Nat.reduceEqDiff, e1, e2, e7] at he
   obtain ⟨e1, e2, e7, e16, e17⟩ := he
   refine W.range (fun i e h' => e 1 = mV a ∧ e 2 = .int .u8 u ∧ e 7 = slc b n ∧ ∃ R A, MM mkI n0 h' b R ∧ Rel (fun _ => True) n R A 2 ∧ ∀ i' j', i' < n → j' < n → ((i' ≠ j' ∨ i ≤ i') → -128 ≤ A i' j' ∧ A i' j' ≤ 127)) n (by omega) rfl e17 e16
    ⟨e1, e2, e7, _, _, hM, hsq.rel, fun i' j' hi' hj' _ => hsm i' j' hi' hj'⟩ ?_ ?_
   ·rintro i e h2 hi ei en' ⟨e1, e2, e7, R, A, hM, hr, hA⟩
    refine W.block ?_
    refine W.rseq ?_
    simp (disch := first | omega | (simp only [vd]; done) | (simp only [vd]; omega)) only [vs, reduceIte, Nat.reduceEqDiff, ei]
    refine W.then (fun e' h3 => e' 1 = mV a ∧ e' 2 = .int .u8 u ∧ e' 7 = slc b n ∧ e' 8 = .int .i64 (i : Int) ∧ e' 16 = .int .i64 (n : Int) ∧ e' 17 = .int .i64 (i : Int) ∧ ∃ R A, MM mkI n0 h3 b R ∧ Rel (fun _ => True) n R A 2 ∧ ∀ i' j', i' < n → j' < n → ((i' ≠ j' ∨ i ≤ i') → -128 ≤ A i' j' ∧ A i' j' ≤ 127)) ?_ ?_
    ·skip
     refine W.rseq ?_
     simp (disch := first | omega | (simp only [vd]; done) | (simp only [vd]; omega)) only [vs, reduceIte, Nat.reduceEqDiff]
     refine W.gen [1, 2, 7, 8, 9, 16, 17] (fun e he => ?_)
     simp only [List.forall_mem_cons, List.not_mem_nil, false_implies, implies_true, and_true, e0_zero, e0_succ, put_some, put_none, reduceIte, Nat.reduceEqDiff, e1, e2, e7, ei, en'] at he
     obtain ⟨e1, e2, e7, e8, e9, e16, e17⟩ := he
     refine W.for (fun j e' h3 => e' 1 = mV a ∧ e' 2 = .int .u8 u ∧ e' 7 = slc b n ∧ e' 8 = .int .i64 (i : Int) ∧ e' 16 = .int .i64 (n : Int) ∧ e' 17 = .int .i64 (i : Int) ∧ ∃ R A, MM mkI n0 h3 b R ∧ Rel (fun _ => True) n R A 2 ∧ ∀ i' j', i' < n → j' < n → ((i' ≠ j' ∨ i ≤ i') → -128 ≤ A i' j' ∧ A i' j' ≤ 127)) 0 i (by omega) rfl (Nat.zero_le _) e9
      ⟨e1, e2, e7, e8, e16, e17, R, A, hM, hr, hA⟩ ?_
     rintro j e h3 hj ej ⟨e1, e2, e7, e8, e16, e17, R, A, hM, hr, hA⟩
     by_cases hlt : j < i
     ·obtain ⟨ci, i1, i2, i3, i4, i5, i6, i7⟩ := mkI_row hM (i := i) (by rw [hr.rows]; omega) (by rw [hr.cols i hi]; omega)
      obtain ⟨cj, j1, j2, j3, j4, j5, j6, j7⟩ := mkI_row hM (i := j) (by rw [hr.rows]; omega) (by rw [hr.cols j (by omega)]; omega)
      rw [hr.cols i hi] at i1
      rw [hr.cols j (by omega)] at j1
      have d1 := rd_iC i2 (n := j) (by rw [hr.cols i hi]; omega)
      have hw := wr_iC (n := i) (x0 := (ent R i j).1) (x1 := (ent R i j).2) j2 (by rw [hr.cols j (by omega)]; omega)
      refine W.rseq ?_
      simp (disch := first | omega | (simp only [vd]; done) | (simp only [vd]; omega)) only [vs, reduceIte, Nat.reduceEqDiff, ej, e8]
      refine W.cond true (by rfl) (fun _ => ?_) nofun
      refine W.skip ?_
      simp (disch := first | omega | (simp only [vd]; done) | (simp only [vd]; omega)) only [vs, reduceIte, Nat.reduceEqDiff]
      refine ⟨hlt, ?_⟩
      refine W.drawL (fun _ => True) [false, false, false, false, false, false, false, false, false, false, false, false, false, false] (by rfl) ?_
      simp (disch := first | omega | (simp only [vd]; done) | (simp only [vd]; omega)) only [vs, reduceIte, Nat.reduceEqDiff, e7, e8, ej, i1, j1, d1, hw, Int.toNat_natCast]
      refine ⟨gr0_set j2, ?_⟩
      simp (disch := first | omega | (simp only [vd]; done) | (simp only [vd]; omega)) only [vs, reduceIte, Nat.reduceEqDiff, ej, e1, e2, e7, e8, e16, e17]
      refine ⟨_, fun i' j' => if i' = j ∧ j' = i then A i j else A i' j', j7 h3 (VH.le_refl _) ((R.getD j []).set i (ent R i j)) (by rw [List.length_set]), hr.set (by omega) hi (hr.lim i j hi (by omega)) (hr.len i j hi (by omega)) (hr.val i j hi (by omega)) trivial (fun i' j' _ _ => rfl), fun i' j' hi' hj' hc => ?_⟩
      show -128 ≤ (if i' = j ∧ j' = i then A i j else A i' j') ∧ (if i' = j ∧ j' = i then A i j else A i' j') ≤ 127
      split
      ·exact hA i j hi (by omega) (.inl (by omega))
      ·exact hA i' j' hi' hj' hc
     ·obtain rfl : j = i := by omega
      refine W.rseq ?_
      simp (disch := first | omega | (simp only [vd]; done) | (simp only [vd]; omega)) only [vs, reduceIte, Nat.reduceEqDiff, ej, e8]
      refine W.cond false (by rfl) nofun (fun _ => W.exit ?_)
      simp (disch := first | omega | (simp only [vd]; done) | (simp only [vd]; omega)) only [vs, reduceIte, Nat.reduceEqDiff, e1, e2, e7, e8, e16, e17]
      exact ⟨R, A, hM, hr, hA⟩
    ·rintro e h3 ⟨e1, e2, e7, e8, e16, e17, R, A, hM, hr, hA⟩
     obtain ⟨ci, i1, i2, i3, i4, i5, i6, i7⟩ := mkI_row hM (i := i) (by rw [hr.rows]; omega) (by rw [hr.cols i hi]; omega)
     rw [hr.cols i hi] at i1
     have d1 := rd_iC i2 (n := i) (by rw [hr.cols i hi]; omega)
     refine W.drawL (fun _ => True) [false, false, false, false, false, false, false, false, false, false, false, false, false, false, true, true, false, false] (by rfl) ?_
     simp (disch := first | omega | (simp only [vd]; done) | (simp only [vd]; omega)) only [vs, reduceIte, Nat.reduceEqDiff, e2, e7, e8, i1, d1, Int.toNat_natCast]
     refine rSmall_r u (by omega) (by omega) fun h4 hx4 => ?_
     simp (disch := first | omega | (simp only [vd]; done) | (simp only [vd]; omega)) only [vs, reduceIte, Nat.reduceEqDiff, gr_le hx4, gr0_le hx4]
     refine rAdd_r (ent R i i) (cz u) (hr.okr hi hi (by decide)) (Okr.cz (Sk.small (z := u) (by omega) (by omega)) (by decide)) fun h5 hx5 => ?_
     rw [hr.val i i hi hi, iz_cz]
     have hAi := hA i i hi hi (.inr (Nat.le_refl _))
     have hx45 := hx4.trans hx5
     have hB := hx45.2 ci i4
     rw [i2] at hB
     obtain ⟨y, hy⟩ : ∃ y, y = A i i + u := ⟨_, rfl⟩
     rw [← hy]
     have hw := wr_iC (n := i) (x0 := (cz y).1) (x1 := (cz y).2) hB (by rw [hr.cols i hi]; omega)
     simp (disch := first | omega | (simp only [vd]; done) | (simp only [vd]; omega)) only [vs, reduceIte, Nat.reduceEqDiff, gr_le hx5, gr0_le hx5, hw, Int.toNat_natCast]
     refine ⟨gr0_set hB, ?_⟩
     simp (disch := first | omega | (simp only [vd]; done) | (simp only [vd]; omega)) only [vs, reduceIte, Nat.reduceEqDiff, e1, e2, e7, e8, e16, e17]
     refine ⟨_, fun i' j' => if i' = i ∧ j' = i then y else A i' j', i7 h5 hx45 ((R.getD i []).set i (cz y)) (by rw [List.length_set]), hr.set hi hi (Lim_dig _) (Sk.small (by omega) (by omega)) (iz_cz y) trivial (fun i' j' _ _ => rfl), fun i' j' hi' hj' hc => ?_⟩
     show -128 ≤ (if i' = i ∧ j' = i then y else A i' j') ∧ (if i' = i ∧ j' = i then y else A i' j') ≤ 127
     rw [if_neg (by omega)]
     exact hA i' j' hi' hj' (by omega)
   ·rintro e h2 ei ⟨e1, e2, e7, R, A, hM, hr, hA⟩
    simp (disch := first | omega | (simp only [vd]; done) | (simp only [vd]; omega)) only [vs, reduceIte, Nat.reduceEqDiff, e1, e7]
    exact ⟨R, A, hM, hr⟩
  ·rintro e h2 ⟨e1, e7, R, A, hM, hr⟩
   refine WF.mm 7 rfl hM (by rw [e7, hr.rows]) fun h3 hu3 hn3 _ => WF.done ?_
   have hRK := hr.matK (by omega)
   change W _ _ _ (e.put (some 7) (mV R)) _ _
   refine W.rseq ?_
   simp (disch := first | omega | (simp only [vd]; done) | (simp only [vd]; omega)) only [vs, reduceIte, Nat.reduceEqDiff, e1, e7]
   refine Definite_ok R hRK wd2 fun h4 hx4 => ?_
   simp (disch := first | omega | (simp only [vd]; done) | (simp only [vd]; omega)) only [vs, reduceIte, Nat.reduceEqDiff, e1]
   refine rDefinite_ok R hRK wd2 fun h5 hx5 => ?_
   simp (disch := first | omega | (simp only [vd]; done) | (simp only [vd]; omega)) only [vs, reduceIte, Nat.reduceEqDiff, e1, beq_self_eq_true]
   refine Definite_ok a hb wd120 fun h6 hx6 => ?_
   simp (disch := first | omega | (simp only [vd]; done) | (simp only [vd]; omega)) only [vs, reduceIte, Nat.reduceEqDiff, e1]
   refine rDefinite_ok a hb wd120 fun h7 hx7 => ?_
   simp (disch := first | omega | (simp only [vd]; done) | (simp only [vd]; omega)) only [vs, reduceIte, Nat.reduceEqDiff, beq_self_eq_true]
   refine awake_ok fun h8 hx8 => ?_
   simp (disch := first | omega | (simp only [vd]; done) | (simp only [vd]; omega)) only [vs, reduceIte, Nat.reduceEqDiff]
   refine W.ret ⟨.inr rfl, ?_⟩
   change Fin cfg _ _ _ _
   exact Fin.done (ress_1 rfl rfl) rfl
end Go.Proofs.Ytjpknabdmmkobaa
end
