/- Part 10 of the proof: Ba7, Re1, Re2, Stg, Re3, QmG, Mk1. -/
import Derived.Test.YtjpknabdmmkobaaZ9
set_option linter.unusedVariables false
set_option linter.unusedSimpArgs false
section
set_option maxRecDepth 20000
open Go Go.QM Go.Elim
namespace Go.Proofs.Ytjpknabdmmkobaa
variable {h : VH} {Q : Value → VH → Prop} {c : Cw Q}
variable {P : Raw → Prop} {n w i j k p : Nat} {R : List (List Raw)} {A : Fm}
theorem W.thenZ {P : Program} {C : Cfg} {e : Env} {h : VH} {Q : Exit → Env → VH → Prop} {a b : Code} (Q1 : Env → VH → Prop) (ha : W P C a e h fun x e1 h1 => match x with | .normal => Q1 e1 h1 | x => Q x e1 h1) (hb : ∀ e1 h1, Q1 e1 h1 → WF P C b e1 h1 Q) : W P C (.seq a b) e h Q :=
 W.seqZ (ha.mono fun x e1 h1 hx => by
  cases x with
  | normal => exact hb e1 h1 hx
  | _ => exact hx)
theorem zC_four (n : Nat) : (zC (.agg #[.bool false, .slice none 0 0, .bool false, .slice none 0 0]) (n * 4)).map nil1 = (List.replicate n rraw0).flatMap rC := by
 have h1 : zC (.agg #[.bool false, .slice none 0 0, .bool false, .slice none 0 0]) (n * 4) = (List.replicate n ()).flatMap fun _ => [.bool false, .slice none 0 0, .bool false, .slice none 0 0] := by
  unfold zC madeCells
  refine List.ext_getElem? fun i => ?_
  have hl : ((List.replicate n ()).flatMap fun _ => [Value.bool false, .slice none 0 0, .bool false, .slice none 0 0]).length = n * 4 := by simp
  by_cases hi : i < n * 4
  ·have h1 : i / 4 < n := by omega
   have := flat_get (c := fun _ : Unit => [Value.bool false, .slice none 0 0, .bool false, .slice none 0 0]) (s := 4) (fun _ => rfl) (List.replicate n ()) (i / 4) (i % 4) () (by simp [h1]) (by omega)
   have e : i / 4 * 4 + i % 4 = i := by omega
   rw [e] at this
   rw [this]
   simp only [Value.cells, Array.getElem?_toList]
   have h4 : i % 4 = 0 ∨ i % 4 = 1 ∨ i % 4 = 2 ∨ i % 4 = 3 := by omega
   rcases h4 with h2 | h2 | h2 | h2 <;> simp [h2, hi]
  ·rw [List.getElem?_eq_none (by simp; omega), List.getElem?_eq_none (by rw [hl]; omega)]
 rw [h1]
 induction n with
 | zero => rfl
 | succ n ih =>
  clear h1
  have h2 : zC (.agg #[.bool false, .slice none 0 0, .bool false, .slice none 0 0]) (n * 4) = (List.replicate n ()).flatMap fun _ => [.bool false, .slice none 0 0, .bool false, .slice none 0 0] := by
   unfold zC madeCells
   refine List.ext_getElem? fun i => ?_
   have hl : ((List.replicate n ()).flatMap fun _ => [Value.bool false, .slice none 0 0, .bool false, .slice none 0 0]).length = n * 4 := by simp
   by_cases hi : i < n * 4
   ·have h1 : i / 4 < n := by omega
    have := flat_get (c := fun _ : Unit => [Value.bool false, .slice none 0 0, .bool false, .slice none 0 0]) (s := 4) (fun _ => rfl) (List.replicate n ()) (i / 4) (i % 4) () (by simp [h1]) (by omega)
    have e : i / 4 * 4 + i % 4 = i := by omega
    rw [e] at this
    rw [this]
    simp only [Value.cells, Array.getElem?_toList]
    have h4 : i % 4 = 0 ∨ i % 4 = 1 ∨ i % 4 = 2 ∨ i % 4 = 3 := by omega
    rcases h4 with h2 | h2 | h2 | h2 <;> simp [h2, hi]
   ·rw [List.getElem?_eq_none (by simp; omega), List.getElem?_eq_none (by rw [hl]; omega)]
  rw [List.replicate_succ, List.replicate_succ, List.flatMap_cons, List.flatMap_cons, List.map_append, ih h2]
  rfl
theorem Rel.matK (hr : Rel P n R A w) (hn : n < 1099511627776) : MatK w R := by
 have h1 := hr.rows
 have h0 : ∀ i, ¬ i < n → R.getD i [] = [] := fun i hi => by simp [List.getElem?_eq_none (show R.length ≤ i by omega)]
 have h2 : ∀ i j, ¬ (i < n ∧ j < n) → ent R i j = raw0 := by
  intro i j hij
  unfold ent
  by_cases hi : i < n
  ·have := hr.cols i hi
   generalize R.getD i [] = r at *
   simp [List.getElem?_eq_none (show r.length ≤ j by omega)]
  ·rw [h0 i hi]; rfl
 refine ⟨fun i j => ?_, fun i j => ?_, by omega, fun i => ?_⟩
 ·by_cases hij : i < n ∧ j < n
  ·exact hr.lim i j hij.1 hij.2
  ·rw [h2 i j hij]; exact Lim.nil
 ·by_cases hij : i < n ∧ j < n
  ·exact hr.len i j hij.1 hij.2
  ·rw [h2 i j hij]; exact Nat.zero_le _
 ·by_cases hi : i < n
  ·rw [hr.cols i hi]; exact hn
  ·rw [h0 i hi]; decide
theorem Rel.isSq (hr : Rel P n R A w) (h1 : 1 ≤ n) (h2 : n ≤ 16) : IsSq R := by
 have h3 := hr.rows
 have h4 := hr.cols 0 (by omega)
 exact ⟨⟨by omega, by omega, by omega, by omega, fun i hi => by rw [hr.cols i (by omega), h4]⟩, by omega⟩
def colrep (A : Fm) (k : Nat) (b : Nat → Int) : Fm := fun i j => if j = k then b i else A i j
def fl (l : List Raw) : Nat → Int := fun i => iz (l.getD i raw0)
structure LisK (K : Nat) (l : List Raw) : Prop where
 lim : ∀ i, Lim (l.getD i raw0).2
 len : ∀ i, (l.getD i raw0).2.length ≤ K
 rows : l.length < 1099511627776
def sols (m : List (List Raw)) (b : List Raw) : List RRaw := (List.range m.length).map fun k => qz (det m.length (colrep (fm m) k (fl b))) (det m.length (fm m))
theorem Solve_ok {K : Nat} (m : List (List Raw)) (b : List Raw) (hm : MatK K m) (hb : LisK K b) (hK : wd K 16 + 5 < 1099511627776) (hq1 : IsSq m → b.length = m.length → det m.length (fm m) ≠ 0 → ∀ h1, h.le h1 → Q (.tuple #[rsV (sols m b), .int .i64 0]) h1)
  (hq3 : ¬ (IsSq m ∧ b.length = m.length) → ∀ h1, h.le h1 → Q (.tuple #[rsV [], .int .i64 3]) h1) (hq8 : IsSq m → b.length = m.length → det m.length (fm m) = 0 → ∀ h1, h.le h1 → Q (.tuple #[rsV [], .int .i64 8]) h1) :
  Runs Try.prog cfg 32 [mV m, isV b] h Q c := by
 have hK0 : K ≤ wd K 16 := wd_le K (Nat.zero_le 16)
 have hbl := hb.rows
 refine Runs.go Try.func32 rfl rfl (.refl _ _) ?_
 refine W.rseq ?_
 simp (disch := first | omega | (simp only [vd]; done) | (simp only [vd]; omega)) only [vs, reduceIte, Nat.reduceEqDiff]
 refine W.rseq ?_
 simp (disch := first | omega | (simp only [vd]; done) | (simp only [vd]; omega)) only [vs, reduceIte, Nat.reduceEqDiff]
 refine b_square_ok m hm.shape (fun hh1 hh2 => ?_) (fun hh n => ?_)
 ·have hs : IsSq m := ⟨hh1, hh2⟩
  have hn1 := hh1.1
  have hn2 := hh1.2.1
  simp (disch := first | omega | (simp only [vd]; done) | (simp only [vd]; omega)) only [vs, reduceIte, Nat.reduceEqDiff, extV]
  by_cases hbm : b.length = m.length
  ·refine W.seq (W.rseq ?_)
   simp (disch := first | omega | (simp only [vd]; done) | (simp only [vd]; omega)) only [vs, reduceIte, Nat.reduceEqDiff, Bool.not_true]
   refine W.cond false (by rfl) nofun (fun _ => ?_)
   refine W.skip ?_
   simp (disch := first | omega | (simp only [vd]; done) | (simp only [vd]; omega)) only [vs, reduceIte, Nat.reduceEqDiff]
   refine W.rseq ?_
   simp (disch := first | omega | (simp only [vd]; done) | (simp only [vd]; omega)) only [vs, reduceIte, Nat.reduceEqDiff]
   refine Det_ok m hm hK (fun _ h1 hx1 => ?_) (fun hh => absurd hs hh)
   have hdsk := det_sk (n := m.length) (A := fm m) (fun i j _ _ => hm.sk i j)
   have hwm := wd_le K hn2
   simp (disch := first | omega | (simp only [vd]; done) | (simp only [vd]; omega)) only [vs, reduceIte, Nat.reduceEqDiff, extV, Value.cells]
   have hcG : Cell (h1.push ⟨39, 0, [.bool (cz (det m.length (fm m))).1, u32S (cz (det m.length (fm m))).2]⟩) h1.next 39 [.bool (cz (det m.length (fm m))).1, u32S (cz (det m.length (fm m))).2] := Cell.new
   have hlG := VH.le_push h1 ⟨39, 0, [.bool (cz (det m.length (fm m))).1, u32S (cz (det m.length (fm m))).2]⟩
   have hnG := next_push (h := h1) (B := ⟨39, 0, [.bool (cz (det m.length (fm m))).1, u32S (cz (det m.length (fm m))).2]⟩)
   generalize h1.push ⟨39, 0, [.bool (cz (det m.length (fm m))).1, u32S (cz (det m.length (fm m))).2]⟩ = G at *
   refine W.seq (W.rseq ?_)
   simp (disch := first | omega | (simp only [vd]; done) | (simp only [vd]; omega)) only [vs, reduceIte, Nat.reduceEqDiff, hcG.rd2]
   refine Sign_r (cz _) (Okr.cz hdsk (by omega)) fun h2 hx2 => ?_
   rw [iz_cz]
   have hle2 := hx1.trans (hlG.trans hx2)
   by_cases h0 : det m.length (fm m) = 0
   ·have hsg : (det m.length (fm m)).sign = 0 := by rw [h0]; rfl
    simp (disch := first | omega | (simp only [vd]; done) | (simp only [vd]; omega)) only [vs, reduceIte, Nat.reduceEqDiff, hsg]
    refine W.cond true (by rfl) (fun _ => ?_) nofun
    refine W.rseq ?_
    simp (disch := first | omega | (simp only [vd]; done) | (simp only [vd]; omega)) only [vs, reduceIte, Nat.reduceEqDiff]
    refine W.ret ⟨.inr rfl, ?_⟩
    change Fin cfg _ _ _ _
    refine Fin.nil 4 ?_
    exact Fin.done (ress_tt rfl rfl rfl) (hq8 hs hbm h0 _ hle2)
   ·have hsg : (det m.length (fm m)).sign ≠ 0 := fun e => h0 (Int.sign_eq_zero_iff_zero.1 e)
    simp (disch := first | omega | (simp only [vd]; done) | (simp only [vd]; omega)) only [vs, reduceIte, Nat.reduceEqDiff]
    refine W.cond false (by rfl) nofun (fun _ => ?_)
    refine W.skip ?_
    simp (disch := first | omega | (simp only [vd]; done) | (simp only [vd]; omega)) only [vs, reduceIte, Nat.reduceEqDiff]
    have hc8 := hcG.mono hx2
    generalize h1.next = r8 at *
    refine W.rseqZ ?_
    simp (disch := first | omega | (simp only [vd]; done) | (simp only [vd]; omega)) only [vs, reduceIte, Nat.reduceEqDiff, mkE_ok, Int.toNat_natCast]
    refine WF.nilb h2.next rfl blk_push (WF.done ?_)
    rw [set_push, zC_four]
    have hB0 := blk_push (h := h2) (B := ⟨58, 4, (List.replicate m.length rraw0).flatMap rC⟩)
    have hl3 := VH.le_push h2 ⟨58, 4, (List.replicate m.length rraw0).flatMap rC⟩
    have hc8 := hc8.mono hl3
    have hle3 := hle2.trans hl3
    have hbo : h2.next < (h2.push ⟨58, 4, (List.replicate m.length rraw0).flatMap rC⟩).next := Nat.lt_succ_self _
    have hhb : h.next ≤ h2.next := hle2.1
    generalize h2.push ⟨58, 4, (List.replicate m.length rraw0).flatMap rC⟩ = H at *
    generalize h2.next = bo at *
    refine W.then (fun e' h' => e' 10 = slc bo m.length ∧ Up h.next h h' ∧ h'.blk bo = some ⟨58, 4, (sols m b).flatMap rC⟩) ?_ ?_
    ·skip
     refine W.rseq ?_
     simp (disch := first | omega | (simp only [vd]; done) | (simp only [vd]; omega)) only [vs, reduceIte, Nat.reduceEqDiff]
     refine W.gen [0, 1, 8, 10, 39, 40, 41] (fun e he => ?_)
     simp only [List.forall_mem_cons, List.not_mem_nil, false_implies, implies_true, and_true, e0_zero, e0_succ, put_some, put_none, reduceIte, Nat.reduceEqDiff] at he
     obtain ⟨e0, e1, e8, e10, e39, e40, e41⟩ := he
     refine W.range (fun k e h' => e 0 = mV m ∧ e 1 = isV b ∧ e 8 = .pointer (some ⟨r8, 0, none⟩) ∧ e 10 = slc bo m.length ∧ Up h.next h h' ∧ bo < h'.next ∧ Cell h' r8 39 [.bool (cz (det m.length (fm m))).1, u32S (cz (det m.length (fm m))).2] ∧
      ∃ X : List RRaw, h'.blk bo = some ⟨58, 4, X.flatMap rC⟩ ∧ X.length = m.length ∧ ∀ k', k' < k → X.getD k' rraw0 = (sols m b).getD k' rraw0) m.length (by omega) rfl e41 e40
      ⟨e0, e1, e8, e10, .of_le hle3 (Nat.le_refl _), hbo, hc8, _, hB0, by simp, fun k' hk' => by omega⟩ ?_ ?_
     ·rintro k e h' hk ei en ⟨e0, e1, e8, e10, hu, hbo', hc, X, hX, hXl, hXk⟩
      refine W.block ?_
      refine W.rseq ?_
      simp (disch := first | omega | (simp only [vd]; done) | (simp only [vd]; omega)) only [vs, reduceIte, Nat.reduceEqDiff, ei]
      refine W.rseq ?_
      simp (disch := first | omega | (simp only [vd]; done) | (simp only [vd]; omega)) only [vs, reduceIte, Nat.reduceEqDiff, e0]
      refine normal_mm m (hm.okm (by omega)) (fun e0 => by rw [e0] at hn1; simp at hn1) fun bw h3 hx3 hM => ?_
      simp (disch := first | omega | (simp only [vd]; done) | (simp only [vd]; omega)) only [vs, reduceIte, Nat.reduceEqDiff]
      refine W.thenZ (fun e' h4 => e' 0 = mV m ∧ e' 1 = isV b ∧ e' 8 = .pointer (some ⟨r8, 0, none⟩) ∧ e' 10 = slc bo m.length ∧ e' 11 = .int .i64 (k : Int) ∧ e' 12 = slc bw m.length ∧ e' 40 = .int .i64 (m.length : Int) ∧ e' 41 = .int .i64 (k : Int) ∧ Up h'.next h' h4 ∧ ∃ R, MM mkI h'.next h4 bw R ∧ Rel (fun _ => True) m.length R (colrep (fm m) k (fl b)) K) ?_ ?_
      ·skip
       refine W.rseq ?_
       simp (disch := first | omega | (simp only [vd]; done) | (simp only [vd]; omega)) only [vs, reduceIte, Nat.reduceEqDiff]
       refine W.gen [0, 1, 8, 10, 11, 12, 40, 41, 46, 47, 48] (fun e he => ?_)
       simp only [List.forall_mem_cons, List.not_mem_nil, false_implies, implies_true, and_true, e0_zero, e0_succ, put_some, put_none, reduceIte, Nat.reduceEqDiff, e0, e1, e8, e10, ei, en] at he
       obtain ⟨e0, e1, e8, e10, e11, e12, e40, e41, e46, e47, e48⟩ := he
       refine W.range (fun i e' h4 => e' 0 = mV m ∧ e' 1 = isV b ∧ e' 8 = .pointer (some ⟨r8, 0, none⟩) ∧ e' 10 = slc bo m.length ∧ e' 11 = .int .i64 (k : Int) ∧ e' 12 = slc bw m.length ∧ e' 40 = .int .i64 (m.length : Int) ∧ e' 41 = .int .i64 (k : Int) ∧ Up h'.next h' h4 ∧ ∃ R, MM mkI h'.next h4 bw R ∧ Rel (fun _ => True) m.length R (fun i' j' => if j' = k ∧ i' < i then fl b i' else fm m i' j') K) m.length (by omega) rfl e48 e47
        ⟨e0, e1, e8, e10, e11, e12, e40, e41, .of_le hx3 (Nat.le_refl _), _, hM, ?_⟩ ?_ ?_
       ·have := (hm.sqm hs).norm
        exact ⟨this.rows, this.cols, this.lim, this.len, fun i j hi hj => by rw [this.val i j hi hj, if_neg (by omega)], fun _ _ _ _ => trivial⟩
       ·rintro i e' h4 hi ei en ⟨e0, e1, e8, e10, e11, e12, e40, e41, hu4, R, hM, hr⟩
        obtain ⟨ci, i1, i2, i3, i4, i5, i6, i7⟩ := mkI_row hM (i := i) (by rw [hr.rows]; exact hi) (by rw [hr.cols i hi]; omega)
        rw [hr.cols i hi] at i1
        have hw := wr_iC (n := k) (x0 := (b.getD i raw0).1) (x1 := (b.getD i raw0).2) i2 (by rw [hr.cols i hi]; exact hk)
        have hib : i < b.length := by omega
        refine W.block ?_
        refine W.rseq ?_
        simp (disch := first | omega | (simp only [vd]; done) | (simp only [vd]; omega)) only [vs, reduceIte, Nat.reduceEqDiff, ei]
        refine W.drawL (fun _ => True) [false, false, false, false, false, false, false, false, false, false, false] (by rfl) ?_
        simp (disch := first | omega | (simp only [vd]; done) | (simp only [vd]; omega)) only [vs, reduceIte, Nat.reduceEqDiff, e1, e11, e12, ei, i1, hw, Int.toNat_natCast]
        refine ⟨gr0_set i2, ?_⟩
        simp (disch := first | omega | (simp only [vd]; done) | (simp only [vd]; omega)) only [vs, reduceIte, Nat.reduceEqDiff, ei, en, e0, e1, e8, e10, e11, e12, e40, e41]
        refine ⟨hu4.trans (.set i3), _, i7 h4 (VH.le_refl _) ((R.getD i []).set k (b.getD i raw0)) (by rw [List.length_set]), hr.set hi hk (hb.lim i) (hb.len i) rfl trivial fun i' j' hi' hj' => ?_⟩
        show (if j' = k ∧ i' < i + 1 then fl b i' else fm m i' j') = if i' = i ∧ j' = k then iz (b.getD i raw0) else (if j' = k ∧ i' < i then fl b i' else fm m i' j')
        by_cases hj : j' = k
        ·by_cases hii : i' = i
         ·rw [if_pos ⟨hj, by omega⟩, if_pos ⟨hii, hj⟩, hii]; rfl
         ·rw [if_neg (c := i' = i ∧ j' = k) (fun hh => hii hh.1)]
          by_cases hlt : i' < i
          ·rw [if_pos ⟨hj, by omega⟩, if_pos ⟨hj, hlt⟩]
          ·rw [if_neg (by omega), if_neg (by omega)]
        ·rw [if_neg (fun hh => hj hh.1), if_neg (fun hh => hj hh.2), if_neg (fun hh => hj hh.1)]
       ·rintro e' h4 ei ⟨e0, e1, e8, e10, e11, e12, e40, e41, hu4, R, hM, hr⟩
        simp (disch := first | omega | (simp only [vd]; done) | (simp only [vd]; omega)) only [vs, reduceIte, Nat.reduceEqDiff, e0, e1, e8, e10, e11, e12, e40, e41]
        refine ⟨hu4, R, hM, hr.congr fun i' j' hi' hj' => ?_⟩
        show (if j' = k ∧ i' < m.length then fl b i' else fm m i' j') = if j' = k then fl b i' else fm m i' j'
        by_cases hj : j' = k
        ·rw [if_pos ⟨hj, hi'⟩, if_pos hj]
        ·rw [if_neg (fun hh => hj hh.1), if_neg hj]
      ·rintro e' h4 ⟨e0, e1, e8, e10, e11, e12, e40, e41, hu4, R, hM, hr⟩
       refine WF.mm 12 rfl hM (by rw [e12, hr.rows]) fun h5 hu5 hn5 _ => WF.done ?_
       have hu45 := hu4.trans hu5
       have hx5 : h'.le h5 := hu45.le (VH.le_refl _) (Nat.le_refl _)
       change W _ _ _ (e'.put (some 12) (mV R)) _ _
       refine W.gen [0, 1, 8, 10, 11, 12, 40, 41] (fun e he => ?_)
       simp only [List.forall_mem_cons, List.not_mem_nil, false_implies, implies_true, and_true, e0_zero, e0_succ, put_some, put_none, reduceIte, Nat.reduceEqDiff, e0, e1, e8, e10, e11, e40, e41] at he
       obtain ⟨e0, e1, e8, e10, e11, e12, e40, e41⟩ := he
       refine W.rseq ?_
       simp (disch := first | omega | (simp only [vd]; done) | (simp only [vd]; omega)) only [vs, reduceIte, Nat.reduceEqDiff, e12]
       refine Det_ok R (hr.matK (by omega)) hK (fun _ h6 hx6 => ?_) (fun hh => absurd (hr.isSq hn1 hn2) hh)
       rw [hr.rows, det_congr (A := fm R) (B := colrep (fm m) k (fl b)) (fun i j hi hj => hr.val i j hi hj)]
       have hdk := det_sk (n := m.length) (A := colrep (fm m) k (fl b)) (w := K) (fun i j hi hj => hr.sk hi hj)
       simp (disch := first | omega | (simp only [vd]; done) | (simp only [vd]; omega)) only [vs, reduceIte, Nat.reduceEqDiff, extV, Value.cells]
       have hcG6 : Cell (h6.push ⟨39, 0, [.bool (cz (det m.length (colrep (fm m) k (fl b)))).1, u32S (cz (det m.length (colrep (fm m) k (fl b)))).2]⟩) h6.next 39 [.bool (cz (det m.length (colrep (fm m) k (fl b)))).1, u32S (cz (det m.length (colrep (fm m) k (fl b)))).2] := Cell.new
       have hlG6 := VH.le_push h6 ⟨39, 0, [.bool (cz (det m.length (colrep (fm m) k (fl b)))).1, u32S (cz (det m.length (colrep (fm m) k (fl b)))).2]⟩
       have hnG6 := next_push (h := h6) (B := ⟨39, 0, [.bool (cz (det m.length (colrep (fm m) k (fl b)))).1, u32S (cz (det m.length (colrep (fm m) k (fl b)))).2]⟩)
       generalize h6.push ⟨39, 0, [.bool (cz (det m.length (colrep (fm m) k (fl b)))).1, u32S (cz (det m.length (colrep (fm m) k (fl b)))).2]⟩ = G6 at *
       have hx7 := hx5.trans (hx6.trans hlG6)
       have hc7 := hc.mono hx7
       refine W.gen [0, 1, 8, 10, 11, 14, 40, 41] (fun e he => ?_)
       simp only [List.forall_mem_cons, List.not_mem_nil, false_implies, implies_true, and_true, e0_zero, e0_succ, put_some, put_none, reduceIte, Nat.reduceEqDiff, e0, e1, e8, e10, e11, e40, e41] at he
       obtain ⟨e0, e1, e8, e10, e11, e14, e40, e41⟩ := he
       refine W.reg ?_
       simp (disch := first | omega | (simp only [vd]; done) | (simp only [vd]; omega)) only [vs, reduceIte, Nat.reduceEqDiff, e8, e10, e11, e14, hcG6.rd2, hc7.rd2]
       refine New_ok (cz _) (cz _) (Okr.cz hdk (by omega)) (Okr.cz hdsk (by omega)) (fun hne h8 hx8 => ?_) (fun he => absurd (by rw [iz_cz] at he; exact he) h0)
       rw [iz_cz, iz_cz]
       have hx9 := hx7.trans hx8
       have hX9 : h8.blk bo = some ⟨58, 4, X.flatMap rC⟩ := by rw [hx9.2 bo hbo']; exact hX
       obtain ⟨y, hy⟩ : ∃ y, y = qz (det m.length (colrep (fm m) k (fl b))) (det m.length (fm m)) := ⟨_, rfl⟩
       rw [← hy]
       have hw := wr_rC (n := k) (x0 := y.1.1) (x1 := y.1.2) (x2 := y.2.1) (x3 := y.2.2) hX9 (by omega)
       simp (disch := first | omega | (simp only [vd]; done) | (simp only [vd]; omega)) only [vs, reduceIte, Nat.reduceEqDiff, extV, hw, e0, e1, e8, e10, e40, e41, Int.toNat_natCast]
       refine ⟨(hu.trans (.of_le hx9 hu.1)).trans (.set hhb), Nat.lt_of_lt_of_le hbo' hx9.1, ?_, _, blk_set, by simp [hXl], fun k' hk' => ?_⟩
       ·exact (hc7.mono hx8).set_ne ((hc7.mono hx8).ne hX9 (by decide))
       ·rw [QM.getD_set (by omega)]
        by_cases hkk : k' = k
        ·rw [if_pos hkk, hkk, hy]
         simp [sols, hk]
        ·rw [if_neg hkk]
         exact hXk k' (by omega)
     ·rintro e h' ei ⟨e0, e1, e8, e10, hu, hbo', hc, X, hX, hXl, hXk⟩
      have : X = sols m b := ext_getD rraw0 (by simp [hXl, sols]) (fun j hj => hXk j (by omega))
      subst this
      simp (disch := first | omega | (simp only [vd]; done) | (simp only [vd]; omega)) only [vs, reduceIte, Nat.reduceEqDiff, e10]
      exact ⟨hu, hX⟩
    ·rintro e h' ⟨e10, hu, hX⟩
     refine W.rseq ?_
     simp (disch := first | omega | (simp only [vd]; done) | (simp only [vd]; omega)) only [vs, reduceIte, Nat.reduceEqDiff, e10]
     refine W.ret ⟨.inr rfl, ?_⟩
     change Fin cfg _ _ _ _
     refine Fin.one 4 bo rfl hX ?_
     have hsl : (sols m b).length = m.length := by simp [sols]
     refine Fin.done (ress_tt (v1 := rsV (sols m b)) rfl ?_ rfl) (hq1 hs hbm h0 _ ((hu.trans (.set hhb)).le (VH.le_refl _) (Nat.le_refl _)))
     simp (disch := first | omega | (simp only [vd]; done) | (simp only [vd]; omega)) only [vs, reduceIte, Nat.reduceEqDiff]
     rw [fzT_sl rfl (by simp only [flat_len rC_len, hsl, Nat.zero_add]; exact Nat.le_refl _)]
     simp only [List.drop_zero]
     rw [List.take_of_length_le (by rw [flat_len rC_len, hsl]; exact Nat.le_refl _), ← hsl]
     rfl
  ·refine W.seq (W.rseq ?_)
   simp (disch := first | omega | (simp only [vd]; done) | (simp only [vd]; omega)) only [vs, reduceIte, Nat.reduceEqDiff, Bool.not_true]
   refine W.cond true (by rfl) (fun _ => ?_) nofun
   refine W.rseq ?_
   simp (disch := first | omega | (simp only [vd]; done) | (simp only [vd]; omega)) only [vs, reduceIte, Nat.reduceEqDiff]
   refine W.ret ⟨.inr rfl, ?_⟩
   change Fin cfg _ _ _ _
   refine Fin.nil 4 ?_
   exact Fin.done (ress_tt rfl rfl rfl) (hq3 (fun hh => hbm hh.2) _ (VH.le_refl _))
 ·simp (disch := first | omega | (simp only [vd]; done) | (simp only [vd]; omega)) only [vs, reduceIte, Nat.reduceEqDiff, extV]
  refine W.seq (W.rseq ?_)
  simp (disch := first | omega | (simp only [vd]; done) | (simp only [vd]; omega)) only [vs, reduceIte, Nat.reduceEqDiff, Bool.not_false]
  refine W.cond true (by rfl) (fun _ => ?_) nofun
  refine W.rseq ?_
  simp (disch := first | omega | (simp only [vd]; done) | (simp only [vd]; omega)) only [vs, reduceIte, Nat.reduceEqDiff]
  refine W.ret ⟨.inr rfl, ?_⟩
  change Fin cfg _ _ _ _
  refine Fin.nil 4 ?_
  exact Fin.done (ress_tt rfl rfl rfl) (hq3 (fun h2 => hh h2.1) _ (VH.le_refl _))
end Go.Proofs.Ytjpknabdmmkobaa
end

section
set_option maxRecDepth 20000
open Go Go.QM Go.Elim
namespace Go.Proofs.Ytjpknabdmmkobaa
variable {h : VH} {Q : Value → VH → Prop} {c : Cw Q}
variable {P : Raw → Prop} {n w i j k p : Nat} {R : List (List Raw)} {A : Fm}
theorem rZero_ok (rows cols : Nat) (hr : rows < 1099511627776) (hc : cols < 1099511627776) (hc0 : 0 < cols) (hq : ∀ b h1, h.le h1 → MM mkI h.next h1 b (mat rows cols fun _ _ => raw0) → Q (slc b rows) h1) :
  Runs Try.prog cfg 84 [.int .i64 (rows : Int), .int .i64 (cols : Int)] h Q c := by
 refine Runs.go Try.func84 rfl rfl (.refl _ _) ?_
 refine W.rseq ?_
 simp (disch := first | omega | (simp only [vd]; done) | (simp only [vd]; omega)) only [vs, reduceIte, Nat.reduceEqDiff]
 refine W.rseq ?_
 simp (disch := first | omega | (simp only [vd]; done) | (simp only [vd]; omega)) only [vs, reduceIte, Nat.reduceEqDiff, mkE_ok, Int.toNat_natCast]
 have h0 : MM mkI h.next (h.push ⟨34, 1, zC (.slice none 0 0) rows⟩) h.next (List.replicate rows []) := MM.new (zC_one rfl rows) (Nat.le_refl _)
 have hle := VH.le_push h ⟨34, 1, zC (.slice none 0 0) rows⟩
 generalize h.push ⟨34, 1, zC (.slice none 0 0) rows⟩ = H at *
 refine W.then (fun e' h' => e' 5 = slc h.next rows ∧ MM mkI h.next h' h.next (mat rows cols fun _ _ => raw0) ∧ Up h.next h h') ?_ ?_
 ·skip
  refine W.rseq ?_
  simp (disch := first | omega | (simp only [vd]; done) | (simp only [vd]; omega)) only [vs, reduceIte, Nat.reduceEqDiff]
  refine W.gen [1, 5, 9, 10, 11] (fun e he => ?_)
  simp only [List.forall_mem_cons, List.not_mem_nil, false_implies, implies_true, and_true, e0_zero, e0_succ, put_some, put_none, reduceIte, Nat.reduceEqDiff] at he
  obtain ⟨e1, e5, e9, e10, e11⟩ := he
  refine W.rangeZ (fun i e h' => e 1 = .int .i64 (cols : Int) ∧ e 5 = slc h.next rows ∧ ∃ R, MM mkI h.next h' h.next R ∧ Up h.next h h' ∧ R.length = rows ∧ (∀ j, j < i → R.getD j [] = List.replicate cols raw0)) rows (by omega) rfl e11 e10
   ⟨e1, e5, _, h0, .of_le hle (Nat.le_refl _), by simp, fun j hj => by omega⟩ ?_ ?_
  ·rintro i e h' hi ei en ⟨e1, e5, R, hR, hu, hRl, hRi⟩
   refine W.block ?_
   refine W.rseq ?_
   simp (disch := first | omega | (simp only [vd]; done) | (simp only [vd]; omega)) only [vs, reduceIte, Nat.reduceEqDiff, ei]
   obtain ⟨h2, k1, k2, k3, k4, k5, k6⟩ := mkI_make hR (i := i) (w := cols) (by omega) hu.1 hc0
   refine W.reg ?_
   simp (disch := first | omega | (simp only [vd]; done) | (simp only [vd]; omega)) only [vs, reduceIte, Nat.reduceEqDiff, ei, e1, e5, mkE_ok, Int.toNat_natCast, k1]
   refine FzQ.nilb h'.next rfl k2 (FzQ.done ?_)
   simp (disch := first | omega | (simp only [vd]; done) | (simp only [vd]; omega)) only [vs, reduceIte, Nat.reduceEqDiff, ei, en, e1, e5]
   refine ⟨_, k3, hu.trans k4, by simp [hRl], fun j hj => ?_⟩
   rw [QM.getD_set (by omega)]
   by_cases hji : j = i
   ·rw [if_pos hji]
   ·rw [if_neg hji]
    exact hRi j (by omega)
  ·rintro e h' ei ⟨e1, e5, R, hR, hu, hRl, hRi⟩
   have : R = mat rows cols fun _ _ => raw0 := ext_getD [] (by rw [mat_len]; exact hRl) (fun j hj => by
    rw [hRi j (by omega), mat_row (by omega), List.map_const', List.length_range])
   subst this
   simp (disch := first | omega | (simp only [vd]; done) | (simp only [vd]; omega)) only [vs, reduceIte, Nat.reduceEqDiff]
   exact ⟨e5, hR, hu⟩
 ·rintro e h' ⟨e5, hR, hu⟩
  refine W.rseq ?_
  simp (disch := first | omega | (simp only [vd]; done) | (simp only [vd]; omega)) only [vs, reduceIte, Nat.reduceEqDiff, e5]
  refine W.ret ⟨.inr rfl, ?_⟩
  change Fin cfg _ _ _ _
  exact Fin.done (ress_1 rfl rfl) (hq _ _ (hu.le (VH.le_refl _) (Nat.le_refl _)) hR)
def sel (m : List (List Raw)) (rs cs : List Nat) : List (List Raw) := mat rs.length cs.length fun i j => ent m (rs.getD i 0) (cs.getD j 0)
theorem Select_ok (m : List (List Raw)) (rs cs : List Nat) (hr : ∀ i, i < rs.length → rs.getD i 0 < m.length) (hc : ∀ i j, i < rs.length → j < cs.length → cs.getD j 0 < (m.getD (rs.getD i 0) []).length) (hl1 : rs.length < 1099511627776) (hl2 : cs.length < 1099511627776)
  (hq : ∀ h1, h.le h1 → Q (mV (sel m rs cs)) h1) : Runs Try.prog cfg 48 [mV m, nsN rs, nsN cs] h Q c := by
 have e1' : (rs.map Int.ofNat).length = rs.length := by simp
 have e2' : (cs.map Int.ofNat).length = cs.length := by simp
 refine Runs.go Try.func48 rfl rfl (.refl _ _) ?_
 refine W.rseq ?_
 simp (disch := first | omega | (simp only [vd]; done) | (simp only [vd]; omega)) only [vs, reduceIte, Nat.reduceEqDiff]
 refine W.rseq ?_
 simp (disch := first | omega | (simp only [vd]; done) | (simp only [vd]; omega)) only [vs, reduceIte, Nat.reduceEqDiff]
 refine W.then (fun e' h' => OR h.next h' (e' 7) (sel m rs cs) ∧ Up h.next h h') ?_ ?_
 ·skip
  refine W.rseq ?_
  simp (disch := first | omega | (simp only [vd]; done) | (simp only [vd]; omega)) only [vs, reduceIte, Nat.reduceEqDiff, e1']
  refine W.gen [0, 2, 7, 13, 14, 15] (fun e he => ?_)
  simp only [List.forall_mem_cons, List.not_mem_nil, false_implies, implies_true, and_true, e0_zero, e0_succ, put_some, put_none, reduceIte, Nat.reduceEqDiff] at he
  obtain ⟨e0, e2, e7, e13, e14, e15⟩ := he
  refine W.range (fun i e h' => e 0 = mV m ∧ e 2 = nsN cs ∧ e 13 = nsN rs ∧ OR h.next h' (e 7) ((List.range i).map fun i => (List.range cs.length).map fun j => ent m (rs.getD i 0) (cs.getD j 0)) ∧ Up h.next h h') rs.length (by omega) rfl e15 e14
   ⟨e0, e2, e13, by rw [e7]; exact OR.nil, .refl⟩ ?_ ?_
  ·rintro i e h1 hi ei en ⟨e0, e2, e13, hO, hu⟩
   obtain ⟨v7, e7⟩ : ∃ v, e 7 = v := ⟨_, rfl⟩
   rw [e7] at hO
   have hri := hr i hi
   have hi' : i < (rs.map Int.ofNat).length := by omega
   refine W.block ?_
   refine W.rseq ?_
   simp (disch := first | omega | (simp only [vd]; done) | (simp only [vd]; omega)) only [vs, reduceIte, Nat.reduceEqDiff, ei, e13, Int.toNat_natCast, nsN_get]
   refine W.rseq ?_
   simp (disch := first | omega | (simp only [vd]; done) | (simp only [vd]; omega)) only [vs, reduceIte, Nat.reduceEqDiff]
   refine W.thenZ (fun e' h' => e' 0 = mV m ∧ e' 2 = nsN cs ∧ e' 13 = nsN rs ∧ e' 14 = .int .i64 (rs.length : Int) ∧ e' 15 = .int .i64 (i : Int) ∧ e' 7 = v7 ∧ OI h1.next h' (e' 10) ((List.range cs.length).map fun j => ent m (rs.getD i 0) (cs.getD j 0)) ∧ h1.le h') ?_ ?_
   ·skip
    refine W.rseq ?_
    simp (disch := first | omega | (simp only [vd]; done) | (simp only [vd]; omega)) only [vs, reduceIte, Nat.reduceEqDiff, e2, e2']
    refine W.gen [0, 2, 7, 9, 10, 13, 14, 15, 19, 20, 21] (fun e he => ?_)
    simp only [List.forall_mem_cons, List.not_mem_nil, false_implies, implies_true, and_true, e0_zero, e0_succ, put_some, put_none, reduceIte, Nat.reduceEqDiff, ei, en, e0, e2, e7, e13] at he
    obtain ⟨e0, e2, e7, e9, e10, e13, e14, e15, e19, e20, e21⟩ := he
    refine W.range (fun j e' h' => e' 0 = mV m ∧ e' 2 = nsN cs ∧ e' 9 = .int .i64 ((rs.getD i 0 : Nat) : Int) ∧ e' 13 = nsN rs ∧ e' 14 = .int .i64 (rs.length : Int) ∧ e' 15 = .int .i64 (i : Int) ∧ e' 7 = v7 ∧ e' 19 = nsN cs ∧ OI h1.next h' (e' 10) ((List.range j).map fun j => ent m (rs.getD i 0) (cs.getD j 0)) ∧ h1.le h') cs.length (by omega) rfl e21 e20
     ⟨e0, e2, e9, e13, e14, e15, e7, e19, by rw [e10]; exact OI.nil, VH.le_refl _⟩ ?_ ?_
    ·rintro j e' h2 hj ej en ⟨e0, e2, e9, e13, e14, e15, e7, e19, hO, hl⟩
     obtain ⟨v10, e10⟩ : ∃ v, e' 10 = v := ⟨_, rfl⟩
     rw [e10] at hO
     have hj' : j < (cs.map Int.ofNat).length := by omega
     have hcj := hc i j hi hj
     refine W.block ?_
     refine W.rseq ?_
     simp (disch := first | omega | (simp only [vd]; done) | (simp only [vd]; omega)) only [vs, reduceIte, Nat.reduceEqDiff, ej, e19, Int.toNat_natCast, nsN_get]
     refine W.reg ?_
     obtain ⟨v', h4, k1, k2, k3, k4⟩ := hO.app (ent m (rs.getD i 0) (cs.getD j 0)) (by simp; omega) hl.1
     simp (disch := first | omega | (simp only [vd]; done) | (simp only [vd]; omega)) only [vs, reduceIte, Nat.reduceEqDiff, e0, e9, e10, hO.seen, Int.toNat_natCast, k1, e2, e13, e14, e15, e7, e19, ej, en]
     rw [k2.seen]
     exact ⟨by rw [range_map_succ]; exact k2, k3 h1 hl (Nat.le_refl _)⟩
    ·rintro e' h2 ej ⟨e0, e2, e9, e13, e14, e15, e7, e19, hO, hl⟩
     simp (disch := first | omega | (simp only [vd]; done) | (simp only [vd]; omega)) only [vs, reduceIte, Nat.reduceEqDiff, e0, e2, e13, e14, e15, e7]
     exact ⟨hO, hl⟩
   ·rintro e' h2 ⟨e0, e2, e13, e14, e15, e7, hO2, hl⟩
    have hol : ((List.range cs.length).map fun j => ent m (rs.getD i 0) (cs.getD j 0)).length = cs.length := by simp
    refine WF.own 10 rfl hO2 fun h3 hx3 hn3 _ => WF.done ?_
    have hl3 : h1.le h3 := hx3 h1 hl (Nat.le_refl _)
    obtain ⟨v', h4, k1, k2, k3, k4⟩ := OR.app (h := h3) ((List.range cs.length).map fun j => ent m (rs.getD i 0) (cs.getD j 0)) (Own.mono hO hl3) (by simp; omega) (Nat.le_trans hu.1 hl3.1)
    change W _ _ _ (e'.put (some 10) (isV ((List.range cs.length).map fun j => ent m (rs.getD i 0) (cs.getD j 0)))) _ _
    refine W.reg ?_
    simp (disch := first | omega | (simp only [vd]; done) | (simp only [vd]; omega)) only [vs, reduceIte, Nat.reduceEqDiff, e0, e2, e7, e13, e14, e15, show QM.seen v7 = v7 from Own.seen hO, k1]
    rw [show QM.seen v' = v' from Own.seen k2]
    exact ⟨by rw [range_map_succ]; exact k2, (hu.trans (.of_le hl3 hu.1)).trans (.of_app (Nat.le_of_lt k4) (Nat.le_trans hu.1 hl3.1) k3)⟩
  ·rintro e h1 ei ⟨e0, e2, e13, hO, hu⟩
   simp (disch := first | omega | (simp only [vd]; done) | (simp only [vd]; omega)) only [vs, reduceIte, Nat.reduceEqDiff]
   exact ⟨hO, hu⟩
 ·rintro e h1 ⟨hO, hu⟩
  refine W.rseq ?_
  simp (disch := first | omega | (simp only [vd]; done) | (simp only [vd]; omega)) only [vs, reduceIte, Nat.reduceEqDiff, show QM.seen (e 7) = e 7 from Own.seen hO]
  refine W.ret ⟨.inr rfl, ?_⟩
  change Fin cfg _ _ _ _
  refine Fin.own 6 rfl hO fun h2 hx2 _ => ?_
  exact Fin.done (ress_1 rfl rfl) (hq _ (hx2 _ (hu.le (VH.le_refl _) (Nat.le_refl _)) (Nat.le_refl _)))
theorem ON.seen {n0 : Nat} {v : Value} {l : List Int} (ho : ON n0 h v l) : QM.seen v = v := Own.seen ho
theorem first_ok (k more : Nat) (hk : k < 1099511627776) (hq : ∀ h1, h.le h1 → Q (nsN (List.range k ++ [more])) h1) : Runs Try.prog cfg 62 [.int .i64 (k : Int), .int .i64 (more : Int)] h Q c := by
 refine Runs.go Try.func62 rfl rfl (.refl _ _) ?_
 refine W.rseq ?_
 simp (disch := first | omega | (simp only [vd]; done) | (simp only [vd]; omega)) only [vs, reduceIte, Nat.reduceEqDiff]
 refine W.rseq ?_
 simp (disch := first | omega | (simp only [vd]; done) | (simp only [vd]; omega)) only [vs, reduceIte, Nat.reduceEqDiff]
 refine W.then (fun e' h' => e' 1 = .int .i64 (more : Int) ∧ ON h.next h' (e' 5) ((List.range k).map Int.ofNat) ∧ Up h.next h h') ?_ ?_
 ·skip
  refine W.rseq ?_
  simp (disch := first | omega | (simp only [vd]; done) | (simp only [vd]; omega)) only [vs, reduceIte, Nat.reduceEqDiff]
  refine W.gen [0, 1, 5, 6] (fun e he => ?_)
  simp only [List.forall_mem_cons, List.not_mem_nil, false_implies, implies_true, and_true, e0_zero, e0_succ, put_some, put_none, reduceIte, Nat.reduceEqDiff] at he
  obtain ⟨e0, e1, e5, e6⟩ := he
  refine W.for (fun i e h' => e 0 = .int .i64 (k : Int) ∧ e 1 = .int .i64 (more : Int) ∧ ON h.next h' (e 5) ((List.range i).map Int.ofNat) ∧ Up h.next h h') 0 k (by omega) rfl (Nat.zero_le _) e6 ⟨e0, e1, by rw [e5]; exact ON.nil, .refl⟩ ?_
  rintro i e h' hi ei ⟨e0, e1, hO, hu⟩
  by_cases hlt : i < k
  ·skip
   refine W.rseq ?_
   simp (disch := first | omega | (simp only [vd]; done) | (simp only [vd]; omega)) only [vs, reduceIte, Nat.reduceEqDiff, ei, e0]
   refine W.cond true (by rfl) (fun _ => ?_) nofun
   refine W.skip ?_
   simp (disch := first | omega | (simp only [vd]; done) | (simp only [vd]; omega)) only [vs, reduceIte, Nat.reduceEqDiff]
   refine ⟨hlt, W.reg ?_⟩
   obtain ⟨v', h4, k1, k2, k3, k4⟩ := hO.app (i : Int) (by simp; omega) hu.1
   simp (disch := first | omega | (simp only [vd]; done) | (simp only [vd]; omega)) only [vs, reduceIte, Nat.reduceEqDiff, ei, e0, e1, hO.seen, k1]
   rw [k2.seen]
   exact ⟨by rw [range_map_succ]; exact k2, hu.trans (.of_app (Nat.le_of_lt k4) hu.1 k3)⟩
  ·obtain rfl : i = k := by omega
   refine W.rseq ?_
   simp (disch := first | omega | (simp only [vd]; done) | (simp only [vd]; omega)) only [vs, reduceIte, Nat.reduceEqDiff, ei, e0]
   refine W.cond false (by rfl) nofun (fun _ => W.exit ?_)
   simp (disch := first | omega | (simp only [vd]; done) | (simp only [vd]; omega)) only [vs, reduceIte, Nat.reduceEqDiff]
   exact ⟨e1, hO, hu⟩
 ·rintro e h1 ⟨e1, hO, hu⟩
  obtain ⟨v', h4, k1, k2, k3, k4⟩ := hO.app (more : Int) (by simp; omega) hu.1
  refine W.rseq ?_
  simp (disch := first | omega | (simp only [vd]; done) | (simp only [vd]; omega)) only [vs, reduceIte, Nat.reduceEqDiff, hO.seen, e1, k1]
  rw [k2.seen]
  refine W.ret ⟨.inr rfl, ?_⟩
  change Fin cfg _ _ _ _
  refine Fin.own 4 rfl k2 fun h2 hx2 _ => ?_
  refine Fin.done (ress_1 (v1 := nsN (List.range k ++ [more])) rfl ?_) (hq _ (hx2 _ (k3 _ (hu.le (VH.le_refl _) (Nat.le_refl _)) (Nat.le_refl _)) (Nat.le_refl _)))
  simp [nsV, vlV, Env.put, QM.seen]
end Go.Proofs.Ytjpknabdmmkobaa
end

section
set_option maxRecDepth 20000
open Go Go.QM Go.Elim
namespace Go.Proofs.Ytjpknabdmmkobaa
variable {h : VH} {Q : Value → VH → Prop} {c : Cw Q}
variable {P : Raw → Prop} {n w i j k p : Nat} {R : List (List Raw)} {A : Fm}
theorem sel_sqm {K : Nat} {m : List (List Raw)} {rs cs : List Nat} (hlim : ∀ i j, Lim (ent m i j).2) (hlen : ∀ i j, (ent m i j).2.length ≤ K) (hrc : rs.length = cs.length) : Sqm rs.length K (sel m rs cs) := by
 refine ⟨mat_len, fun i hi => by rw [sel, mat_row hi, hrc]; simp, fun i j => ?_, fun i j => ?_⟩
 ·by_cases hij : i < rs.length ∧ j < cs.length
  ·rw [sel, mat_ent hij.1 hij.2]; exact hlim _ _
  ·rw [sel, mat_ent0 hij]; exact Lim.nil
 ·by_cases hij : i < rs.length ∧ j < cs.length
  ·rw [sel, mat_ent hij.1 hij.2]; exact hlen _ _
  ·rw [sel, mat_ent0 hij]; exact Nat.zero_le _
theorem sel_fm {m : List (List Raw)} {rs cs : List Nat} (hi : i < rs.length) (hj : j < cs.length) : fm (sel m rs cs) i j = fm m (rs.getD i 0) (cs.getD j 0) := by unfold fm; rw [sel, mat_ent hi hj]
theorem app_get {k x a : Nat} (ha : a < k + 1) : (List.range k ++ [x]).getD a 0 = if a < k then a else x := by
 by_cases h : a < k
 ·rw [if_pos h, List.getD_eq_getElem?_getD, List.getElem?_append_left (by simp; exact h)]
  simp [h]
 ·obtain rfl : a = k := by omega
  rw [if_neg h, List.getD_eq_getElem?_getD, List.getElem?_append_right (by simp)]
  simp
theorem rLeading_ok {K : Nat} (m : List (List Raw)) (hm : MatK K m) (hK : wd K 16 + 5 < 1099511627776) (hq1 : IsSq m → ∀ h1, h.le h1 → Q (.tuple #[isV (leads m), .bool true]) h1) (hq0 : ¬ IsSq m → ∀ h1, h.le h1 → Q (.tuple #[isV [], .bool false]) h1) :
  Runs Try.prog cfg 19 [mV m] h Q c := by
 refine Runs.go Try.func19 rfl rfl (.refl _ _) ?_
 refine W.rseq ?_
 simp (disch := first | omega | (simp only [vd]; done) | (simp only [vd]; omega)) only [vs, reduceIte, Nat.reduceEqDiff]
 refine W.rseq ?_
 simp (disch := first | omega | (simp only [vd]; done) | (simp only [vd]; omega)) only [vs, reduceIte, Nat.reduceEqDiff]
 refine r_Square_ok m hm.shape (fun hh1 hh2 => ?_) (fun hh => ?_)
 ·have hs : IsSq m := ⟨hh1, hh2⟩
  have hn1 := hh1.1
  have hn2 := hh1.2.1
  simp (disch := first | omega | (simp only [vd]; done) | (simp only [vd]; omega)) only [vs, reduceIte, Nat.reduceEqDiff, extV]
  refine W.seq (W.rseq ?_)
  simp (disch := first | omega | (simp only [vd]; done) | (simp only [vd]; omega)) only [vs, reduceIte, Nat.reduceEqDiff, Bool.not_true]
  refine W.cond false (by rfl) nofun (fun _ => ?_)
  refine W.skip ?_
  simp (disch := first | omega | (simp only [vd]; done) | (simp only [vd]; omega)) only [vs, reduceIte, Nat.reduceEqDiff]
  refine W.rseq ?_
  simp (disch := first | omega | (simp only [vd]; done) | (simp only [vd]; omega)) only [vs, reduceIte, Nat.reduceEqDiff]
  refine W.then (fun e' h' => OI h.next h' (e' 6) (leads m) ∧ Up h.next h h') ?_ ?_
  ·skip
   refine W.rseq ?_
   simp (disch := first | omega | (simp only [vd]; done) | (simp only [vd]; omega)) only [vs, reduceIte, Nat.reduceEqDiff]
   refine W.gen [0, 4, 6, 7] (fun e he => ?_)
   simp only [List.forall_mem_cons, List.not_mem_nil, false_implies, implies_true, and_true, e0_zero, e0_succ, put_some, put_none, reduceIte, Nat.reduceEqDiff] at he
   obtain ⟨e0, e4, e6, e7⟩ := he
   refine W.for (fun k e h' => e 0 = mV m ∧ e 4 = .int .i64 (m.length : Int) ∧ OI h.next h' (e 6) ((List.range k).map fun k => cz (det (k + 1) (fm m))) ∧ Up h.next h h') 0 m.length (by omega) rfl (Nat.zero_le _) e7 ⟨e0, e4, by rw [e6]; exact OI.nil, .refl⟩ ?_
   rintro k e h' hk ei ⟨e0, e4, hO, hu⟩
   by_cases hlt : k < m.length
   ·skip
    refine W.rseq ?_
    simp (disch := first | omega | (simp only [vd]; done) | (simp only [vd]; omega)) only [vs, reduceIte, Nat.reduceEqDiff, ei, e4]
    refine W.cond true (by rfl) (fun _ => ?_) nofun
    refine W.skip ?_
    simp (disch := first | omega | (simp only [vd]; done) | (simp only [vd]; omega)) only [vs, reduceIte, Nat.reduceEqDiff]
    refine ⟨hlt, W.reg ?_⟩
    simp (disch := first | omega | (simp only [vd]; done) | (simp only [vd]; omega)) only [vs, reduceIte, Nat.reduceEqDiff, e0, ei]
    refine first_ok k k (by omega) fun h1 hx1 => ?_
    simp (disch := first | omega | (simp only [vd]; done) | (simp only [vd]; omega)) only [vs, reduceIte, Nat.reduceEqDiff, ei]
    refine first_ok k k (by omega) fun h2 hx2 => ?_
    simp (disch := first | omega | (simp only [vd]; done) | (simp only [vd]; omega)) only [vs, reduceIte, Nat.reduceEqDiff]
    have hll : (List.range k ++ [k]).length = k + 1 := by simp
    refine Select_ok m _ _ (fun i hi => ?_) (fun i j hi hj => ?_) (by omega) (by omega) fun h3 hx3 => ?_
    ·rw [app_get (by omega)]; split <;> omega
    ·have hi2 : (List.range k ++ [k]).getD i 0 < m.length := by rw [app_get (by omega)]; split <;> omega
     rw [hh1.2.2.2.2 _ hi2, hh2, app_get (by omega)]
     split <;> omega
    simp (disch := first | omega | (simp only [vd]; done) | (simp only [vd]; omega)) only [vs, reduceIte, Nat.reduceEqDiff]
    refine rDet_ok _ (sel_sqm hm.lim hm.len rfl) (by omega) (by rw [hll]; have := wd_le K (show k + 1 ≤ 16 by omega); omega) fun h4 hx4 => ?_
    rw [det_congr (B := fm m) (fun i j hi hj => by
     rw [sel_fm hi hj, app_get (by omega), app_get (by omega)]
     congr 1 <;> (split <;> omega)), hll]
    have hx := (hx1.trans hx2).trans (hx3.trans hx4)
    obtain ⟨v', h5, k1, k2, k3, k4⟩ := (hO.mono hx).app (cz (det (k + 1) (fm m))) (by simp; omega) (Nat.le_trans hu.1 hx.1)
    simp (disch := first | omega | (simp only [vd]; done) | (simp only [vd]; omega)) only [vs, reduceIte, Nat.reduceEqDiff, hO.seen, k1, ei, e0, e4]
    refine ⟨?_, Up.trans (hu.trans (.of_le hx hu.1)) (.of_app (Nat.le_of_lt k4) (Nat.le_trans hu.1 hx.1) k3)⟩
    rw [k2.seen, range_map_succ]
    exact k2
   ·obtain rfl : k = m.length := by omega
    refine W.rseq ?_
    simp (disch := first | omega | (simp only [vd]; done) | (simp only [vd]; omega)) only [vs, reduceIte, Nat.reduceEqDiff, ei, e4]
    refine W.cond false (by rfl) nofun (fun _ => W.exit ?_)
    simp (disch := first | omega | (simp only [vd]; done) | (simp only [vd]; omega)) only [vs, reduceIte, Nat.reduceEqDiff]
    exact ⟨hO, hu⟩
  ·rintro e h' ⟨hO, hu⟩
   refine W.rseq ?_
   simp (disch := first | omega | (simp only [vd]; done) | (simp only [vd]; omega)) only [vs, reduceIte, Nat.reduceEqDiff, hO.seen]
   refine W.ret ⟨.inr rfl, ?_⟩
   change Fin cfg _ _ _ _
   refine Fin.own 2 rfl hO fun h2 hx2 _ => ?_
   exact Fin.done (ress_tt rfl rfl rfl) (hq1 hs _ (hx2 _ (hu.le (VH.le_refl _) (Nat.le_refl _)) (Nat.le_refl _)))
 ·simp (disch := first | omega | (simp only [vd]; done) | (simp only [vd]; omega)) only [vs, reduceIte, Nat.reduceEqDiff, extV]
  refine W.seq (W.rseq ?_)
  simp (disch := first | omega | (simp only [vd]; done) | (simp only [vd]; omega)) only [vs, reduceIte, Nat.reduceEqDiff, Bool.not_false]
  refine W.cond true (by rfl) (fun _ => ?_) nofun
  refine W.rseq ?_
  simp (disch := first | omega | (simp only [vd]; done) | (simp only [vd]; omega)) only [vs, reduceIte, Nat.reduceEqDiff]
  refine W.ret ⟨.inr rfl, ?_⟩
  change Fin cfg _ _ _ _
  refine Fin.nil 2 ?_
  exact Fin.done (ress_tt rfl rfl rfl) (hq0 hh _ (VH.le_refl _))
def SymP (m : List (List Raw)) : Prop := ∀ i, i < m.length → ∀ j, j < i → fm m i j = fm m j i
instance (m : List (List Raw)) : Decidable (SymP m) := by unfold SymP; infer_instance
theorem rSymmetric_ok {K : Nat} (m : List (List Raw)) (hm : MatK K m) (hK : K < 1099511627776) (hs : IsSq m) (hq : ∀ h1, h.le h1 → Q (.bool (decide (SymP m))) h1) : Runs Try.prog cfg 82 [mV m] h Q c := by
 have hml := hs.1.2.1
 refine Runs.go Try.func82 rfl rfl (.refl _ _) ?_
 refine W.rseq ?_
 simp (disch := first | omega | (simp only [vd]; done) | (simp only [vd]; omega)) only [vs, reduceIte, Nat.reduceEqDiff]
 refine W.then (fun e' h' => h.le h' ∧ SymP m) ?_ ?_
 ·skip
  refine W.rseq ?_
  simp (disch := first | omega | (simp only [vd]; done) | (simp only [vd]; omega)) only [vs, reduceIte, Nat.reduceEqDiff]
  refine W.gen [0, 5, 6, 7] (fun e he => ?_)
  simp only [List.forall_mem_cons, List.not_mem_nil, false_implies, implies_true, and_true, e0_zero, e0_succ, put_some, put_none, reduceIte, Nat.reduceEqDiff] at he
  obtain ⟨e0, e5, e6, e7⟩ := he
  refine W.range (fun i e h' => e 0 = mV m ∧ h.le h' ∧ ∀ i', i' < i → ∀ j, j < i' → fm m i' j = fm m j i') m.length (by omega) rfl e7 e6 ⟨e0, VH.le_refl _, fun i' hi' => by omega⟩ ?_ ?_
  ·rintro i e h2 hi ei en ⟨e0, hl, hI⟩
   refine W.block ?_
   refine W.rseq ?_
   simp (disch := first | omega | (simp only [vd]; done) | (simp only [vd]; omega)) only [vs, reduceIte, Nat.reduceEqDiff, ei]
   refine W.rseq ?_
   simp (disch := first | omega | (simp only [vd]; done) | (simp only [vd]; omega)) only [vs, reduceIte, Nat.reduceEqDiff]
   refine W.gen [0, 3, 4, 6, 7] (fun e he => ?_)
   simp only [List.forall_mem_cons, List.not_mem_nil, false_implies, implies_true, and_true, e0_zero, e0_succ, put_some, put_none, reduceIte, Nat.reduceEqDiff, e0, ei, en] at he
   obtain ⟨e0, e3, e4, e6, e7⟩ := he
   refine W.mono (Q := fun x e' h' => (x = .normal ∧ e' 0 = mV m ∧ e' 6 = .int .i64 (m.length : Int) ∧ e' 7 = .int .i64 (i : Int) ∧ h.le h' ∧ ∀ j, j < i → fm m i j = fm m j i) ∨ (x = .ret ∧ ¬ SymP m ∧ h.le h' ∧ e' 2 = .bool false)) (W.for (fun j e h' => e 0 = mV m ∧ e 3 = .int .i64 (i : Int) ∧ e 6 = .int .i64 (m.length : Int) ∧ e 7 = .int .i64 (i : Int) ∧ h.le h' ∧ ∀ j', j' < j → fm m i j' = fm m j' i) 0 i (by omega) rfl (Nat.zero_le _) e4 ⟨e0, e3, e6, e7, hl, fun j hj => by omega⟩ ?_) ?_
   ·rintro j e h3 hj ej ⟨e0, e3, e6, e7, hl, hJ⟩
    by_cases hlt : j < i
    ·have c1 := hs.1.2.2.2.2 i hi
     have c2 := hs.1.2.2.2.2 j (by omega)
     have c3 := hs.2
     refine W.rseq ?_
     simp (disch := first | omega | (simp only [vd]; done) | (simp only [vd]; omega)) only [vs, reduceIte, Nat.reduceEqDiff, ej, e3]
     refine W.cond true (by rfl) (fun _ => ?_) nofun
     refine W.skip ?_
     simp (disch := first | omega | (simp only [vd]; done) | (simp only [vd]; omega)) only [vs, reduceIte, Nat.reduceEqDiff]
     refine ⟨hlt, ?_⟩
     refine W.dseqL (fun _ => True) [false, false, false, false, false, false, false, false, false, false, false, false, false, false, false, false] (by rfl) ?_
     simp (disch := first | omega | (simp only [vd]; done) | (simp only [vd]; omega)) only [vs, reduceIte, Nat.reduceEqDiff, e0, e3, ej, Int.toNat_natCast]
     refine rCmp_r (ent m i j) (ent m j i) ((hm.okm hK).at i j) ((hm.okm hK).at j i) fun h4 hx4 => ?_
     simp (disch := first | omega | (simp only [vd]; done) | (simp only [vd]; omega)) only [vs, reduceIte, Nat.reduceEqDiff, gr_le hx4, gr0_le hx4]
     by_cases he : fm m i j = fm m j i
     ·have hz : (iz (ent m i j) - iz (ent m j i)).sign = 0 := by
       have : iz (ent m i j) = iz (ent m j i) := he
       rw [this, Int.sub_self]; rfl
      simp (disch := first | omega | (simp only [vd]; done) | (simp only [vd]; omega)) only [vs, reduceIte, Nat.reduceEqDiff, hz]
      refine W.cond false (by rfl) nofun (fun _ => ?_)
      refine W.skip ?_
      simp (disch := first | omega | (simp only [vd]; done) | (simp only [vd]; omega)) only [vs, reduceIte, Nat.reduceEqDiff, e0, e3, e6, e7, ej]
      refine ⟨hl.trans hx4, fun j' hj' => ?_⟩
      by_cases hjj : j' = j
      ·rw [hjj]; exact he
      ·exact hJ j' (by omega)
     ·have hz : (iz (ent m i j) - iz (ent m j i)).sign ≠ 0 := fun e0 => he (by
       have := Int.sign_eq_zero_iff_zero.1 e0
       show iz (ent m i j) = iz (ent m j i)
       omega)
      simp (disch := first | omega | (simp only [vd]; done) | (simp only [vd]; omega)) only [vs, reduceIte, Nat.reduceEqDiff]
      refine W.cond true (by rfl) (fun _ => ?_) nofun
      refine W.rseq ?_
      simp (disch := first | omega | (simp only [vd]; done) | (simp only [vd]; omega)) only [vs, reduceIte, Nat.reduceEqDiff]
      exact W.ret (.inr ⟨rfl, fun hd => he (hd i hi j hlt), hl.trans hx4, rfl⟩)
    ·obtain rfl : j = i := by omega
     refine W.rseq ?_
     simp (disch := first | omega | (simp only [vd]; done) | (simp only [vd]; omega)) only [vs, reduceIte, Nat.reduceEqDiff, ej, e3]
     refine W.cond false (by rfl) nofun (fun _ => W.exit ?_)
     simp (disch := first | omega | (simp only [vd]; done) | (simp only [vd]; omega)) only [vs, reduceIte, Nat.reduceEqDiff]
     exact .inl ⟨e0, e6, e7, hl, hJ⟩
   ·rintro x e h3 (⟨rfl, e0, e6, e7, hl, hJ⟩ | ⟨rfl, hns, hl, e2⟩)
    ·simp (disch := first | omega | (simp only [vd]; done) | (simp only [vd]; omega)) only [vs, reduceIte, Nat.reduceEqDiff, e0, e6, e7]
     refine ⟨hl, fun i' hi' => ?_⟩
     by_cases hii : i' = i
     ·rw [hii]; exact hJ
     ·exact hI i' (by omega)
    ·rw [decide_eq_false hns] at hq
     exact ⟨.inr rfl, _, _, _, .refl _ _, ress_t rfl, by rw [e2]; exact hq _ hl⟩
  ·rintro e h2 ei ⟨e0, hl, hI⟩
   simp (disch := first | omega | (simp only [vd]; done) | (simp only [vd]; omega)) only [vs, reduceIte, Nat.reduceEqDiff]
   exact ⟨hl, hI⟩
 ·rintro e h2 ⟨hl, hd⟩
  refine W.rseq ?_
  simp (disch := first | omega | (simp only [vd]; done) | (simp only [vd]; omega)) only [vs, reduceIte, Nat.reduceEqDiff]
  rw [decide_eq_true hd] at hq
  exact W.ret ⟨.inr rfl, _, _, _, .refl _ _, ress_t rfl, hq _ hl⟩
theorem rDefinite_ok {K : Nat} (m : List (List Raw)) (hm : MatK K m) (hK : wd K 16 + 5 < 1099511627776) (hq : ∀ h1, h.le h1 → Q (.bool (decide (DefP m))) h1) :
  Runs Try.prog cfg 42 [mV m] h Q c := by
 have hK0 : K ≤ wd K 16 := wd_le K (Nat.zero_le 16)
 refine Runs.go Try.func42 rfl rfl (.refl _ _) ?_
 refine W.rseq ?_
 simp (disch := first | omega | (simp only [vd]; done) | (simp only [vd]; omega)) only [vs, reduceIte, Nat.reduceEqDiff]
 refine W.rseq ?_
 simp (disch := first | omega | (simp only [vd]; done) | (simp only [vd]; omega)) only [vs, reduceIte, Nat.reduceEqDiff]
 refine rLeading_ok m hm hK (fun hs h1 hx1 => ?_) (fun hh h1 hx1 => ?_)
 ·have hml := hs.1.2.1
  simp (disch := first | omega | (simp only [vd]; done) | (simp only [vd]; omega)) only [vs, reduceIte, Nat.reduceEqDiff, extV]
  refine W.seq (W.rseq ?_)
  simp (disch := first | omega | (simp only [vd]; done) | (simp only [vd]; omega)) only [vs, reduceIte, Nat.reduceEqDiff, Bool.not_true]
  refine rSymmetric_ok m hm (by omega) hs fun h2 hx2 => ?_
  by_cases hsy : SymP m
  ·rw [decide_eq_true hsy]
   simp (disch := first | omega | (simp only [vd]; done) | (simp only [vd]; omega)) only [vs, reduceIte, Nat.reduceEqDiff, Bool.not_true]
   refine W.cond false (by rfl) nofun (fun _ => ?_)
   refine W.skip ?_
   simp (disch := first | omega | (simp only [vd]; done) | (simp only [vd]; omega)) only [vs, reduceIte, Nat.reduceEqDiff]
   refine W.then (fun e' h' => h.le h' ∧ DefP m) ?_ ?_
   ·skip
    refine W.rseq ?_
    simp (disch := first | omega | (simp only [vd]; done) | (simp only [vd]; omega)) only [vs, reduceIte, Nat.reduceEqDiff]
    refine W.gen [19, 20, 21] (fun e he => ?_)
    simp only [List.forall_mem_cons, List.not_mem_nil, false_implies, implies_true, and_true, e0_zero, e0_succ, put_some, put_none, reduceIte, Nat.reduceEqDiff, leads_len] at he
    obtain ⟨e19, e20, e21⟩ := he
    refine W.range (fun i e h' => e 19 = isV (leads m) ∧ h.le h' ∧ ∀ i', i' < i → 0 < det (i' + 1) (fm m)) m.length (by omega) rfl e21 e20 ⟨e19, hx1.trans hx2, fun i' hi' => by omega⟩ ?_ ?_
    ·rintro i e h2 hi ei en ⟨e19, hl, hI⟩
     have hll : i < (leads m).length := by rw [leads_len]; exact hi
     have hdk := det_sk (n := i + 1) (A := fm m) (fun a b _ _ => hm.sk a b)
     have hw := wd_le K (show i + 1 ≤ 16 by omega)
     refine W.block ?_
     refine W.rseq ?_
     simp (disch := first | omega | (simp only [vd]; done) | (simp only [vd]; omega)) only [vs, reduceIte, Nat.reduceEqDiff, ei, e19, Int.toNat_natCast, Value.cells, leads_get hi]
     have hcG : Cell (h2.push ⟨39, 0, [.bool (cz (det (i + 1) (fm m))).1, u32S (cz (det (i + 1) (fm m))).2]⟩) h2.next 39 [.bool (cz (det (i + 1) (fm m))).1, u32S (cz (det (i + 1) (fm m))).2] := Cell.new
     have hlG := VH.le_push h2 ⟨39, 0, [.bool (cz (det (i + 1) (fm m))).1, u32S (cz (det (i + 1) (fm m))).2]⟩
     have hnG := next_push (h := h2) (B := ⟨39, 0, [.bool (cz (det (i + 1) (fm m))).1, u32S (cz (det (i + 1) (fm m))).2]⟩)
     generalize h2.push ⟨39, 0, [.bool (cz (det (i + 1) (fm m))).1, u32S (cz (det (i + 1) (fm m))).2]⟩ = G at *
     refine W.rseq ?_
     simp (disch := first | omega | (simp only [vd]; done) | (simp only [vd]; omega)) only [vs, reduceIte, Nat.reduceEqDiff, hcG.rd2]
     refine rSign_r (cz _) (Okr.cz hdk (by omega)) fun h4 hx4 => ?_
     rw [iz_cz]
     by_cases hp : 0 < det (i + 1) (fm m)
     ·have hs1 : (det (i + 1) (fm m)).sign = 1 := Int.sign_eq_one_of_pos hp
      simp (disch := first | omega | (simp only [vd]; done) | (simp only [vd]; omega)) only [vs, reduceIte, Nat.reduceEqDiff, hs1]
      refine W.cond false (by rfl) nofun (fun _ => ?_)
      refine W.skip ?_
      simp (disch := first | omega | (simp only [vd]; done) | (simp only [vd]; omega)) only [vs, reduceIte, Nat.reduceEqDiff, ei, en, e19]
      refine ⟨hl.trans (hlG.trans hx4), fun i' hi' => ?_⟩
      by_cases hii : i' = i
      ·rw [hii]; exact hp
      ·exact hI i' (by omega)
     ·have hs1 : (det (i + 1) (fm m)).sign ≤ 0 := (sign_le _).2 (by omega)
      simp (disch := first | omega | (simp only [vd]; done) | (simp only [vd]; omega)) only [vs, reduceIte, Nat.reduceEqDiff]
      refine W.cond true (by rfl) (fun _ => ?_) nofun
      refine W.rseq ?_
      simp (disch := first | omega | (simp only [vd]; done) | (simp only [vd]; omega)) only [vs, reduceIte, Nat.reduceEqDiff]
      rw [decide_eq_false (fun hd => hp (hd.2 i hi).2)] at hq
      exact W.ret ⟨.inr rfl, _, _, _, .refl _ _, ress_t rfl, hq _ (hl.trans (hlG.trans hx4))⟩
    ·rintro e h2 ei ⟨e19, hl, hI⟩
     simp (disch := first | omega | (simp only [vd]; done) | (simp only [vd]; omega)) only [vs, reduceIte, Nat.reduceEqDiff]
     exact ⟨hl, hs, fun i hi => ⟨hsy i hi, hI i hi⟩⟩
   ·rintro e h2 ⟨hl, hd⟩
    refine W.rseq ?_
    simp (disch := first | omega | (simp only [vd]; done) | (simp only [vd]; omega)) only [vs, reduceIte, Nat.reduceEqDiff]
    rw [decide_eq_true hd] at hq
    exact W.ret ⟨.inr rfl, _, _, _, .refl _ _, ress_t rfl, hq _ hl⟩
  ·rw [decide_eq_false hsy]
   simp (disch := first | omega | (simp only [vd]; done) | (simp only [vd]; omega)) only [vs, reduceIte, Nat.reduceEqDiff, Bool.not_false]
   refine W.cond true (by rfl) (fun _ => ?_) nofun
   refine W.rseq ?_
   simp (disch := first | omega | (simp only [vd]; done) | (simp only [vd]; omega)) only [vs, reduceIte, Nat.reduceEqDiff]
   rw [decide_eq_false (fun hd => hsy fun i hi => (hd.2 i hi).1)] at hq
   exact W.ret ⟨.inr rfl, _, _, _, .refl _ _, ress_t rfl, hq _ (hx1.trans hx2)⟩
 ·simp (disch := first | omega | (simp only [vd]; done) | (simp only [vd]; omega)) only [vs, reduceIte, Nat.reduceEqDiff, extV]
  refine W.seq (W.rseq ?_)
  simp (disch := first | omega | (simp only [vd]; done) | (simp only [vd]; omega)) only [vs, reduceIte, Nat.reduceEqDiff, Bool.not_false]
  refine W.cond true (by rfl) (fun _ => ?_) nofun
  refine W.rseq ?_
  simp (disch := first | omega | (simp only [vd]; done) | (simp only [vd]; omega)) only [vs, reduceIte, Nat.reduceEqDiff]
  rw [decide_eq_false (fun hd => hh hd.1)] at hq
  exact W.ret ⟨.inr rfl, _, _, _, .refl _ _, ress_t rfl, hq _ hx1⟩
end Go.Proofs.Ytjpknabdmmkobaa
end

section
open Go Go.QM Go.Elim
namespace Go.Proofs.Ytjpknabdmmkobaa
variable {k i j : Nat} {A : Fm}
theorem elim_stgs (A : Fm) : ∀ (m t : Nat) (E : Fm), (∀ a b, t ≤ a → t ≤ b → a < t + m → b < t + m → E a b = (stgs A t).1 (a - t) (b - t)) → (∀ l, t ≤ l → l + 1 < t + m → (stgs A l).1 0 0 ≠ 0) → 0 < m →
  elim m t E (stgs A t).2 false = (stgs A (t + m - 1)).1 0 0
 | 0, t, E, h1, h2, h3 => absurd h3 (Nat.lt_irrefl _)
 | 1, t, E, h1, h2, h3 => by
  have h4 := h1 t t (Nat.le_refl _) (Nat.le_refl _) (by omega) (by omega)
  rw [Nat.sub_self] at h4
  rw [show t + 1 - 1 = t by omega, ← h4]
  unfold elim
  by_cases h0 : E t t = 0
  ·rw [piv_none (fun q hq1 hq2 => by have hq3 : q < t + 1 := hq2; rw [show q = t by omega]; exact h0), h0]
  ·rw [piv_some (Nat.le_refl _) (by omega) (fun r hr1 hr2 => by omega) h0]
   simp only [if_true]
   rfl
 | m + 2, t, E, h1, h2, h3 => by
  have h4 := h1 t t (Nat.le_refl _) (Nat.le_refl _) (by omega) (by omega)
  rw [Nat.sub_self] at h4
  have h0 : E t t ≠ 0 := by rw [h4]; exact h2 t (Nat.le_refl _) (by omega)
  unfold elim
  rw [piv_some (Nat.le_refl _) (by omega) (fun r hr1 hr2 => by omega) h0]
  simp only [if_true]
  have h5 : E t t = (stgs A (t + 1)).2 := h4
  rw [h5, elim_stgs A (m + 1) (t + 1) (Elim.step E (stgs A t).2 t) (fun a b ha hb ha2 hb2 => ?_) (fun l hl1 hl2 => h2 l (by omega) (by omega)) (by omega), show t + 1 + (m + 1) - 1 = t + (m + 2) - 1 by omega]
  unfold Elim.step
  rw [if_pos ⟨by omega, by omega⟩, h4, h1 a b (by omega) (by omega) (by omega) (by omega), h1 a t (by omega) (by omega) (by omega) (by omega), h1 t b (by omega) (by omega) (by omega) (by omega)]
  show _ = ((stgs A t).1 0 0 * (stgs A t).1 (a - (t + 1) + 1) (b - (t + 1) + 1) - (stgs A t).1 (a - (t + 1) + 1) 0 * (stgs A t).1 0 (b - (t + 1) + 1)) / (stgs A t).2
  rw [show a - (t + 1) + 1 = a - t by omega, show b - (t + 1) + 1 = b - t by omega, Nat.sub_self]
theorem det_stgs (A : Fm) (k : Nat) (h : ∀ l, l < k → (stgs A l).1 0 0 ≠ 0) : det (k + 1) A = (stgs A k).1 0 0 := by
 have := elim_stgs A (k + 1) 0 A (fun a b _ _ _ _ => rfl) (fun l _ hl => h l (by omega)) (by omega)
 rw [show 0 + (k + 1) - 1 = k by omega] at this
 exact this
theorem stgs_map (A : Fm) (f g : Nat → Nat) (k : Nat) (hf : ∀ a, a < k → f a = a) (hg : ∀ a, a < k → g a = a) (hf2 : ∀ a, k ≤ a → k ≤ f a) (hg2 : ∀ a, k ≤ a → k ≤ g a) :
  ∀ t, t ≤ k → (∀ a b, (stgs (fun a b => A (f a) (g b)) t).1 a b = (stgs A t).1 (f (a + t) - t) (g (b + t) - t)) ∧ (stgs (fun a b => A (f a) (g b)) t).2 = (stgs A t).2
 | 0, _ => ⟨fun a b => rfl, rfl⟩
 | t + 1, ht => by
  obtain ⟨h1, h2⟩ := stgs_map A f g k hf hg hf2 hg2 t (by omega)
  have hft : f (0 + t) - t = 0 := by rw [hf _ (by omega)]; omega
  have hgt : g (0 + t) - t = 0 := by rw [hg _ (by omega)]; omega
  have hf3 : ∀ a, f (a + 1 + t) - t = f (a + (t + 1)) - (t + 1) + 1 := by
   intro a
   rw [show a + 1 + t = a + (t + 1) by omega]
   by_cases ha : a + (t + 1) < k
   ·rw [hf _ ha]; omega
   ·have := hf2 (a + (t + 1)) (by omega); omega
  have hg3 : ∀ a, g (a + 1 + t) - t = g (a + (t + 1)) - (t + 1) + 1 := by
   intro a
   rw [show a + 1 + t = a + (t + 1) by omega]
   by_cases ha : a + (t + 1) < k
   ·rw [hg _ ha]; omega
   ·have := hg2 (a + (t + 1)) (by omega); omega
  refine ⟨fun a b => ?_, ?_⟩
  ·show nxt _ _ a b = nxt _ _ _ _
   unfold nxt
   rw [h1 0 0, h1 (a + 1) (b + 1), h1 (a + 1) 0, h1 0 (b + 1), h2, hft, hgt, hf3, hg3]
  ·show (stgs _ t).1 0 0 = (stgs A t).1 0 0
   rw [h1 0 0, hft, hgt]
def bord (A : Fm) (k i j : Nat) : Fm := fun a b => A (if a < k then a else k + i) (if b < k then b else k + j)
theorem det_bord (A : Fm) (k i j : Nat) (h : ∀ l, l < k → (stgs A l).1 0 0 ≠ 0) : det (k + 1) (bord A k i j) = (stgs A k).1 i j := by
 have hm := stgs_map A (fun a => if a < k then a else k + i) (fun b => if b < k then b else k + j) k (fun a ha => if_pos ha) (fun a ha => if_pos ha) (fun a ha => by show k ≤ if a < k then a else k + i; rw [if_neg (by omega)]; omega) (fun a ha => by show k ≤ if a < k then a else k + j; rw [if_neg (by omega)]; omega)
 have hb : bord A k i j = fun a b => A ((fun a => if a < k then a else k + i) a) ((fun b => if b < k then b else k + j) b) := rfl
 rw [hb, det_stgs _ k (fun l hl => ?_), (hm k (Nat.le_refl _)).1]
 ·simp only [Nat.zero_add, Nat.lt_irrefl, if_false, Nat.add_sub_cancel_left]
 ·rw [(hm l (by omega)).1]
  simp only [Nat.zero_add, hl, if_true, Nat.sub_self]
  exact h l hl
theorem piv_lead (A : Fm) (n : Nat) : (∀ l, l < n → (stgs A l).1 0 0 ≠ 0) ↔ ∀ l, l < n → det (l + 1) A ≠ 0 := by
 constructor
 ·intro h l hl
  rw [det_stgs A l (fun k hk => h k (by omega))]
  exact h l hl
 ·intro h l
  induction l using Nat.strongRecOn with
  | _ l ih =>
   intro hl
   rw [← det_stgs A l (fun k hk => ih k hk (by omega))]
   exact h l hl
end Go.Proofs.Ytjpknabdmmkobaa
end

section
set_option maxRecDepth 20000
open Go Go.QM Go.Elim
namespace Go.Proofs.Ytjpknabdmmkobaa
variable {h : VH} {Q : Value → VH → Prop} {c : Cw Q}
variable {P : Raw → Prop} {n w i j k p : Nat} {R : List (List Raw)} {A : Fm}
def rstage (m : List (List Raw)) (k : Nat) : List (List Raw) := mat (m.length - k) (m.length - k) fun i j => cz (det (k + 1) (bord (fm m) k i j))
theorem rStage_ok {K : Nat} (m : List (List Raw)) (k : Nat) (hm : MatK K m) (hK : wd K 16 + 5 < 1099511627776) (hs : IsSq m) (hk : k < m.length) (hq : ∀ h1, h.le h1 → Q (mV (rstage m k)) h1) :
  Runs Try.prog cfg 60 [mV m, .int .i64 (k : Int)] h Q c := by
 obtain ⟨hh1, hh2⟩ := hs
 have hn2 := hh1.2.1
 obtain ⟨d, hd⟩ : ∃ d, m.length - k = d := ⟨_, rfl⟩
 have hdi : (m.length : Int) - (k : Int) = (d : Int) := by omega
 refine Runs.go Try.func60 rfl rfl (.refl _ _) ?_
 refine W.rseq ?_
 simp (disch := first | omega | (simp only [vd]; done) | (simp only [vd]; omega)) only [vs, reduceIte, Nat.reduceEqDiff]
 refine W.rseq ?_
 simp (disch := first | omega | (simp only [vd]; done) | (simp only [vd]; omega)) only [vs, reduceIte, Nat.reduceEqDiff]
 refine W.rseq ?_
 simp (disch := first | omega | (simp only [vd]; done) | (simp only [vd]; omega)) only [vs, reduceIte, Nat.reduceEqDiff, hdi]
 refine rZero_ok d d (by omega) (by omega) (by omega) fun b h1 hx1 hM => ?_
 simp (disch := first | omega | (simp only [vd]; done) | (simp only [vd]; omega)) only [vs, reduceIte, Nat.reduceEqDiff]
 refine W.then (fun e' h' => e' 6 = slc b d ∧ MM mkI h.next h' b (rstage m k) ∧ Up h.next h h') ?_ ?_
 ·skip
  refine W.rseq ?_
  simp (disch := first | omega | (simp only [vd]; done) | (simp only [vd]; omega)) only [vs, reduceIte, Nat.reduceEqDiff]
  refine W.gen [0, 1, 6, 16, 17, 18] (fun e he => ?_)
  simp only [List.forall_mem_cons, List.not_mem_nil, false_implies, implies_true, and_true, e0_zero, e0_succ, put_some, put_none, reduceIte, Nat.reduceEqDiff] at he
  obtain ⟨e0, e1, e6, e16, e17, e18⟩ := he
  refine W.range (fun i e h' => e 0 = mV m ∧ e 1 = .int .i64 (k : Int) ∧ e 6 = slc b d ∧ ∃ R, MM mkI h.next h' b R ∧ Up h.next h h' ∧ R.length = d ∧ (∀ i', i' < d → (R.getD i' []).length = d) ∧ ∀ i', i' < i → ∀ j', j' < d → ent R i' j' = cz (det (k + 1) (bord (fm m) k i' j'))) d (by omega) rfl e18 e17
   ⟨e0, e1, e6, _, hM, .of_le hx1 (Nat.le_refl _), mat_len, fun i' hi' => by rw [mat_row hi']; simp, fun i' hi' => by omega⟩ ?_ ?_
  ·rintro i e h2 hi ei en ⟨e0, e1, e6, R, hR, hu, hRl, hRc, hRi⟩
   obtain ⟨wv, i1, i2, i3, i4⟩ := hR.head (i := i) (by omega)
   rw [hRc i hi] at i4
   refine W.block ?_
   refine W.rseq ?_
   simp (disch := first | omega | (simp only [vd]; done) | (simp only [vd]; omega)) only [vs, reduceIte, Nat.reduceEqDiff, ei]
   refine W.rseq ?_
   simp (disch := first | omega | (simp only [vd]; done) | (simp only [vd]; omega)) only [vs, reduceIte, Nat.reduceEqDiff, e6, i1, i2, i4, Int.toNat_natCast]
   refine W.gen [0, 1, 6, 7, 17, 18, 25, 26] (fun e he => ?_)
   simp only [List.forall_mem_cons, List.not_mem_nil, false_implies, implies_true, and_true, e0_zero, e0_succ, put_some, put_none, reduceIte, Nat.reduceEqDiff, e0, e1, e6, ei, en, i4] at he
   obtain ⟨e0, e1, e6, e7, e17, e18, e25, e26⟩ := he
   refine W.range (fun j e h' => e 0 = mV m ∧ e 1 = .int .i64 (k : Int) ∧ e 6 = slc b d ∧ e 7 = .int .i64 (i : Int) ∧ e 17 = .int .i64 (d : Int) ∧ e 18 = .int .i64 (i : Int) ∧ ∃ R, MM mkI h.next h' b R ∧ Up h.next h h' ∧ R.length = d ∧ (∀ i', i' < d → (R.getD i' []).length = d) ∧ (∀ i', i' < i → ∀ j', j' < d → ent R i' j' = cz (det (k + 1) (bord (fm m) k i' j'))) ∧ ∀ j', j' < j → ent R i j' = cz (det (k + 1) (bord (fm m) k i j'))) d (by omega) rfl e26 e25
    ⟨e0, e1, e6, e7, e17, e18, R, hR, hu, hRl, hRc, hRi, fun j' hj' => by omega⟩ ?_ ?_
   ·rintro j e h3 hj ej en ⟨e0, e1, e6, e7, e17, e18, R, hR, hu, hRl, hRc, hRi, hRj⟩
    obtain ⟨ci, i1, i2, i3, i4, i5, i6, i7⟩ := mkI_row hR (i := i) (by omega) (by rw [hRc i hi]; omega)
    rw [hRc i hi] at i1
    have hki : (k : Int) + (i : Int) = ((k + i : Nat) : Int) := by omega
    have hkj : (k : Int) + (j : Int) = ((k + j : Nat) : Int) := by omega
    refine W.block ?_
    refine W.rseq ?_
    simp (disch := first | omega | (simp only [vd]; done) | (simp only [vd]; omega)) only [vs, reduceIte, Nat.reduceEqDiff, ej]
    refine W.drawL (fun _ => True) [false, false, false, false, false, false, false, false, false, false, true, false, false, false, false, true, true, true, false, false] (by rfl) ?_
    simp (disch := first | omega | (simp only [vd]; done) | (simp only [vd]; omega)) only [vs, reduceIte, Nat.reduceEqDiff, e0, e1, e6, e7, ej, i1, Int.toNat_natCast, hki]
    refine first_ok k (k + i) (by omega) fun g1 hg1 => ?_
    simp (disch := first | omega | (simp only [vd]; done) | (simp only [vd]; omega)) only [vs, reduceIte, Nat.reduceEqDiff, gr_le hg1, gr0_le hg1, e1, ej, hkj]
    refine first_ok k (k + j) (by omega) fun g2 hg2 => ?_
    simp (disch := first | omega | (simp only [vd]; done) | (simp only [vd]; omega)) only [vs, reduceIte, Nat.reduceEqDiff, gr_le hg2, gr0_le hg2]
    have hl1 : (List.range k ++ [k + i]).length = k + 1 := by simp
    have hl2 : (List.range k ++ [k + j]).length = k + 1 := by simp
    refine Select_ok m _ _ (fun a ha => ?_) (fun a a' ha ha' => ?_) (by omega) (by omega) fun g3 hg3 => ?_
    ·rw [app_get (by omega)]; split <;> omega
    ·have hi2 : (List.range k ++ [k + i]).getD a 0 < m.length := by rw [app_get (by omega)]; split <;> omega
     rw [hh1.2.2.2.2 _ hi2, hh2, app_get (by omega)]
     split <;> omega
    simp (disch := first | omega | (simp only [vd]; done) | (simp only [vd]; omega)) only [vs, reduceIte, Nat.reduceEqDiff, gr_le hg3, gr0_le hg3]
    refine rDet_ok _ (sel_sqm hm.lim hm.len (by rw [hl1, hl2])) (by omega) (by rw [hl1]; have := wd_le K (show k + 1 ≤ 16 by omega); omega) fun g4 hg4 => ?_
    rw [hl1, det_congr (B := bord (fm m) k i j) (fun a a' ha ha' => by rw [sel_fm (by omega) (by omega), app_get ha, app_get ha']; rfl)]
    have hg : h3.le g4 := hg1.trans (hg2.trans (hg3.trans hg4))
    have hB := hg.2 ci i4
    rw [i2] at hB
    obtain ⟨y, hy⟩ : ∃ y, y = cz (det (k + 1) (bord (fm m) k i j)) := ⟨_, rfl⟩
    rw [← hy]
    have hw := wr_iC (n := j) (x0 := y.1) (x1 := y.2) hB (by rw [hRc i hi]; omega)
    simp (disch := first | omega | (simp only [vd]; done) | (simp only [vd]; omega)) only [vs, reduceIte, Nat.reduceEqDiff, gr_le hg4, gr0_le hg4, hw, Int.toNat_natCast]
    refine ⟨gr0_set hB, ?_⟩
    simp (disch := first | omega | (simp only [vd]; done) | (simp only [vd]; omega)) only [vs, reduceIte, Nat.reduceEqDiff, ej, en, e0, e1, e6, e7, e17, e18]
    have hrow : ∀ i', i' < d → (R.set i ((R.getD i []).set j y)).getD i' [] = if i' = i then (R.getD i []).set j y else R.getD i' [] := fun i' hi' => QM.getD_set (by omega)
    refine ⟨_, i7 g4 hg ((R.getD i []).set j y) (by rw [List.length_set]), hu.trans ((Up.of_le hg hu.1).trans (.set i3)), by simp [hRl], fun i' hi' => ?_, fun i' hi' j' hj' => ?_, fun j' hj' => ?_⟩
    ·rw [hrow i' hi']
     split
     ·rw [List.length_set]; exact hRc i hi
     ·exact hRc i' hi'
    ·unfold ent
     rw [hrow i' (by omega), if_neg (by omega)]
     exact hRi i' hi' j' hj'
    ·unfold ent
     rw [hrow i hi, if_pos rfl, QM.getD_set (by rw [hRc i hi]; omega)]
     by_cases hjj : j' = j
     ·rw [if_pos hjj, hjj, hy]
     ·rw [if_neg hjj]
      exact hRj j' (by omega)
   ·rintro e h3 ej ⟨e0, e1, e6, e7, e17, e18, R, hR, hu, hRl, hRc, hRi, hRj⟩
    simp (disch := first | omega | (simp only [vd]; done) | (simp only [vd]; omega)) only [vs, reduceIte, Nat.reduceEqDiff, e0, e1, e6, e17, e18]
    refine ⟨R, hR, hu, hRl, hRc, fun i' hi' j' hj' => ?_⟩
    by_cases hii : i' = i
    ·rw [hii]; exact hRj j' hj'
    ·exact hRi i' (by omega) j' hj'
  ·rintro e h2 ei ⟨e0, e1, e6, R, hR, hu, hRl, hRc, hRi⟩
   have : R = rstage m k := ext_getD [] (by rw [rstage, mat_len, hd]; exact hRl) (fun i' hi' => by
    rw [rstage, mat_row (by omega)]
    refine ext_getD raw0 (by rw [hRc i' (by omega)]; simp [hd]) fun j' hj' => ?_
    rw [hRc i' (by omega)] at hj'
    have h5 := hRi i' (by omega) j' hj'
    unfold ent at h5
    rw [h5]
    simp [show j' < m.length - k by omega])
   subst this
   simp (disch := first | omega | (simp only [vd]; done) | (simp only [vd]; omega)) only [vs, reduceIte, Nat.reduceEqDiff, e6]
   exact ⟨hR, hu⟩
 ·rintro e h2 ⟨e6, hR, hu⟩
  refine W.rseq ?_
  simp (disch := first | omega | (simp only [vd]; done) | (simp only [vd]; omega)) only [vs, reduceIte, Nat.reduceEqDiff, e6]
  refine W.ret ⟨.inr rfl, ?_⟩
  change Fin cfg _ _ _ _
  refine Fin.mm 4 rfl hR (by rw [rstage, mat_len, hd]; rfl) fun h3 hu3 _ => ?_
  exact Fin.done (ress_1 rfl rfl) (hq _ ((hu.trans hu3).le (VH.le_refl _) (Nat.le_refl _)))
theorem sl_head {C : Cfg} {α : Type} {cl : α → List Value} {l : List α} {e' s s2 b0 b1 : Nat} {z z' : Value} {kk : TK} {k1 : IntKind} (hcl : ∀ x, (cl x).length = s2) (he : C.T e' = some ⟨kk, s2, b1, z'⟩) (n : Nat) (h1 : n ≤ l.length) :
  slcT C (some ⟨.slice e', s, b0, z⟩) (slV cl l) none (some (.int k1 (n : Int))) none = some (slV cl (l.take n)) := by
 have := sl_slV (lo := none) (hi := some (.int k1 (n : Int))) (mx := none) (lo' := none) (hi' := some (n : Int)) (mx' := none) (a := 0) (b := n) (d := l.length) (C := C) (s := s) (b0 := b0) (z := z) (l := l) hcl he rfl rfl rfl (by unfold cutB; simp; omega) (Nat.zero_le _) h1
 rw [this]
 simp
theorem rStages_ok {K : Nat} (m : List (List Raw)) (hm : MatK K m) (hK : wd K 16 + 5 < 1099511627776) (hq1 : StOk m → ∀ h1, h.le h1 → Q (.tuple #[m3V (stagesM m), .bool true]) h1) (hq0 : ¬ StOk m → ∀ h1, h.le h1 → Q (.tuple #[m3V [], .bool false]) h1) :
  Runs Try.prog cfg 17 [mV m] h Q c := by
 refine Runs.go Try.func17 rfl rfl (.refl _ _) ?_
 refine W.rseq ?_
 simp (disch := first | omega | (simp only [vd]; done) | (simp only [vd]; omega)) only [vs, reduceIte, Nat.reduceEqDiff]
 refine W.rseq ?_
 simp (disch := first | omega | (simp only [vd]; done) | (simp only [vd]; omega)) only [vs, reduceIte, Nat.reduceEqDiff]
 refine rLeading_ok m hm hK (fun hs h1 hx1 => ?_) (fun hh h1 hx1 => ?_)
 ·have hml := hs.1.2.1
  have hm1 := hs.1.1
  have hll : (leads m).length = m.length := leads_len
  simp (disch := first | omega | (simp only [vd]; done) | (simp only [vd]; omega)) only [vs, reduceIte, Nat.reduceEqDiff, extV]
  refine W.seq (W.rseq ?_)
  simp (disch := first | omega | (simp only [vd]; done) | (simp only [vd]; omega)) only [vs, reduceIte, Nat.reduceEqDiff, Bool.not_true]
  refine W.cond false (by rfl) nofun (fun _ => ?_)
  refine W.skip ?_
  simp (disch := first | omega | (simp only [vd]; done) | (simp only [vd]; omega)) only [vs, reduceIte, Nat.reduceEqDiff]
  refine W.then (fun e' h' => e' 0 = mV m ∧ h.le h' ∧ StOk m) ?_ ?_
  ·have hsl : slcT cfg (some ⟨.slice 39, 1, 24, .slice none 0 0⟩) (isV (leads m)) none (some (.int .i64 ((m.length : Int) - 1))) none = some (isV ((leads m).take (m.length - 1))) := by
    have := sl_head (C := cfg) (k1 := .i64) (s := 1) (b0 := 24) (z := .slice none 0 0) (l := leads m) iC_len t_api_Int (m.length - 1) (by omega)
    rw [show ((m.length - 1 : Nat) : Int) = (m.length : Int) - 1 by omega] at this
    exact this
   have htl : ((leads m).take (m.length - 1)).length = m.length - 1 := by simp [hll]
   refine W.rseq ?_
   simp (disch := first | omega | (simp only [vd]; done) | (simp only [vd]; omega)) only [vs, reduceIte, Nat.reduceEqDiff, hll, hsl, htl]
   refine W.gen [0, 21, 22, 23] (fun e he => ?_)
   simp only [List.forall_mem_cons, List.not_mem_nil, false_implies, implies_true, and_true, e0_zero, e0_succ, put_some, put_none, reduceIte, Nat.reduceEqDiff, htl] at he
   obtain ⟨e0, e21, e22, e23⟩ := he
   refine W.range (fun i e h' => e 0 = mV m ∧ e 21 = isV ((leads m).take (m.length - 1)) ∧ h.le h' ∧ ∀ l, l < i → det (l + 1) (fm m) ≠ 0) (m.length - 1) (by omega) rfl e23 e22 ⟨e0, e21, hx1, fun l hl => by omega⟩ ?_ ?_
   ·rintro i e h2 hi ei en ⟨e0, e21, hl, hI⟩
    have hget : ((leads m).take (m.length - 1)).getD i raw0 = cz (det (i + 1) (fm m)) := by
     rw [← leads_get (show i < m.length by omega)]
     simp [hi]
    have hdk := det_sk (n := i + 1) (A := fm m) (fun a b _ _ => hm.sk a b)
    have hw := wd_le K (show i + 1 ≤ 16 by omega)
    refine W.block ?_
    refine W.rseq ?_
    simp (disch := first | omega | (simp only [vd]; done) | (simp only [vd]; omega)) only [vs, reduceIte, Nat.reduceEqDiff, ei, e21, Int.toNat_natCast, Value.cells, hget]
    have hcG : Cell (h2.push ⟨39, 0, [.bool (cz (det (i + 1) (fm m))).1, u32S (cz (det (i + 1) (fm m))).2]⟩) h2.next 39 [.bool (cz (det (i + 1) (fm m))).1, u32S (cz (det (i + 1) (fm m))).2] := Cell.new
    have hlG := VH.le_push h2 ⟨39, 0, [.bool (cz (det (i + 1) (fm m))).1, u32S (cz (det (i + 1) (fm m))).2]⟩
    have hnG := next_push (h := h2) (B := ⟨39, 0, [.bool (cz (det (i + 1) (fm m))).1, u32S (cz (det (i + 1) (fm m))).2]⟩)
    generalize h2.push ⟨39, 0, [.bool (cz (det (i + 1) (fm m))).1, u32S (cz (det (i + 1) (fm m))).2]⟩ = G at *
    refine W.rseq ?_
    simp (disch := first | omega | (simp only [vd]; done) | (simp only [vd]; omega)) only [vs, reduceIte, Nat.reduceEqDiff, hcG.rd2]
    refine rSign_r (cz _) (Okr.cz hdk (by omega)) fun h4 hx4 => ?_
    rw [iz_cz]
    by_cases h0 : det (i + 1) (fm m) = 0
    ·have hs1 : (det (i + 1) (fm m)).sign = 0 := by rw [h0]; rfl
     simp (disch := first | omega | (simp only [vd]; done) | (simp only [vd]; omega)) only [vs, reduceIte, Nat.reduceEqDiff, hs1]
     refine W.cond true (by rfl) (fun _ => ?_) nofun
     refine W.rseq ?_
     simp (disch := first | omega | (simp only [vd]; done) | (simp only [vd]; omega)) only [vs, reduceIte, Nat.reduceEqDiff]
     refine W.ret ⟨.inr rfl, ?_⟩
     change Fin cfg _ _ _ _
     refine Fin.nil 2 ?_
     exact Fin.done (ress_tt rfl rfl rfl) (hq0 (fun hh => (piv_lead (fm m) (m.length - 1)).1 (fun l hl => hh.2 l (by omega)) i hi h0) _ (hl.trans (hlG.trans hx4)))
    ·have hs1 : (det (i + 1) (fm m)).sign ≠ 0 := fun e => h0 (Int.sign_eq_zero_iff_zero.1 e)
     simp (disch := first | omega | (simp only [vd]; done) | (simp only [vd]; omega)) only [vs, reduceIte, Nat.reduceEqDiff]
     refine W.cond false (by rfl) nofun (fun _ => ?_)
     refine W.skip ?_
     simp (disch := first | omega | (simp only [vd]; done) | (simp only [vd]; omega)) only [vs, reduceIte, Nat.reduceEqDiff, ei, en, e0, e21]
     refine ⟨hl.trans (hlG.trans hx4), fun l hl => ?_⟩
     by_cases hli : l = i
     ·rw [hli]; exact h0
     ·exact hI l (by omega)
   ·rintro e h2 ei ⟨e0, e21, hl, hI⟩
    simp (disch := first | omega | (simp only [vd]; done) | (simp only [vd]; omega)) only [vs, reduceIte, Nat.reduceEqDiff, e0]
    exact ⟨hl, hs, fun l hl => (piv_lead (fm m) (m.length - 1)).2 hI l (by omega)⟩
  ·rintro e h2 ⟨e0, hl, hok⟩
   refine W.rseq ?_
   simp (disch := first | omega | (simp only [vd]; done) | (simp only [vd]; omega)) only [vs, reduceIte, Nat.reduceEqDiff]
   refine W.then (fun e' h' => OM h.next h' (e' 8) (stagesM m) ∧ Up h.next h h') ?_ ?_
   ·skip
    refine W.rseq ?_
    simp (disch := first | omega | (simp only [vd]; done) | (simp only [vd]; omega)) only [vs, reduceIte, Nat.reduceEqDiff, e0]
    refine W.gen [0, 8, 32, 33] (fun e he => ?_)
    simp only [List.forall_mem_cons, List.not_mem_nil, false_implies, implies_true, and_true, e0_zero, e0_succ, put_some, put_none, reduceIte, Nat.reduceEqDiff, e0] at he
    obtain ⟨e0, e8, e32, e33⟩ := he
    refine W.range (fun k e h' => e 0 = mV m ∧ OM h.next h' (e 8) ((List.range k).map fun k => zmat (m.length - k) (stgs (fm m) k).1) ∧ Up h.next h h') m.length (by omega) rfl e33 e32 ⟨e0, by rw [e8]; exact OM.nil, .of_le hl (Nat.le_refl _)⟩ ?_ ?_
    ·rintro k e h3 hk ei en ⟨e0, hO, hu⟩
     refine W.block ?_
     refine W.rseq ?_
     simp (disch := first | omega | (simp only [vd]; done) | (simp only [vd]; omega)) only [vs, reduceIte, Nat.reduceEqDiff, ei]
     refine W.reg ?_
     simp (disch := first | omega | (simp only [vd]; done) | (simp only [vd]; omega)) only [vs, reduceIte, Nat.reduceEqDiff, e0]
     refine rStage_ok m k hm hK hs hk fun h4 hx4 => ?_
     have hst : rstage m k = zmat (m.length - k) (stgs (fm m) k).1 := by
      refine mat_congr fun i j hi hj => ?_
      rw [det_bord (fm m) k i j (fun l hl => hok.2 l (by omega))]
     rw [hst]
     obtain ⟨v', h5, k1, k2, k3, k4⟩ := OM.app (h := h4) (zmat (m.length - k) (stgs (fm m) k).1) (Own.mono hO hx4) (by simp; omega) (Nat.le_trans hu.1 hx4.1)
     simp (disch := first | omega | (simp only [vd]; done) | (simp only [vd]; omega)) only [vs, reduceIte, Nat.reduceEqDiff, show QM.seen (e 8) = e 8 from Own.seen hO, k1, ei, en, e0]
     rw [show QM.seen v' = v' from Own.seen k2, range_map_succ]
     exact ⟨k2, (hu.trans (.of_le hx4 hu.1)).trans (.of_app (Nat.le_of_lt k4) (Nat.le_trans hu.1 hx4.1) k3)⟩
    ·rintro e h3 ei ⟨e0, hO, hu⟩
     simp (disch := first | omega | (simp only [vd]; done) | (simp only [vd]; omega)) only [vs, reduceIte, Nat.reduceEqDiff]
     exact ⟨hO, hu⟩
   ·rintro e h3 ⟨hO, hu⟩
    refine W.rseq ?_
    simp (disch := first | omega | (simp only [vd]; done) | (simp only [vd]; omega)) only [vs, reduceIte, Nat.reduceEqDiff, show QM.seen (e 8) = e 8 from Own.seen hO]
    refine W.ret ⟨.inr rfl, ?_⟩
    change Fin cfg _ _ _ _
    refine Fin.own 2 rfl hO fun h4 hx4 _ => ?_
    exact Fin.done (ress_tt rfl rfl rfl) (hq1 hok _ (hx4 _ (hu.le (VH.le_refl _) (Nat.le_refl _)) (Nat.le_refl _)))
 ·simp (disch := first | omega | (simp only [vd]; done) | (simp only [vd]; omega)) only [vs, reduceIte, Nat.reduceEqDiff, extV]
  refine W.seq (W.rseq ?_)
  simp (disch := first | omega | (simp only [vd]; done) | (simp only [vd]; omega)) only [vs, reduceIte, Nat.reduceEqDiff, Bool.not_false]
  refine W.cond true (by rfl) (fun _ => ?_) nofun
  refine W.rseq ?_
  simp (disch := first | omega | (simp only [vd]; done) | (simp only [vd]; omega)) only [vs, reduceIte, Nat.reduceEqDiff]
  refine W.ret ⟨.inr rfl, ?_⟩
  change Fin cfg _ _ _ _
  refine Fin.nil 2 ?_
  exact Fin.done (ress_tt rfl rfl rfl) (hq0 (fun h2 => hh h2.1) _ hx1)
end Go.Proofs.Ytjpknabdmmkobaa
end

section
namespace Go.QM
variable {P : Program} {C : Cfg} {h : VH} {Q Q1 : Value → VH → Prop} {g : FuncId} {args : List Value} {α : Type} {K : MK α} {n0 b : Nat} {R : List (List α)} {cw : Cw Q}
theorem seen_slice {v : Value} {a : Option Addr} {l c : Nat} (h : seen v = .slice a l c) : v = .slice a l c := by
 cases v <;> first | exact h | (simp [seen] at h)
theorem Runs.fz1 {fn : Func} {t : Nat} (hf : P.funcs[g]? = some fn) (hres : fn.results = #[.tmp t]) (h0 : C.base = 0) (hr : Runs P C g args h Q1)
  (hq : ∀ v h1, Q1 v h1 → ∃ (n0 b : Nat) (R : List (List α)), v = .slice (some ⟨b, 0, none⟩) R.length R.length ∧ MM K n0 h1 b R ∧ ∀ h2, Up n0 h1 h2 → Q (vlV (slV K.c) R) h2) : Runs P C g args h Q cw := by
 obtain ⟨v, h1, ⟨n, hc⟩, hq1⟩ := hr
 cases n with
 | zero => exact hc.elim
 | succ n =>
  obtain ⟨fn', body, e0, h00, e1, h2, e', x, a1, a2, a3, a4, a5, a6, a7, a8, a9, a10⟩ := hc
  rw [hf] at a1
  injection a1 with a1
  subst a1
  obtain ⟨n0, b, R, rfl, hm, hq2⟩ := hq v h1 hq1
  have hv : seen (e' t) = .slice (some ⟨b, 0, none⟩) R.length R.length := by simpa [ressV, hres, resV] using a10
  obtain ⟨h', k1, k2, k3, k4⟩ := hm.frz t h0 (seen_slice hv)
  refine ⟨_, h', ⟨n + 1, fn, body, e0, h00, e1, h2, _, x, hf, a2, a3, a4, a5, a6, a7, a8, a9.trans k1, ?_⟩, hq2 h' k2⟩
  simp [ressV, hres, resV, Env.put]
  rfl
theorem Runs.fz2 {fn : Func} {t t2 : Nat} (hf : P.funcs[g]? = some fn) (hres : fn.results = #[.tmp t, .tmp t2]) (hne : t2 ≠ t) (h0 : C.base = 0) (hr : Runs P C g args h Q1)
  (hq : ∀ v h1, Q1 v h1 → Q v h1 ∨ ∃ (n0 b : Nat) (R : List (List α)) (w : Value), v = .tuple #[.slice (some ⟨b, 0, none⟩) R.length R.length, w] ∧ MM K n0 h1 b R ∧ ∀ h2, Up n0 h1 h2 → Q (.tuple #[vlV (slV K.c) R, w]) h2) : Runs P C g args h Q cw := by
 obtain ⟨v, h1, ⟨n, hc⟩, hq1⟩ := hr
 rcases hq v h1 hq1 with hq3 | ⟨n0, b, R, w, rfl, hm, hq2⟩
 ·exact ⟨v, h1, ⟨n, hc⟩, hq3⟩
 cases n with
 | zero => exact hc.elim
 | succ n =>
  obtain ⟨fn', body, e0, h00, e1, h2, e', x, a1, a2, a3, a4, a5, a6, a7, a8, a9, a10⟩ := hc
  rw [hf] at a1
  injection a1 with a1
  subst a1
  have hv : seen (e' t) = .slice (some ⟨b, 0, none⟩) R.length R.length ∧ seen (e' t2) = w := by simpa [ressV, hres, resV] using a10
  obtain ⟨h', k1, k2, k3, k4⟩ := hm.frz t h0 (seen_slice hv.1)
  refine ⟨_, h', ⟨n + 1, fn, body, e0, h00, e1, h2, _, x, hf, a2, a3, a4, a5, a6, a7, a8, a9.trans k1, ?_⟩, hq2 h' k2⟩
  simp [ressV, hres, resV, Env.put, hne, hv.2]
  rfl
theorem env0_set {v : Value} {i : Nat} (hi : i < args.length) : env0 (args.set i v) = (env0 args).put (some i) v := by
 funext u
 unfold env0 Env.put
 by_cases hu : u = i
 ·subst hu; simp [hi]
 ·simp [hu, Ne.symm hu, List.getElem?_set]
theorem Runs.argM (i : Nat) (h0 : C.base = 0) (hi : args[i]? = some (.slice (some ⟨b, 0, none⟩) R.length R.length)) (hm : MM K n0 h b R)
  (hr : ∀ h', Up n0 h h' → h'.next = h.next → (∀ r t cs, Cell h r t cs → Cell h' r t cs) → Runs P C g (args.set i (vlV (slV K.c) R)) h' Q) : Runs P C g args h Q cw := by
 have hil : i < args.length := (List.getElem?_eq_some_iff.1 hi).1
 obtain ⟨h', k1, k2, k3, k4⟩ := hm.frz (e := env0 args) i h0 (by simp [env0, hi])
 obtain ⟨v, h1, ⟨n, hc⟩, hq1⟩ := hr h' k2 k3 k4
 cases n with
 | zero => exact hc.elim
 | succ n =>
  obtain ⟨fn', body, e0, h00, e1, h2, e', x, a1, a2, a3, a4, a5, a6, a7, a8, a9, a10⟩ := hc
  rw [env0_set hil] at a6
  exact ⟨v, h1, ⟨n + 1, fn', body, e0, h00, e1, h2, e', x, a1, a2, a3, a4, by rw [List.length_set] at a5; exact a5, k1.trans a6, a7, a8, a9, a10⟩, hq1⟩
theorem Runs.argO {ty sz len : Nat} {cs : List Value} {v : Value} (i : Nat) (h0 : C.base = 0) (hi : args[i]? = some v) (ho : Own n0 ty sz h v len cs)
  (hr : ∀ h', Up n0 h h' → h'.next = h.next → Runs P C g (args.set i (fS len cs.toArray)) h' Q) : Runs P C g args h Q cw := by
 have hil : i < args.length := (List.getElem?_eq_some_iff.1 hi).1
 have he : (env0 args) i = v := by simp [env0, hi]
 rw [← he] at ho
 obtain ⟨h', k1, k2, k3, k4⟩ := ho.frz i h0
 have hup : Up n0 h h' := ⟨by omega, fun y hy => by
  by_cases hb : h'.blk y = h.blk y
  ·exact hb
  ·obtain ⟨l, c, hl⟩ := k4 y hb
   obtain ⟨_, ⟨h1, _⟩ | ⟨b, h1, _, h2, _⟩⟩ := ho
   ·rw [h1] at hl; cases hl
   ·rw [h1] at hl
    simp only [Value.slice.injEq, Option.some.injEq, Addr.mk.injEq] at hl
    omega⟩
 obtain ⟨v', h1, ⟨n, hc⟩, hq1⟩ := hr h' hup k3
 cases n with
 | zero => exact hc.elim
 | succ n =>
  obtain ⟨fn', body, e0, h00, e1, h2, e', x, a1, a2, a3, a4, a5, a6, a7, a8, a9, a10⟩ := hc
  rw [env0_set hil] at a6
  exact ⟨v', h1, ⟨n + 1, fn', body, e0, h00, e1, h2, e', x, a1, a2, a3, a4, by rw [List.length_set] at a5; exact a5, k1.trans a6, a7, a8, a9, a10⟩, hq1⟩
end Go.QM
end

section
set_option maxRecDepth 20000
open Go Go.QM Go.Elim
namespace Go.Proofs.Ytjpknabdmmkobaa
variable {h : VH} {Q : Value → VH → Prop} {c : Cw Q}
variable {P : Raw → Prop} {n w i j k p : Nat} {R : List (List Raw)} {A : Fm}
def I8 (l : List Int) : Prop := ∀ x ∈ l, -128 ≤ x ∧ x ≤ 127
theorem I8.at {l : List Int} (h : I8 l) (i : Nat) : -128 ≤ l.getD i 0 ∧ l.getD i 0 ≤ 127 := by
 by_cases hi : i < l.length
 ·have : l.getD i 0 ∈ l := by simp [hi]
  exact h _ this
 ·have : l.getD i 0 = 0 := by simp [List.getElem?_eq_none (Nat.le_of_not_lt hi)]
  omega
theorem g_i8V {l : List Int} {n : Nat} (hn : n < l.length) : (l.map (Value.int .i8))[n]? = some (.int .i8 (l.getD n 0)) := map_getD 0 hn
theorem Next_ok (l : List Int) (b a : Nat) (hl : l.length < 4611686018427387904) (h8 : I8 l) (hB : Cell h b 117 [i8V l, .int .i64 (a : Int)]) (ha : a ≤ l.length)
  (hq : Q (.int .i64 (l.getD a 0)) (h.set b (some ⟨117, 0, [i8V l, .int .i64 ((min (a + 1) l.length : Nat) : Int)]⟩))) : Runs Try.prog cfg 103 [.pointer (some ⟨b, 0, none⟩)] h Q c := by
 have hr0 : rd1 h b 0 = some (i8V l) := by rw [rd1_of hB.2]; rfl
 have hr1 : rd1 h b 1 = some (.int .i64 (a : Int)) := by rw [rd1_of hB.2]; rfl
 have h8a := h8.at a
 refine Runs.go Try.func103 rfl rfl (.refl _ _) ?_
 refine W.rseq ?_
 simp (disch := first | omega | (simp only [vd]; done) | (simp only [vd]; omega)) only [vs, reduceIte, Nat.reduceEqDiff]
 by_cases hlt : a < l.length
 ·skip
  refine W.seq ?_
  refine W.dseqL (fun _ => True) [false, false, false, false, false, false, false, false, false, false] (by rfl) ?_
  simp (disch := first | omega | (simp only [vd]; done) | (simp only [vd]; omega)) only [vs, reduceIte, Nat.reduceEqDiff, nilV, hr0, hr1]
  refine W.cond false (by rfl) nofun (fun _ => ?_)
  refine W.skip ?_
  simp (disch := first | omega | (simp only [vd]; done) | (simp only [vd]; omega)) only [vs, reduceIte, Nat.reduceEqDiff]
  have hw := wr1_of (off := 1) (v := .int .i64 ((a : Int) + 1)) hB.2 (by simp)
  refine W.rseq ?_
  simp (disch := first | omega | (simp only [vd]; done) | (simp only [vd]; omega)) only [vs, reduceIte, Nat.reduceEqDiff, nilV, hr1, hw]
  have hr2 : rd1 (h.set b (some ⟨117, 0, [i8V l, .int .i64 ((a : Int) + 1)]⟩)) b 0 = some (i8V l) := by rw [rd1_set]; rfl
  have hr3 : rd1 (h.set b (some ⟨117, 0, [i8V l, .int .i64 ((a : Int) + 1)]⟩)) b 1 = some (.int .i64 ((a : Int) + 1)) := by rw [rd1_set]; rfl
  have ht : ((a : Int) + 1 - 1).toNat = a := by omega
  refine W.dseqL (fun _ => True) [false, false, false, false, false, false, false, false, false, false, false, false, false] (by rfl) ?_
  simp (disch := first | omega | (simp only [vd]; done) | (simp only [vd]; omega)) only [vs, reduceIte, Nat.reduceEqDiff, nilV, hr2, hr3, ht, g_i8V]
  have hmin : ((min (a + 1) l.length : Nat) : Int) = (a : Int) + 1 := by omega
  rw [hmin] at hq
  refine W.ret ⟨.inr rfl, ?_⟩
  change Fin cfg _ _ _ _
  exact Fin.done (ress_1 rfl rfl) hq
 ·obtain rfl : a = l.length := by omega
  have hz : l.getD l.length 0 = 0 := by simp
  have hmin : min (l.length + 1) l.length = l.length := by omega
  rw [hz, hmin, VH.set_self hB.2] at hq
  refine W.seq ?_
  refine W.dseqL (fun _ => True) [false, false, false, false, false, false, false, false, false, false] (by rfl) ?_
  simp (disch := first | omega | (simp only [vd]; done) | (simp only [vd]; omega)) only [vs, reduceIte, Nat.reduceEqDiff, nilV, hr0, hr1]
  refine W.cond true (by rfl) (fun _ => ?_) nofun
  refine W.rseq ?_
  simp (disch := first | omega | (simp only [vd]; done) | (simp only [vd]; omega)) only [vs, reduceIte, Nat.reduceEqDiff]
  refine W.ret ⟨.inr rfl, ?_⟩
  change Fin cfg _ _ _ _
  exact Fin.done (ress_1 rfl rfl) hq
def mk64 : MK Int := ⟨80, 2, 1, fun x => [.int .i64 x], fun _ => rfl, by decide⟩
theorem mk64_fz (R : List (List Int)) : vlV (slV mk64.c) R = nmV R := by
 unfold nmV mk64
 congr 1
 funext l
 exact slV_one _ l
abbrev en (R : List (List Int)) (i j : Nat) : Int := (R.getD i []).getD j 0
def imat (r c : Nat) (F : Nat → Nat → Int) : List (List Int) := (List.range r).map fun i => (List.range c).map (F i)
theorem imat_len {r c : Nat} {F : Nat → Nat → Int} : (imat r c F).length = r := by simp [imat]
theorem imat_row {r c : Nat} {F : Nat → Nat → Int} (hi : i < r) : (imat r c F).getD i [] = (List.range c).map (F i) := by simp [imat, hi]
theorem imat_en {r c : Nat} {F : Nat → Nat → Int} (hi : i < r) (hj : j < c) : en (imat r c F) i j = F i j := by
 unfold en
 rw [imat_row hi]
 simp [hj]
theorem mk64_make {n0 b w : Nat} {R : List (List Int)} (hm : MM mk64 n0 h b R) (hi : i < R.length) (hn : n0 ≤ h.next) (hw : 0 < w) :
  ∃ h2, wr1 (h.push ⟨2, 1, zC (.int .i64 0) w⟩) b i (.slice (some ⟨h.next, 0, none⟩) w w) = some h2 ∧ MM mk64 n0 h2 b (R.set i (List.replicate w 0)) ∧ Up n0 h h2 ∧ h.next < h2.next ∧ ∀ r t cs, Cell h r t cs → Cell h2 r t cs := by
 have hz : zC (.int .i64 0) w = (List.replicate w (0 : Int)).flatMap mk64.c := by
  rw [zC_one rfl]
  show _ = (List.replicate w (0 : Int)).flatMap fun x => [Value.int .i64 x]
  rw [flat_one]
  simp
 have ho : Own h.next mk64.tI mk64.s (h.push ⟨2, 1, zC (.int .i64 0) w⟩) (.slice (some ⟨h.next, 0, none⟩) w w) (List.replicate w (0 : Int)).length ((List.replicate w (0 : Int)).flatMap mk64.c) :=
  ⟨by rw [flat_len mk64.hc], .inr ⟨h.next, by simp, by simpa using hw, Nat.le_refl _, Nat.lt_succ_self _, by rw [blk_push, hz]; rfl⟩⟩
 obtain ⟨h2, k1, k2, k3, k4, k5, w0, k6, w1, k7⟩ := hm.put (VH.le_push h _) hi ho hn
 refine ⟨h2, k1, k2, (Up.push hn).trans k3, by rw [k4, next_push]; omega, fun r t cs hc => ?_⟩
 have hb := hm.hi
 rw [k7]
 refine hc.push.set_ne ?_
 obtain ⟨ws, os, g1, g2, g3, g4, g5, g6⟩ := hm
 exact hc.ne g3 (by decide)
theorem mk64_row {n0 b : Nat} {R : List (List Int)} (hm : MM mk64 n0 h b R) (hi : i < R.length) (hr : 0 < (R.getD i []).length) :
  ∃ c, rd1 h b i = some (slc c (R.getD i []).length) ∧ h.blk c = some ⟨2, 1, (R.getD i []).map (Value.int .i64)⟩ ∧ n0 ≤ c ∧ c < h.next ∧ b < h.next ∧ n0 ≤ b ∧
   ∀ r, r.length = (R.getD i []).length → MM mk64 n0 (h.set c (some ⟨2, 1, r.map (Value.int .i64)⟩)) b (R.set i r) := by
 obtain ⟨c, h1, h2, h3, h4, h5, h6, h7⟩ := hm.row hi hr
 have hfl : ∀ r : List Int, r.flatMap mk64.c = r.map (Value.int .i64) := fun r => flat_one _ r
 rw [hfl] at h2
 refine ⟨c, h1, h2, h3, h4, h5, h6, fun r hrl => ?_⟩
 have := h7 r hrl
 rw [hfl] at this
 exact this
def gR (x : GridV) (most : Nat) : Nat := 1 + x.rows.toNat % most
def gC (x : GridV) (most : Nat) : Nat := 1 + x.cols.toNat % most
def gI (x : GridV) (most : Nat) : List (List Int) := imat (gR x most) (gC x most) fun i j => x.nums.getD (i * gC x most + j) 0
theorem Ints_ok (x : GridV) (most : Nat) (hx : GridOk x) (hm0 : 0 < most) (hm : most < 1000) (hq : ∀ b h1, h.le h1 → MM mk64 h.next h1 b (gI x most) → Q (slc b (gR x most)) h1) :
  Runs Try.prog cfg 90 [gridV x, .int .i64 (most : Int)] h Q c := by
 obtain ⟨⟨hr0, hr1⟩, ⟨hc0, hc1⟩, hl, h8⟩ := hx
 have hbt : buildV cfg 117 [(0, i8V x.nums)] = some (.agg #[i8V x.nums, .int .i64 0]) := rfl
 refine Runs.go Try.func90 rfl rfl (.refl _ _) ?_
 refine W.rseqZ ?_
 simp (disch := first | omega | (simp only [vd]; done) | (simp only [vd]; omega)) only [vs, reduceIte, Nat.reduceEqDiff, gridV, Value.cells]
 refine WF.d0 2 rfl (WF.done ?_)
 simp (disch := first | omega | (simp only [vd]; done) | (simp only [vd]; omega)) only [vs, reduceIte, Nat.reduceEqDiff]
 have hle := VH.le_skip h
 generalize h.skip = H at *
 refine W.rseq ?_
 simp (disch := first | omega | (simp only [vd]; done) | (simp only [vd]; omega)) only [vs, reduceIte, Nat.reduceEqDiff, hbt, Value.cells]
 have hcT := Cell.new (h := H) (t := 117) (cs := [i8V x.nums, .int .i64 0])
 have hlT := VH.le_push H ⟨117, 0, [i8V x.nums, .int .i64 0]⟩
 have hnT := next_push (h := H) (B := ⟨117, 0, [i8V x.nums, .int .i64 0]⟩)
 generalize H.push ⟨117, 0, [i8V x.nums, .int .i64 0]⟩ = G at *
 generalize htb : H.next = tb at *
 have r1 := Int.emod_nonneg x.rows (show (most : Int) ≠ 0 by omega)
 have r2 := Int.emod_lt_of_pos x.rows (show (0 : Int) < most by omega)
 have c1 := Int.emod_nonneg x.cols (show (most : Int) ≠ 0 by omega)
 have c2 := Int.emod_lt_of_pos x.cols (show (0 : Int) < most by omega)
 have hgr : 1 + x.rows % (most : Int) = (gR x most : Int) := by
  unfold gR
  rw [Int.natCast_add, Int.natCast_emod, Int.toNat_of_nonneg hr0]; rfl
 have hgc : 1 + x.cols % (most : Int) = (gC x most : Int) := by
  unfold gC
  rw [Int.natCast_add, Int.natCast_emod, Int.toNat_of_nonneg hc0]; rfl
 have hrl : gR x most < 1001 := by omega
 have hcl : gC x most < 1001 := by omega
 have hcp : 0 < gC x most := by unfold gC; omega
 refine W.rseq ?_
 simp (disch := first | omega | (simp only [vd]; done) | (simp only [vd]; omega)) only [vs, reduceIte, Nat.reduceEqDiff, hgr, mkE_ok, Int.toNat_natCast]
 have h0 : MM mk64 G.next (G.push ⟨80, 1, zC (.slice none 0 0) (gR x most)⟩) G.next (List.replicate (gR x most) []) := MM.new (zC_one rfl (gR x most)) (Nat.le_refl _)
 have hlB := VH.le_push G ⟨80, 1, zC (.slice none 0 0) (gR x most)⟩
 generalize G.push ⟨80, 1, zC (.slice none 0 0) (gR x most)⟩ = G2 at *
 have hcT2 := hcT.mono hlB
 have hbtb : G.next ≠ tb := by omega
 refine W.then (fun e' h' => e' 6 = slc G.next (gR x most) ∧ MM mk64 G.next h' G.next (gI x most) ∧ Up tb H h') ?_ ?_
 ·skip
  refine W.rseq ?_
  simp (disch := first | omega | (simp only [vd]; done) | (simp only [vd]; omega)) only [vs, reduceIte, Nat.reduceEqDiff]
  refine W.gen [1, 2, 5, 6, 20, 21, 22] (fun e he => ?_)
  simp only [List.forall_mem_cons, List.not_mem_nil, false_implies, implies_true, and_true, e0_zero, e0_succ, put_some, put_none, reduceIte, Nat.reduceEqDiff] at he
  obtain ⟨e1, e2, e5, e6, e20, e21, e22⟩ := he
  refine W.range (fun i e h' => e 1 = .int .i64 (most : Int) ∧ e 2 = fP 0 #[.int .u8 x.rows, .int .u8 x.cols, i8V x.nums] ∧ e 5 = .pointer (some ⟨tb, 0, none⟩) ∧ e 6 = slc G.next (gR x most) ∧ ∃ R, MM mk64 G.next h' G.next R ∧ Up tb H h' ∧ Cell h' tb 117 [i8V x.nums, .int .i64 ((min (i * gC x most) x.nums.length : Nat) : Int)] ∧ R.length = gR x most ∧
   ∀ i', i' < i → R.getD i' [] = (List.range (gC x most)).map fun j => x.nums.getD (i' * gC x most + j) 0) (gR x most) (by omega) rfl e22 e21
   ⟨e1, e2, e5, e6, _, h0, Up.of_le (hlT.trans hlB) (by omega), by rw [Nat.zero_mul, Nat.zero_min]; exact hcT2, by simp, fun i' hi' => by omega⟩ ?_ ?_
  ·rintro i e h2 hi ei en' ⟨e1, e2, e5, e6, R, hR, hu, hc, hRl, hRi⟩
   refine W.block ?_
   refine W.rseq ?_
   simp (disch := first | omega | (simp only [vd]; done) | (simp only [vd]; omega)) only [vs, reduceIte, Nat.reduceEqDiff, ei]
   obtain ⟨h3, k1, k2, k3, k4, k5⟩ := mk64_make hR (i := i) (w := gC x most) (by omega) (by have := hR.hi; omega) hcp
   have hc3 := k5 _ _ _ hc
   refine W.rseq ?_
   simp (disch := first | omega | (simp only [vd]; done) | (simp only [vd]; omega)) only [vs, reduceIte, Nat.reduceEqDiff, ei, e1, e2, e6, hgc, mkE_ok, Int.toNat_natCast, Nat.mul_one, k1]
   have hlr : ((R.set i (List.replicate (gC x most) 0)).getD i []).length = gC x most := by rw [QM.getD_set (by omega), if_pos rfl]; simp
   obtain ⟨wv, i1, i2, i3, i4⟩ := k2.head (i := i) (by rw [List.length_set]; omega)
   rw [hlr] at i4
   refine W.rseq ?_
   simp (disch := first | omega | (simp only [vd]; done) | (simp only [vd]; omega)) only [vs, reduceIte, Nat.reduceEqDiff, e6, ei, i1, i2, i4, Int.toNat_natCast]
   refine W.gen [1, 2, 5, 6, 7, 21, 22, 39, 40] (fun e he => ?_)
   simp only [List.forall_mem_cons, List.not_mem_nil, false_implies, implies_true, and_true, e0_zero, e0_succ, put_some, put_none, reduceIte, Nat.reduceEqDiff, e1, e2, e5, e6, ei, en', i4] at he
   obtain ⟨e1, e2, e5, e6, e7, e21, e22, e39, e40⟩ := he
   refine W.range (fun j e h' => e 1 = .int .i64 (most : Int) ∧ e 2 = fP 0 #[.int .u8 x.rows, .int .u8 x.cols, i8V x.nums] ∧ e 5 = .pointer (some ⟨tb, 0, none⟩) ∧ e 6 = slc G.next (gR x most) ∧ e 7 = .int .i64 (i : Int) ∧ e 21 = .int .i64 (gR x most : Int) ∧ e 22 = .int .i64 (i : Int) ∧ ∃ R, MM mk64 G.next h' G.next R ∧ Up tb H h' ∧ Cell h' tb 117 [i8V x.nums, .int .i64 ((min (i * gC x most + j) x.nums.length : Nat) : Int)] ∧ R.length = gR x most ∧
    (∀ i', i' < i → R.getD i' [] = (List.range (gC x most)).map fun j => x.nums.getD (i' * gC x most + j) 0) ∧ (R.getD i []).length = gC x most ∧ ∀ j', j' < j → en R i j' = x.nums.getD (i * gC x most + j') 0) (gC x most) (by omega) rfl e40 e39
    ⟨e1, e2, e5, e6, e7, e21, e22, _, k2, hu.trans (k3.down (by omega)), by rw [Nat.add_zero]; exact hc3, by simp [hRl], fun i' hi' => by rw [QM.getD_set (by omega), if_neg (by omega)]; exact hRi i' hi', hlr, fun j' hj' => by omega⟩ ?_ ?_
   ·rintro j e h4 hj ej en' ⟨e1, e2, e5, e6, e7, e21, e22, R, hR, hu, hc, hRl, hRi, hRk, hRj⟩
    obtain ⟨at_, hat⟩ : ∃ a, a = min (i * gC x most + j) x.nums.length := ⟨_, rfl⟩
    rw [← hat] at hc
    have hat2 : min (at_ + 1) x.nums.length = min (i * gC x most + (j + 1)) x.nums.length := by omega
    have hval : x.nums.getD at_ 0 = x.nums.getD (i * gC x most + j) 0 := by
     by_cases hlt : i * gC x most + j < x.nums.length
     ·rw [hat, Nat.min_eq_left (Nat.le_of_lt hlt)]
     ·rw [hat, Nat.min_eq_right (Nat.le_of_not_lt hlt)]
      simp [List.getElem?_eq_none (Nat.le_of_not_lt hlt)]
    have hM2 := hR.cell (y := [i8V x.nums, .int .i64 ((min (at_ + 1) x.nums.length : Nat) : Int)]) hc
    have hc2 := hc.set (cs' := [i8V x.nums, .int .i64 ((min (at_ + 1) x.nums.length : Nat) : Int)])
    have hgs : Grow (fun x => x ≠ tb) h4.next h4 (h4.set tb (some ⟨117, 0, [i8V x.nums, .int .i64 ((min (at_ + 1) x.nums.length : Nat) : Int)]⟩)) := gr_set hc.2 (fun hh => hh rfl) hc.1
    have hu2 : Up tb H (h4.set tb (some ⟨117, 0, [i8V x.nums, .int .i64 ((min (at_ + 1) x.nums.length : Nat) : Int)]⟩)) := hu.trans (.set (Nat.le_refl _))
    obtain ⟨ci, i1, i2, i3, i4, i5, i6, i7⟩ := mk64_row hM2 (i := i) (by omega) (by omega)
    rw [rd1_set_ne hbtb, hRk] at i1
    refine W.block ?_
    refine W.rseq ?_
    simp (disch := first | omega | (simp only [vd]; done) | (simp only [vd]; omega)) only [vs, reduceIte, Nat.reduceEqDiff, ej]
    refine W.drawL (fun x => x ≠ tb) [false, false, false, false, false, false, true, false, false] (by rfl) ?_
    simp (disch := first | omega | (simp only [vd]; done) | (simp only [vd]; omega)) only [vs, reduceIte, Nat.reduceEqDiff, e5, e6, e7, ej, i1, Int.toNat_natCast, hbtb, ne_eq, not_false_eq_true]
    refine Next_ok x.nums tb at_ (by omega) (fun y hy => h8 y hy) hc (by omega) ?_
    rw [hval]
    generalize h4.set tb (some ⟨117, 0, [i8V x.nums, .int .i64 ((min (at_ + 1) x.nums.length : Nat) : Int)]⟩) = G4 at *
    have hw := wr1_of (off := j) (v := .int .i64 (x.nums.getD (i * gC x most + j) 0)) i2 (by show j < (List.map _ _).length; rw [List.length_map, hRk]; exact hj)
    simp (disch := first | omega | (simp only [vd]; done) | (simp only [vd]; omega)) only [vs, reduceIte, Nat.reduceEqDiff, hgs, hw, Int.toNat_natCast]
    have hc3 : Cell (G4.set ci (some ⟨2, 1, (List.map (Value.int .i64) (R.getD i [])).set j (.int .i64 (x.nums.getD (i * gC x most + j) 0))⟩)) tb 117 [i8V x.nums, .int .i64 ((min (at_ + 1) x.nums.length : Nat) : Int)] := hc2.set_ne (hc2.ne i2 (by decide))
    rw [hat2] at hc3
    have hM3 := i7 ((R.getD i []).set j (x.nums.getD (i * gC x most + j) 0)) (by rw [List.length_set])
    rw [List.map_set] at hM3
    refine ⟨gr0_set i2, ej, en', e1, e2, e5, e6, e7, e21, e22, _, hM3, hu2.trans (.set (by omega)), hc3, by simp [hRl], fun i' hi' => ?_, ?_, fun j' hj' => ?_⟩
    ·rw [QM.getD_set (by omega), if_neg (by omega)]
     exact hRi i' hi'
    ·rw [QM.getD_set (by omega), if_pos rfl, List.length_set, hRk]
    ·unfold en
     rw [QM.getD_set (by omega), if_pos rfl, QM.getD_set (by omega)]
     by_cases hjj : j' = j
     ·rw [if_pos hjj, hjj]
     ·rw [if_neg hjj]
      exact hRj j' (by omega)
   ·rintro e h4 ej ⟨e1, e2, e5, e6, e7, e21, e22, R, hR, hu, hc, hRl, hRi, hRk, hRj⟩
    simp (disch := first | omega | (simp only [vd]; done) | (simp only [vd]; omega)) only [vs, reduceIte, Nat.reduceEqDiff, e1, e2, e5, e6, e21, e22]
    refine ⟨R, hR, hu, by rw [show i * gC x most + gC x most = (i + 1) * gC x most by rw [Nat.add_mul]; omega] at hc; exact hc, hRl, fun i' hi' => ?_⟩
    by_cases hii : i' = i
    ·rw [hii]
     refine ext_getD 0 (by rw [hRk]; simp) fun j' hj' => ?_
     have := hRj j' (by omega)
     unfold en at this
     rw [this]
     simp [show j' < gC x most by omega]
    ·exact hRi i' (by omega)
  ·rintro e h2 ei ⟨e1, e2, e5, e6, R, hR, hu, hc, hRl, hRi⟩
   have : R = gI x most := ext_getD [] (by rw [gI, imat_len]; exact hRl) (fun j hj => by rw [hRi j (by omega), gI, imat_row (by omega)])
   subst this
   simp (disch := first | omega | (simp only [vd]; done) | (simp only [vd]; omega)) only [vs, reduceIte, Nat.reduceEqDiff, e6]
   exact ⟨hR, hu⟩
 ·rintro e h2 ⟨e6, hR, hu⟩
  refine W.rseq ?_
  simp (disch := first | omega | (simp only [vd]; done) | (simp only [vd]; omega)) only [vs, reduceIte, Nat.reduceEqDiff, e6]
  refine W.ret ⟨.inr rfl, ?_⟩
  change Fin cfg _ _ _ _
  refine Fin.done (ress_1 rfl rfl) (hq _ _ (hle.trans (hu.le (VH.le_refl _) (by omega))) (hR.down ?_))
  have := hle.1
  omega
end Go.Proofs.Ytjpknabdmmkobaa
end
