/- Part 9 of the proof: Ma7, Ba1, Ba2, Ba3, Ra9, Ba4, Ba5, Ba6. -/
import Derived.Test.YtjpknabdmmkobaaZ8
set_option linter.unusedVariables false
set_option linter.unusedSimpArgs false
section
set_option maxRecDepth 20000
open Go Go.QM Go.Elim
namespace Go.Proofs.Ytjpknabdmmkobaa
variable {h : VH} {Q : Value → VH → Prop} {c : Cw Q}
variable {P : Raw → Prop} {n w i j k p : Nat} {R : List (List Raw)} {A : Fm}
def mat (r c : Nat) (F : Nat → Nat → Raw) : List (List Raw) := (List.range r).map fun i => (List.range c).map (F i)
theorem mat_len {r c : Nat} {F : Nat → Nat → Raw} : (mat r c F).length = r := by simp [mat]
theorem mat_row {r c : Nat} {F : Nat → Nat → Raw} (hi : i < r) : (mat r c F).getD i [] = (List.range c).map (F i) := by simp [mat, hi]
theorem mat_ent {r c : Nat} {F : Nat → Nat → Raw} (hi : i < r) (hj : j < c) : ent (mat r c F) i j = F i j := by
 unfold ent
 rw [mat_row hi]
 simp [hj]
theorem mat_ent0 {r c : Nat} {F : Nat → Nat → Raw} (h : ¬ (i < r ∧ j < c)) : ent (mat r c F) i j = raw0 := by
 unfold ent
 by_cases hi : i < r
 ·rw [mat_row hi]
  simp [List.getElem?_eq_none (show ((List.range c).map (F i)).length ≤ j by simp; omega)]
 ·have : (mat r c F).getD i [] = [] := by simp [List.getElem?_eq_none (show (mat r c F).length ≤ i by rw [mat_len]; omega)]
  rw [this]
  rfl
theorem build_core (rows cols : Nat) (f : Value) (F : Nat → Nat → Raw) (hr : rows < 1099511627776) (hc : cols < 1099511627776) (hc0 : 0 < cols) (hs : QM.seen f = f)
  (hf : ∀ i j, i < rows → j < cols → ∀ (h : VH) (Q : Value → VH → Prop), (∀ h1, h.le h1 → Q (iV (F i j)) h1) → WCall Try.prog cfg f [.int .i64 (i : Int), .int .i64 (j : Int)] h Q)
  (hq : ∀ b h1 (e : Env), h.le h1 → MM mkI h.next h1 b (mat rows cols F) → e 6 = slc b rows → Fin cfg Try.f101 e h1 Q) : Runs Try.prog cfg 101 [.int .i64 (rows : Int), .int .i64 (cols : Int), f] h Q c := by
 refine Runs.go Try.func101 rfl rfl (.refl _ _) ?_
 refine W.rseq ?_
 simp (disch := first | omega | (simp only [vd]; done) | (simp only [vd]; omega)) only [vs, reduceIte, Nat.reduceEqDiff]
 refine W.rseq ?_
 simp (disch := first | omega | (simp only [vd]; done) | (simp only [vd]; omega)) only [vs, reduceIte, Nat.reduceEqDiff, mkE_ok, Int.toNat_natCast]
 have h0 : MM mkI h.next (h.push ⟨34, 1, zC (.slice none 0 0) rows⟩) h.next (List.replicate rows []) := MM.new (zC_one rfl rows) (Nat.le_refl _)
 have hle := VH.le_push h ⟨34, 1, zC (.slice none 0 0) rows⟩
 generalize h.push ⟨34, 1, zC (.slice none 0 0) rows⟩ = H at *
 refine W.then (fun e' h' => e' 7 = slc h.next rows ∧ MM mkI h.next h' h.next (mat rows cols F) ∧ Up h.next h h') ?_ ?_
 ·skip
  refine W.rseq ?_
  simp (disch := first | omega | (simp only [vd]; done) | (simp only [vd]; omega)) only [vs, reduceIte, Nat.reduceEqDiff]
  refine W.gen [1, 2, 7, 12, 13, 14] (fun e he => ?_)
  simp only [List.forall_mem_cons, List.not_mem_nil, false_implies, implies_true, and_true, e0_zero, e0_succ, put_some, put_none, reduceIte, Nat.reduceEqDiff] at he
  obtain ⟨e1, e2, e7, e12, e13, e14⟩ := he
  refine W.range (fun i e h' => e 1 = .int .i64 (cols : Int) ∧ e 2 = f ∧ e 7 = slc h.next rows ∧ ∃ R, MM mkI h.next h' h.next R ∧ Up h.next h h' ∧ R.length = rows ∧ (∀ j, j < i → R.getD j [] = (List.range cols).map (F j))) rows (by omega) rfl e14 e13
   ⟨e1, e2, e7, _, h0, .of_le hle (Nat.le_refl _), by simp, fun j hj => by omega⟩ ?_ ?_
  ·rintro i e h' hi ei en ⟨e1, e2, e7, R, hR, hu, hRl, hRi⟩
   refine W.block ?_
   refine W.rseq ?_
   simp (disch := first | omega | (simp only [vd]; done) | (simp only [vd]; omega)) only [vs, reduceIte, Nat.reduceEqDiff, ei]
   obtain ⟨h2, k1, k2, k3, k4, k5, k6⟩ := mkI_make hR (i := i) (w := cols) (by omega) hu.1 hc0
   refine W.rseqZ ?_
   simp (disch := first | omega | (simp only [vd]; done) | (simp only [vd]; omega)) only [vs, reduceIte, Nat.reduceEqDiff, ei, e1, e7, mkE_ok, Int.toNat_natCast, k1]
   refine WF.nilb h'.next rfl k2 (WF.done ?_)
   generalize hG : h2.set h'.next (some ⟨39, 2, (zC (.agg #[.bool false, .slice none 0 0]) (cols * 2)).map nil1⟩) = G at *
   have hlr : ((R.set i (List.replicate cols raw0)).getD i []).length = cols := by rw [QM.getD_set (by omega), if_pos rfl]; simp
   obtain ⟨wv, i1, i2, i3, i4⟩ := k3.head (i := i) (by rw [List.length_set]; omega)
   rw [hlr] at i4
   refine W.rseq ?_
   simp (disch := first | omega | (simp only [vd]; done) | (simp only [vd]; omega)) only [vs, reduceIte, Nat.reduceEqDiff, e7, ei, i1, i2, i4, Int.toNat_natCast]
   refine W.gen [1, 2, 7, 8, 13, 14, 26, 27] (fun e he => ?_)
   simp only [List.forall_mem_cons, List.not_mem_nil, false_implies, implies_true, and_true, e0_zero, e0_succ, put_some, put_none, reduceIte, Nat.reduceEqDiff, e1, e2, e7, ei, en, i4] at he
   obtain ⟨e1, e2, e7, e8, e13, e14, e26, e27⟩ := he
   refine W.range (fun j e h' => e 1 = .int .i64 (cols : Int) ∧ e 2 = f ∧ e 7 = slc h.next rows ∧ e 8 = .int .i64 (i : Int) ∧ e 13 = .int .i64 (rows : Int) ∧ e 14 = .int .i64 (i : Int) ∧ ∃ R, MM mkI h.next h' h.next R ∧ Up h.next h h' ∧ R.length = rows ∧ (∀ j, j < i → R.getD j [] = (List.range cols).map (F j)) ∧ (R.getD i []).length = cols ∧ ∀ j', j' < j → ent R i j' = F i j') cols (by omega) rfl e27 e26
    ⟨e1, e2, e7, e8, e13, e14, _, k3, hu.trans k4, by simp [hRl], fun j hj => by rw [QM.getD_set (by omega), if_neg (by omega)]; exact hRi j hj, hlr, fun j' hj' => by omega⟩ ?_ ?_
   ·rintro j e h3 hj ej en ⟨e1, e2, e7, e8, e13, e14, R, hR, hu, hRl, hRi, hRk, hRj⟩
    refine W.block ?_
    refine W.rseq ?_
    simp (disch := first | omega | (simp only [vd]; done) | (simp only [vd]; omega)) only [vs, reduceIte, Nat.reduceEqDiff, ej]
    obtain ⟨ci, i1, i2, i3, i4, i5, i6, i7⟩ := mkI_row hR (i := i) (by omega) (by omega)
    rw [hRk] at i1 i7
    refine W.drawL (fun _ => True) [false, false, false, false, false, false, false, false, true, false, false] (by rfl) ?_
    simp (disch := first | omega | (simp only [vd]; done) | (simp only [vd]; omega)) only [vs, reduceIte, Nat.reduceEqDiff, e2, e7, e8, ej, hs, i1, Int.toNat_natCast]
    refine w_call ?_
    simp (disch := first | omega | (simp only [vd]; done) | (simp only [vd]; omega)) only [vs, reduceIte, Nat.reduceEqDiff, e2, e8, ej, hs]
    refine hf i j hi hj _ _ fun g hg => ?_
    have hB := hg.2 ci i4
    rw [i2] at hB
    have hw := wr_iC (n := j) (x0 := (F i j).1) (x1 := (F i j).2) hB (by omega)
    simp (disch := first | omega | (simp only [vd]; done) | (simp only [vd]; omega)) only [vs, reduceIte, Nat.reduceEqDiff, gr_le hg, gr0_le hg, hw, Int.toNat_natCast]
    refine ⟨gr0_set hB, ?_⟩
    simp (disch := first | omega | (simp only [vd]; done) | (simp only [vd]; omega)) only [vs, reduceIte, Nat.reduceEqDiff, ej, en, e1, e2, e7, e8, e13, e14]
    refine ⟨_, i7 g hg ((R.getD i []).set j (F i j)) (by rw [List.length_set, hRk]), hu.trans ((Up.of_le hg hu.1).trans (.set i3)), by simp [hRl], fun j' hj' => ?_, ?_, fun j' hj' => ?_⟩
    ·rw [QM.getD_set (by omega), if_neg (by omega)]
     exact hRi j' hj'
    ·rw [QM.getD_set (by omega), if_pos rfl, List.length_set, hRk]
    ·unfold ent
     rw [QM.getD_set (by omega), if_pos rfl, QM.getD_set (by omega)]
     by_cases hjj : j' = j
     ·rw [if_pos hjj, hjj]
     ·rw [if_neg hjj]
      exact hRj j' (by omega)
   ·rintro e h3 ej ⟨e1, e2, e7, e8, e13, e14, R, hR, hu, hRl, hRi, hRk, hRj⟩
    simp (disch := first | omega | (simp only [vd]; done) | (simp only [vd]; omega)) only [vs, reduceIte, Nat.reduceEqDiff, e1, e2, e7, e13, e14]
    refine ⟨R, hR, hu, hRl, fun j hj => ?_⟩
    by_cases hji : j = i
    ·rw [hji]
     refine ext_getD raw0 (by rw [hRk]; simp) fun j' hj' => ?_
     have := hRj j' (by omega)
     unfold ent at this
     rw [this]
     simp [show j' < cols by omega]
    ·exact hRi j (by omega)
  ·rintro e h' ei ⟨e1, e2, e7, R, hR, hu, hRl, hRi⟩
   have : R = mat rows cols F := ext_getD [] (by rw [mat_len]; exact hRl) (fun j hj => by rw [hRi j (by omega), mat_row (by omega)])
   subst this
   simp (disch := first | omega | (simp only [vd]; done) | (simp only [vd]; omega)) only [vs, reduceIte, Nat.reduceEqDiff, e7]
   exact ⟨hR, hu⟩
 ·rintro e h' ⟨e7, hR, hu⟩
  refine W.rseq ?_
  simp (disch := first | omega | (simp only [vd]; done) | (simp only [vd]; omega)) only [vs, reduceIte, Nat.reduceEqDiff, e7]
  refine W.ret ⟨.inr rfl, ?_⟩
  change Fin cfg _ _ _ _
  exact hq _ _ _ (hu.le (VH.le_refl _) (Nat.le_refl _)) hR rfl
theorem mat_all {r c : Nat} {F : Nat → Nat → Raw} : mV (mat r c F) = vlV (slV mkI.c) (mat r c F) := rfl
theorem build_fz (rows cols : Nat) (f : Value) (F : Nat → Nat → Raw) (hr : rows < 1099511627776) (hc : cols < 1099511627776) (hc0 : 0 < cols) (hs : QM.seen f = f)
  (hf : ∀ i j, i < rows → j < cols → ∀ (h : VH) (Q : Value → VH → Prop), (∀ h1, h.le h1 → Q (iV (F i j)) h1) → WCall Try.prog cfg f [.int .i64 (i : Int), .int .i64 (j : Int)] h Q)
  (hq : ∀ h1, h.le h1 → Q (mV (mat rows cols F)) h1) : Runs Try.prog cfg 101 [.int .i64 (rows : Int), .int .i64 (cols : Int), f] h Q c :=
 build_core rows cols f F hr hc hc0 hs hf fun b h1 e hx hm he =>
  Fin.mm 6 rfl hm (by rw [he, mat_len]) fun h' hu _ => Fin.done (ress_1 rfl rfl) (hq _ (hu.le hx (Nat.le_refl _)))
theorem build_mm (rows cols : Nat) (f : Value) (F : Nat → Nat → Raw) (hr : rows < 1099511627776) (hc : cols < 1099511627776) (hc0 : 0 < cols) (hs : QM.seen f = f)
  (hf : ∀ i j, i < rows → j < cols → ∀ (h : VH) (Q : Value → VH → Prop), (∀ h1, h.le h1 → Q (iV (F i j)) h1) → WCall Try.prog cfg f [.int .i64 (i : Int), .int .i64 (j : Int)] h Q)
  (hq : ∀ b h1, h.le h1 → MM mkI h.next h1 b (mat rows cols F) → Q (slc b rows) h1) : Runs Try.prog cfg 101 [.int .i64 (rows : Int), .int .i64 (cols : Int), f] h Q c :=
 build_core rows cols f F hr hc hc0 hs hf fun b h1 e hx hm he => Fin.done (ress_1 rfl (by rw [he]; rfl)) (hq _ _ hx hm)
abbrev nsN (l : List Nat) : Value := nsV (l.map Int.ofNat)
theorem nsN_get {l : List Nat} {i : Nat} : (l.map Int.ofNat).getD i 0 = ((l.getD i 0 : Nat) : Int) := by
 by_cases hi : i < l.length
 ·simp [hi]
 ·simp [List.getElem?_eq_none (Nat.le_of_not_lt hi)]
theorem Minor1_ok (m : List (List Raw)) (rs cs : List Nat) (i j : Nat) (hi : i < rs.length) (hj : j < cs.length) (hr : rs.getD i 0 < m.length) (hc : cs.getD j 0 < (m.getD (rs.getD i 0) []).length)
  (hl1 : rs.length < 1099511627776) (hl2 : cs.length < 1099511627776) (hq : ∀ h1, h.le h1 → Q (iV (ent m (rs.getD i 0) (cs.getD j 0))) h1) :
  Runs Try.prog cfg 102 [.int .i64 (i : Int), .int .i64 (j : Int), fP 0 #[mV m], fP 0 #[nsN rs], fP 0 #[nsN cs]] h Q c := by
 refine Runs.go Try.func102 rfl rfl (.refl _ _) ?_
 refine W.rseqZ ?_
 simp (disch := first | omega | (simp only [vd]; done) | (simp only [vd]; omega)) only [vs, reduceIte, Nat.reduceEqDiff, Value.cells]
 refine WF.done ?_
 try simp (disch := first | omega | (simp only [vd]; done) | (simp only [vd]; omega)) only [vs, reduceIte, Nat.reduceEqDiff, next_push, next_skip]
 have hle : h.le (h.push ⟨39, 0, [.bool false, .slice none 0 0]⟩) := VH.le_push _ _
 have hR : (h.push ⟨39, 0, [.bool false, .slice none 0 0]⟩).blk (h.next) = some ⟨39, 0, [.bool false, .slice none 0 0]⟩ := blk_push
 have hn : h.next < (h.push ⟨39, 0, [.bool false, .slice none 0 0]⟩).next := Nat.lt_succ_self _
 have hhr : h.next ≤ h.next := by omega
 generalize h.push ⟨39, 0, [.bool false, .slice none 0 0]⟩ = H at *
 obtain ⟨h7, k1, k2, k3, k4⟩ := fin_i (x := ent m (rs.getD i 0) (cs.getD j 0)) hle hR hn (Nat.le_refl _) (VH.le_refl _)
 have hi' : i < (rs.map Int.ofNat).length := by simpa using hi
 have hj' : j < (cs.map Int.ofNat).length := by simpa using hj
 refine W.dseqL (fun x => x ≠ h.next) [false, false, false, false, false, false, false, false, false, false, false, false, false, false] (by rfl) ?_
 simp (disch := first | omega | (simp only [vd]; done) | (simp only [vd]; omega)) only [vs, reduceIte, Nat.reduceEqDiff, nsN_get, Int.toNat_natCast, k1]
 refine ⟨⟨(k2 _ (Nat.le_refl _)).1, (k2 _ (Nat.le_refl _)).2⟩, W.ret ⟨.inr rfl, _, _, _, .refl _ _, ress_c rfl ?_, hq _ k4⟩⟩
 simp (disch := first | omega | (simp only [vd]; done) | (simp only [vd]; omega)) only [vs, reduceIte, Nat.reduceEqDiff, k3]
def Asc (l : List Nat) (n : Nat) : Prop := (∀ i, i < l.length → l.getD i 0 < n) ∧ ∀ i, 0 < i → i < l.length → l.getD (i - 1) 0 < l.getD i 0
theorem ascending_ok (l : List Nat) (n : Nat) (ha : Asc l n) (hl : l.length < 1099511627776) (hl0 : l ≠ []) (hn : n < 1099511627776) (hq : Q (.bool true) h) : Runs Try.prog cfg 99 [nsN l, .int .i64 (n : Int)] h Q c := by
 have hll : (l.map Int.ofNat).length = l.length := by simp
 have hl1 := List.length_pos_iff.2 hl0
 refine Runs.go Try.func99 rfl rfl (.refl _ _) ?_
 refine W.rseq ?_
 simp (disch := first | omega | (simp only [vd]; done) | (simp only [vd]; omega)) only [vs, reduceIte, Nat.reduceEqDiff]
 refine W.then (fun e' h' => e' 0 = nsN l ∧ h' = h) ?_ ?_
 ·skip
  refine W.rseq ?_
  simp (disch := first | omega | (simp only [vd]; done) | (simp only [vd]; omega)) only [vs, reduceIte, Nat.reduceEqDiff]
  refine W.gen [0, 1, 7, 8, 9] (fun e he => ?_)
  simp only [List.forall_mem_cons, List.not_mem_nil, false_implies, implies_true, and_true, e0_zero, e0_succ, put_some, put_none, reduceIte, Nat.reduceEqDiff, hll] at he
  obtain ⟨e0, e1, e7, e8, e9⟩ := he
  refine W.range (fun i e h' => e 0 = nsN l ∧ e 1 = .int .i64 (n : Int) ∧ e 7 = nsN l ∧ h' = h) l.length (by omega) rfl e9 e8 ⟨e0, e1, e7, rfl⟩ ?_ ?_
  ·rintro i e h' hi ei en ⟨e0, e1, e7, rfl⟩
   have h1 := ha.1 i hi
   refine W.block ?_
   refine W.rseq ?_
   simp (disch := first | omega | (simp only [vd]; done) | (simp only [vd]; omega)) only [vs, reduceIte, Nat.reduceEqDiff, ei, e7, nsN_get, Int.toNat_natCast]
   by_cases hi0 : 0 < i
   ·have h2 := ha.2 i hi0 hi
    have ht : ((i : Int) - 1).toNat = i - 1 := by omega
    refine W.rseq ?_
    simp (disch := first | omega | (simp only [vd]; done) | (simp only [vd]; omega)) only [vs, reduceIte, Nat.reduceEqDiff, e0, e1, nsN_get, ht]
    refine W.cond false (by rfl) nofun (fun _ => ?_)
    refine W.skip ?_
    simp (disch := first | omega | (simp only [vd]; done) | (simp only [vd]; omega)) only [vs, reduceIte, Nat.reduceEqDiff, ei, en, e0, e1, e7]
   ·skip
    refine W.rseq ?_
    simp (disch := first | omega | (simp only [vd]; done) | (simp only [vd]; omega)) only [vs, reduceIte, Nat.reduceEqDiff, e0, e1]
    refine W.cond false (by rfl) nofun (fun _ => ?_)
    refine W.skip ?_
    simp (disch := first | omega | (simp only [vd]; done) | (simp only [vd]; omega)) only [vs, reduceIte, Nat.reduceEqDiff, ei, en, e0, e1, e7]
  ·rintro e h' ei ⟨e0, e1, e7, rfl⟩
   simp (disch := first | omega | (simp only [vd]; done) | (simp only [vd]; omega)) only [vs, reduceIte, Nat.reduceEqDiff, e0]
 ·rintro e h' ⟨e0, rfl⟩
  refine W.rseq ?_
  simp (disch := first | omega | (simp only [vd]; done) | (simp only [vd]; omega)) only [vs, reduceIte, Nat.reduceEqDiff, e0, hll]
  refine W.ret ⟨.inr rfl, ?_⟩
  change Fin cfg _ _ _ _
  exact Fin.done (ress_1 rfl rfl) hq
theorem Minor_ok {K : Nat} (m : List (List Raw)) (rs cs : List Nat) (hm : IsM m) (hlim : ∀ i j, Lim (ent m i j).2) (hlen : ∀ i j, (ent m i j).2.length ≤ K) (hr : Asc rs m.length) (hc : Asc cs (m.getD 0 []).length) (hrc : rs.length = cs.length) (hr0 : rs ≠ []) (hrl : rs.length < 1000) (hK : wd K rs.length + 5 < 1099511627776)
  (hq : ∀ h1, h.le h1 → Q (.tuple #[iV (cz (det rs.length (fun i j => fm m (rs.getD i 0) (cs.getD j 0)))), .bool true]) h1) :
  Runs Try.prog cfg 69 [mV m, nsN rs, nsN cs] h Q c := by
 have hrl0 := List.length_pos_iff.2 hr0
 have hm1 := hm.1
 have hm2 := hm.2.1
 have hm3 := hm.2.2.1
 have hm4 := hm.2.2.2.1
 have hll : Len m := ⟨by omega, fun i => by
  by_cases hi : i < m.length
  ·rw [hm.2.2.2.2 i hi]; omega
  ·rw [List.getD_eq_getElem?_getD, List.getElem?_eq_none (by omega)]; decide⟩
 have e1 : (rs.map Int.ofNat).length = rs.length := by simp
 have e2 : (cs.map Int.ofNat).length = cs.length := by simp
 refine Runs.go Try.func69 rfl rfl (.refl _ _) ?_
 refine W.rseqZ ?_
 simp (disch := first | omega | (simp only [vd]; done) | (simp only [vd]; omega)) only [vs, reduceIte, Nat.reduceEqDiff, Value.cells]
 refine WF.d3 3 rfl (WF.d2 4 rfl (WF.d1 5 rfl (WF.done ?_)))
 try simp (disch := first | omega | (simp only [vd]; done) | (simp only [vd]; omega)) only [vs, reduceIte, Nat.reduceEqDiff, next_push, next_skip]
 have hle : h.le (h.skip.skip.skip.push ⟨39, 0, [.bool false, .slice none 0 0]⟩) := (VH.le_skip _).trans ((VH.le_skip _).trans ((VH.le_skip _).trans (VH.le_push _ _)))
 have hR : (h.skip.skip.skip.push ⟨39, 0, [.bool false, .slice none 0 0]⟩).blk (h.next + 1 + 1 + 1) = some ⟨39, 0, [.bool false, .slice none 0 0]⟩ := blk_push
 have hn : h.next + 1 + 1 + 1 < (h.skip.skip.skip.push ⟨39, 0, [.bool false, .slice none 0 0]⟩).next := Nat.lt_succ_self _
 have hhr : h.next ≤ h.next + 1 + 1 + 1 := by omega
 generalize h.skip.skip.skip.push ⟨39, 0, [.bool false, .slice none 0 0]⟩ = H at *
 generalize h.next + 1 + 1 + 1 = r at *
 refine W.rseq ?_
 simp (disch := first | omega | (simp only [vd]; done) | (simp only [vd]; omega)) only [vs, reduceIte, Nat.reduceEqDiff]
 refine shape_ok m hll (fun _ => ?_) (fun hh => absurd hm hh)
 simp (disch := first | omega | (simp only [vd]; done) | (simp only [vd]; omega)) only [vs, reduceIte, Nat.reduceEqDiff, extV]
 refine W.seq (W.rseq ?_)
 simp (disch := first | omega | (simp only [vd]; done) | (simp only [vd]; omega)) only [vs, reduceIte, Nat.reduceEqDiff, e1, e2, Bool.not_true]
 refine ascending_ok rs _ hr (by omega) hr0 (by omega) ?_
 simp (disch := first | omega | (simp only [vd]; done) | (simp only [vd]; omega)) only [vs, reduceIte, Nat.reduceEqDiff, e1, e2, Bool.not_true]
 refine ascending_ok cs _ hc (by omega) (fun e0 => hr0 (List.eq_nil_of_length_eq_zero (by rw [hrc, e0]; rfl))) (by omega) ?_
 simp (disch := first | omega | (simp only [vd]; done) | (simp only [vd]; omega)) only [vs, reduceIte, Nat.reduceEqDiff, Bool.not_true]
 refine W.cond false (by rfl) nofun (fun _ => ?_)
 refine W.skip ?_
 simp (disch := first | omega | (simp only [vd]; done) | (simp only [vd]; omega)) only [vs, reduceIte, Nat.reduceEqDiff]
 refine W.gen [0, 3, 4, 5, 6, 7] (fun e he => ?_)
 simp only [List.forall_mem_cons, List.not_mem_nil, false_implies, implies_true, and_true, e0_zero, e0_succ, put_some, put_none, reduceIte, Nat.reduceEqDiff] at he
 obtain ⟨e0, e3, e4, e5, e6, e7⟩ := he
 have hg : ∀ i j, i < rs.length → j < cs.length → ∀ (h : VH) (Q : Value → VH → Prop), (∀ h1, h.le h1 → Q (iV (ent m (rs.getD i 0) (cs.getD j 0))) h1) → WCall Try.prog cfg (.func (.func 102) #[] #[fP 0 #[mV m], fP 0 #[nsN rs], fP 0 #[nsN cs]]) [.int .i64 (i : Int), .int .i64 (j : Int)] h Q := by
  intro i j hi hj h Q hq
  rw [WCall_c]
  exact Minor1_ok m rs cs i j hi hj (hr.1 i hi) (by rw [hm.2.2.2.2 _ (hr.1 i hi)]; exact hc.1 j hj) (by omega) (by omega) hq
 refine W.rseq ?_
 simp (disch := first | omega | (simp only [vd]; done) | (simp only [vd]; omega)) only [vs, reduceIte, Nat.reduceEqDiff, e3, e4, e5, e1, e2, List.map_toArray]
 refine build_fz rs.length cs.length _ (fun i j => ent m (rs.getD i 0) (cs.getD j 0)) (by omega) (by omega) (by omega) rfl hg fun h1 hx1 => ?_
 simp (disch := first | omega | (simp only [vd]; done) | (simp only [vd]; omega)) only [vs, reduceIte, Nat.reduceEqDiff]
 have hsq : Sqm rs.length K (mat rs.length cs.length (fun i j => ent m (rs.getD i 0) (cs.getD j 0))) := by
  refine ⟨mat_len, fun i hi => by rw [mat_row hi, hrc]; simp, fun i j => ?_, fun i j => ?_⟩
  ·by_cases hij : i < rs.length ∧ j < cs.length
   ·rw [mat_ent hij.1 hij.2]; exact hlim _ _
   ·rw [mat_ent0 hij]; exact Lim.nil
  ·by_cases hij : i < rs.length ∧ j < cs.length
   ·rw [mat_ent hij.1 hij.2]; exact hlen _ _
   ·rw [mat_ent0 hij]; exact Nat.zero_le _
 refine det_ok _ hsq (by omega) hK fun h2 hx2 => ?_
 rw [det_congr (B := fun i j => fm m (rs.getD i 0) (cs.getD j 0)) (fun i j hi hj => by unfold fm; rw [mat_ent hi (by omega)])]
 obtain ⟨h7, k1, k2, k3, k4⟩ := fin_i (x := cz (det rs.length (fun i j => fm m (rs.getD i 0) (cs.getD j 0)))) hle hR hn (by omega) (hx1.trans hx2)
 simp (disch := first | omega | (simp only [vd]; done) | (simp only [vd]; omega)) only [vs, reduceIte, Nat.reduceEqDiff, e6, k1]
 refine W.ret ⟨.inr rfl, _, _, _, .refl _ _, ress_ct rfl ?_ rfl, hq _ k4⟩
 simp (disch := first | omega | (simp only [vd]; done) | (simp only [vd]; omega)) only [vs, reduceIte, Nat.reduceEqDiff, e6, k3]
end Go.Proofs.Ytjpknabdmmkobaa
end

section
set_option maxRecDepth 20000
open Go Go.QM Go.Elim
namespace Go.Proofs.Ytjpknabdmmkobaa
variable {h : VH} {Q : Value → VH → Prop} {c : Cw Q}
variable {P : Raw → Prop} {n w i j k p : Nat} {R : List (List Raw)} {A : Fm}
theorem mkO_app {h1 : VH} {n0 : Nat} {v w : Value} {l : List Raw} (hm : MO mkI n0 h1 v R) (hn : n0 ≤ h1.next) (hl : h1.le h) (ho : OI h1.next h w l) (hlen : R.length < 1099511627776) :
  ∃ v' h', appV cfg 25 v (.slice (some ⟨h.next, 0, none⟩) 1 1) (h.push ⟨34, 1, [w]⟩) = some (v', h') ∧ MO mkI n0 h' v' (R ++ [l]) ∧ Up n0 h h' ∧ h.next < h'.next :=
 hm.app (C := cfg) (t := 25) hn hl ho rfl t_SSapi_Int t_Sapi_Int (by decide) hlen
theorem OI.cv {n0 : Nat} {v : Value} {l : List Raw} (ho : OI n0 h v l) : cellsV v = some [v] := by
 obtain ⟨_, ⟨rfl, _⟩ | ⟨b, rfl, _⟩⟩ := ho <;> rfl
theorem OI.seen {n0 : Nat} {v : Value} {l : List Raw} (ho : OI n0 h v l) : QM.seen v = v := Own.seen ho
theorem OI.mono {n0 : Nat} {v : Value} {l : List Raw} {h' : VH} (ho : OI n0 h v l) (hl : h.le h') : OI n0 h' v l := Own.mono ho hl
theorem normM_take_succ {m : List (List Raw)} (hi : i < m.length) : normM (m.take (i + 1)) = normM (m.take i) ++ [(m.getD i []).map norm] := take_map_succ hi
theorem normal_core (m : List (List Raw)) (hm : Okm m) (hq : ∀ h1 (e : Env), h.le h1 → MO mkI h.next h1 (e 2) (normM m) → Fin cfg Try.f56 e h1 Q) :
  Runs Try.prog cfg 56 [mV m] h Q c := by
 have hml := hm.1
 refine Runs.go Try.func56 rfl rfl (.refl _ _) ?_
 refine W.rseq ?_
 simp (disch := first | omega | (simp only [vd]; done) | (simp only [vd]; omega)) only [vs, reduceIte, Nat.reduceEqDiff]
 refine W.rseq ?_
 simp (disch := first | omega | (simp only [vd]; done) | (simp only [vd]; omega)) only [vs, reduceIte, Nat.reduceEqDiff]
 refine W.then (fun e' h' => MO mkI h.next h' (e' 3) (normM m) ∧ Up h.next h h') ?_ ?_
 ·skip
  refine W.rseq ?_
  simp (disch := first | omega | (simp only [vd]; done) | (simp only [vd]; omega)) only [vs, reduceIte, Nat.reduceEqDiff]
  refine W.gen [3, 9, 10, 11] (fun e he => ?_)
  simp only [List.forall_mem_cons, List.not_mem_nil, false_implies, implies_true, and_true, e0_zero, e0_succ, put_some, put_none, reduceIte, Nat.reduceEqDiff] at he
  obtain ⟨e3, e9, e10, e11⟩ := he
  refine W.range (fun i e h' => e 9 = mV m ∧ MO mkI h.next h' (e 3) (normM (m.take i)) ∧ Up h.next h h') m.length (by omega) rfl e11 e10
   ⟨e9, by rw [e3]; exact MO.nil, .refl⟩ ?_ ?_
  ·rintro i e h1 hi ei en ⟨e9, hM, hu⟩
   have hrl := (hm.2 i).1
   obtain ⟨v3, e3⟩ : ∃ v, e 3 = v := ⟨_, rfl⟩
   rw [e3] at hM
   refine W.block ?_
   refine W.rseq ?_
   simp (disch := first | omega | (simp only [vd]; done) | (simp only [vd]; omega)) only [vs, reduceIte, Nat.reduceEqDiff, ei, e9, Int.toNat_natCast]
   refine W.rseq ?_
   simp (disch := first | omega | (simp only [vd]; done) | (simp only [vd]; omega)) only [vs, reduceIte, Nat.reduceEqDiff]
   refine W.then (fun e' h' => e' 9 = mV m ∧ e' 10 = .int .i64 (m.length : Int) ∧ e' 11 = .int .i64 (i : Int) ∧ e' 3 = v3 ∧ OI h1.next h' (e' 6) ((m.getD i []).map norm) ∧ h1.le h') ?_ ?_
   ·skip
    refine W.rseq ?_
    simp (disch := first | omega | (simp only [vd]; done) | (simp only [vd]; omega)) only [vs, reduceIte, Nat.reduceEqDiff]
    refine W.gen [3, 6, 9, 10, 11, 15, 16, 17] (fun e he => ?_)
    simp only [List.forall_mem_cons, List.not_mem_nil, false_implies, implies_true, and_true, e0_zero, e0_succ, put_some, put_none, reduceIte, Nat.reduceEqDiff, ei, en, e9, e3] at he
    obtain ⟨e3, e6, e9, e10, e11, e15, e16, e17⟩ := he
    refine W.range (fun j e' h' => e' 9 = mV m ∧ e' 10 = .int .i64 (m.length : Int) ∧ e' 11 = .int .i64 (i : Int) ∧ e' 3 = v3 ∧ e' 15 = isV (m.getD i []) ∧ OI h1.next h' (e' 6) (((m.getD i []).take j).map norm) ∧ h1.le h') (m.getD i []).length (by omega) rfl e17 e16
     ⟨e9, e10, e11, e3, e15, by rw [e6]; exact OI.nil, VH.le_refl _⟩ ?_ ?_
    ·rintro j e' h2 hj ej en ⟨e9, e10, e11, e3, e15, hO, hl⟩
     refine W.block ?_
     refine W.rseq ?_
     simp (disch := first | omega | (simp only [vd]; done) | (simp only [vd]; omega)) only [vs, reduceIte, Nat.reduceEqDiff, ej, e15, Int.toNat_natCast, Value.cells]
     have hcG : Cell (h2.push ⟨39, 0, [.bool ((m.getD i []).getD j raw0).1, u32S ((m.getD i []).getD j raw0).2]⟩) h2.next 39 [.bool ((m.getD i []).getD j raw0).1, u32S ((m.getD i []).getD j raw0).2] := Cell.new
     have hlG := VH.le_push h2 ⟨39, 0, [.bool ((m.getD i []).getD j raw0).1, u32S ((m.getD i []).getD j raw0).2]⟩
     have hnG := next_push (h := h2) (B := ⟨39, 0, [.bool ((m.getD i []).getD j raw0).1, u32S ((m.getD i []).getD j raw0).2]⟩)
     generalize h2.push ⟨39, 0, [.bool ((m.getD i []).getD j raw0).1, u32S ((m.getD i []).getD j raw0).2]⟩ = G at *
     refine W.reg ?_
     simp (disch := first | omega | (simp only [vd]; done) | (simp only [vd]; omega)) only [vs, reduceIte, Nat.reduceEqDiff, hcG.rd2]
     refine Normalize_r ((m.getD i []).getD j raw0) (hm.at i j) fun h3 hx3 => ?_
     obtain ⟨v', h4, k1, k2, k3, k4⟩ := (hO.mono (hlG.trans hx3)).app (norm ((m.getD i []).getD j raw0)) (by simp; omega) ((hl.trans hlG).trans hx3).1
     simp (disch := first | omega | (simp only [vd]; done) | (simp only [vd]; omega)) only [vs, reduceIte, Nat.reduceEqDiff, k1, hO.seen]
     rw [k2.seen]
     refine ⟨ej, en, e9, e10, e11, e3, e15, by rw [take_map_succ hj]; exact k2, k3 h1 ((hl.trans hlG).trans hx3) (Nat.le_refl _)⟩
    ·rintro e' h2 ej ⟨e9, e10, e11, e3, e15, hO, hl⟩
     rw [List.take_length] at hO
     simp (disch := first | omega | (simp only [vd]; done) | (simp only [vd]; omega)) only [vs, reduceIte, Nat.reduceEqDiff, e9, e10, e11, e3]
     exact ⟨hO, hl⟩
   ·rintro e' h2 ⟨e9, e10, e11, e3, hO, hl⟩
    refine W.reg ?_
    obtain ⟨v', h4, k1, k2, k3, k4⟩ := mkO_app hM hu.1 hl hO (by simp [normM]; omega)
    simp (disch := first | omega | (simp only [vd]; done) | (simp only [vd]; omega)) only [vs, reduceIte, Nat.reduceEqDiff, e3, hM.seen, hO.seen, hO.cv, k1, e9, e10, e11]
    rw [k2.seen]
    exact ⟨by rw [normM_take_succ hi]; exact k2, hu.trans ((Up.of_le hl hu.1).trans k3)⟩
  ·rintro e h1 ei ⟨e9, hM, hu⟩
   rw [List.take_length] at hM
   simp (disch := first | omega | (simp only [vd]; done) | (simp only [vd]; omega)) only [vs, reduceIte, Nat.reduceEqDiff]
   exact ⟨hM, hu⟩
 ·rintro e h1 ⟨hM, hu⟩
  refine W.rseq ?_
  simp (disch := first | omega | (simp only [vd]; done) | (simp only [vd]; omega)) only [vs, reduceIte, Nat.reduceEqDiff, hM.seen]
  refine W.ret ⟨.inr rfl, ?_⟩
  change Fin cfg _ _ _ _
  exact hq _ _ (hu.le (VH.le_refl _) (Nat.le_refl _)) hM
theorem normal_fz (m : List (List Raw)) (hm : Okm m) (hq : ∀ h1, h.le h1 → Q (mV (normM m)) h1) : Runs Try.prog cfg 56 [mV m] h Q c :=
 normal_core m hm fun h1 e hx hM => Fin.mo 2 rfl hM fun h2 hu _ => Fin.done (ress_1 rfl rfl) (hq _ (hu.le hx (Nat.le_refl _)))
theorem normal_mm (m : List (List Raw)) (hm : Okm m) (h0 : m ≠ []) (hq : ∀ b h1, h.le h1 → MM mkI h.next h1 b (normM m) → Q (slc b m.length) h1) : Runs Try.prog cfg 56 [mV m] h Q c :=
 normal_core m hm fun h1 e hx hM => by
  rcases hM with ⟨_, h2⟩ | ⟨_, b, h2, h3⟩
  ·exact absurd (by simpa [normM] using h2) h0
  ·have hl : (normM m).length = m.length := by simp [normM]
   rw [hl] at h2
   exact Fin.done (ress_1 rfl (by rw [h2]; rfl)) (hq b _ hx h3)
end Go.Proofs.Ytjpknabdmmkobaa
end

section
set_option maxRecDepth 20000
open Go Go.QM Go.Elim
namespace Go.Proofs.Ytjpknabdmmkobaa
variable {h : VH} {Q : Value → VH → Prop} {c : Cw Q}
variable {P : Raw → Prop} {n w i j k p : Nat} {R : List (List Raw)} {A : Fm}
structure MatK (K : Nat) (m : List (List Raw)) : Prop where
 lim : ∀ i j, Lim (ent m i j).2
 len : ∀ i j, (ent m i j).2.length ≤ K
 rows : m.length < 1099511627776
 cols : ∀ i, (m.getD i []).length < 1099511627776
theorem MatK.okm {K : Nat} {m : List (List Raw)} (h : MatK K m) (hK : K < 1099511627776) : Okm m := ⟨h.rows, fun i => ⟨h.cols i, fun j => ⟨Nat.lt_of_le_of_lt (h.len i j) hK, h.lim i j⟩⟩⟩
theorem MatK.shape {K : Nat} {m : List (List Raw)} (h : MatK K m) : Len m := ⟨h.rows, h.cols⟩
def IsSq (m : List (List Raw)) : Prop := IsM m ∧ (m.getD 0 []).length = m.length
instance (m : List (List Raw)) : Decidable (IsSq m) := by unfold IsSq; infer_instance
theorem MatK.sqm {K : Nat} {m : List (List Raw)} (h : MatK K m) (hs : IsSq m) : Sqm m.length K m := ⟨rfl, fun i hi => by rw [hs.1.2.2.2.2 i hi, hs.2], h.lim, h.len⟩
theorem upTo_ok (k : Nat) (hk : k < 1099511627776) (hq : ∀ h1, h.le h1 → Q (nsN (List.range k)) h1) : Runs Try.prog cfg 70 [.int .i64 (k : Int)] h Q c := by
 refine Runs.go Try.func70 rfl rfl (.refl _ _) ?_
 refine W.rseq ?_
 simp (disch := first | omega | (simp only [vd]; done) | (simp only [vd]; omega)) only [vs, reduceIte, Nat.reduceEqDiff]
 refine W.rseq ?_
 simp (disch := first | omega | (simp only [vd]; done) | (simp only [vd]; omega)) only [vs, reduceIte, Nat.reduceEqDiff, mkE_ok, Int.toNat_natCast]
 have hB0 := blk_push (h := h) (B := ⟨3, 1, zC (.int .i64 0) k⟩)
 have hle := VH.le_push h ⟨3, 1, zC (.int .i64 0) k⟩
 generalize h.push ⟨3, 1, zC (.int .i64 0) k⟩ = H at *
 refine W.then (fun e' h' => e' 3 = slc h.next k ∧ Up h.next h h' ∧ ∃ cs, h'.blk h.next = some ⟨3, 1, cs⟩ ∧ cs.length = k ∧ ∀ j, j < k → cs[j]? = some (.int .i64 (j : Int))) ?_ ?_
 ·skip
  refine W.rseq ?_
  simp (disch := first | omega | (simp only [vd]; done) | (simp only [vd]; omega)) only [vs, reduceIte, Nat.reduceEqDiff]
  refine W.gen [3, 7, 8, 9] (fun e he => ?_)
  simp only [List.forall_mem_cons, List.not_mem_nil, false_implies, implies_true, and_true, e0_zero, e0_succ, put_some, put_none, reduceIte, Nat.reduceEqDiff] at he
  obtain ⟨e3, e7, e8, e9⟩ := he
  refine W.range (fun i e h' => e 3 = slc h.next k ∧ Up h.next h h' ∧ ∃ cs, h'.blk h.next = some ⟨3, 1, cs⟩ ∧ cs.length = k ∧ ∀ j, j < i → cs[j]? = some (.int .i64 (j : Int))) k (by omega) rfl e9 e8
   ⟨e3, .of_le hle (Nat.le_refl _), _, hB0, by rw [zC_len], fun j hj => by omega⟩ ?_ ?_
  ·rintro i e h' hi ei en ⟨e3, hu, cs, hB, hcl, hcs⟩
   refine W.block ?_
   refine W.rseq ?_
   simp (disch := first | omega | (simp only [vd]; done) | (simp only [vd]; omega)) only [vs, reduceIte, Nat.reduceEqDiff, ei]
   refine W.reg ?_
   have hw := wr1_of (off := i) (v := .int .i64 (i : Int)) hB (by show i < cs.length; omega)
   simp (disch := first | omega | (simp only [vd]; done) | (simp only [vd]; omega)) only [vs, reduceIte, Nat.reduceEqDiff, ei, e3, Int.toNat_natCast, hw, en]
   refine ⟨hu.trans (.set (Nat.le_refl _)), _, blk_set, by simp [hcl], fun j hj => ?_⟩
   by_cases hji : j = i
   ·subst hji; simp [hcl, hi]
   ·rw [List.getElem?_set_ne (Ne.symm hji)]; exact hcs j (by omega)
  ·rintro e h' ei ⟨e3, hu, cs, hB, hcl, hcs⟩
   simp (disch := first | omega | (simp only [vd]; done) | (simp only [vd]; omega)) only [vs, reduceIte, Nat.reduceEqDiff, e3]
   exact ⟨hu, cs, hB, hcl, hcs⟩
 ·rintro e h' ⟨e3, hu, cs, hB, hcl, hcs⟩
  refine W.rseq ?_
  simp (disch := first | omega | (simp only [vd]; done) | (simp only [vd]; omega)) only [vs, reduceIte, Nat.reduceEqDiff, e3]
  refine W.ret ⟨.inr rfl, ?_⟩
  change Fin cfg _ _ _ _
  refine Fin.one 2 h.next rfl hB ?_
  have hcs2 : cs = ((List.range k).map Int.ofNat).map (Value.int .i64) := by
   refine List.ext_getElem? fun j => ?_
   by_cases hj : j < k
   ·rw [hcs j hj]; simp [hj]
   ·rw [List.getElem?_eq_none (by omega), List.getElem?_eq_none (by simp; omega)]
  refine Fin.done (ress_1 (v1 := nsN (List.range k)) rfl ?_) (hq _ ((hu.trans (Up.set (Nat.le_refl _))).le (VH.le_refl _) (Nat.le_refl _)))
  simp (disch := first | omega | (simp only [vd]; done) | (simp only [vd]; omega)) only [vs, reduceIte, Nat.reduceEqDiff]
  rw [fzT_sl rfl (by simp only [Nat.mul_one, Nat.zero_add, hcl]; exact Nat.le_refl _)]
  simp only [Nat.mul_one, List.drop_zero, ← hcl, List.take_length]
  rw [hcs2]
  simp [nsV, vlV]
  rfl
def leads (m : List (List Raw)) : List Raw := (List.range m.length).map fun k => cz (det (k + 1) (fm m))
theorem Leading_ok {K : Nat} (m : List (List Raw)) (hm : MatK K m) (hK : wd K 16 + 5 < 1099511627776) (hq1 : IsSq m → ∀ h1, h.le h1 → Q (.tuple #[isV (leads m), .bool true]) h1) (hq0 : ¬ IsSq m → ∀ h1, h.le h1 → Q (.tuple #[isV [], .bool false]) h1) :
  Runs Try.prog cfg 29 [mV m] h Q c := by
 refine Runs.go Try.func29 rfl rfl (.refl _ _) ?_
 refine W.rseq ?_
 simp (disch := first | omega | (simp only [vd]; done) | (simp only [vd]; omega)) only [vs, reduceIte, Nat.reduceEqDiff]
 refine W.rseq ?_
 simp (disch := first | omega | (simp only [vd]; done) | (simp only [vd]; omega)) only [vs, reduceIte, Nat.reduceEqDiff]
 refine b_square_ok m hm.shape (fun hh1 hh2 => ?_) (fun hh n => ?_)
 ·have hs : IsSq m := ⟨hh1, hh2⟩
  have hn1 := hh1.1
  have hn2 := hh1.2.1
  simp (disch := first | omega | (simp only [vd]; done) | (simp only [vd]; omega)) only [vs, reduceIte, Nat.reduceEqDiff, extV]
  refine W.seq (W.rseq ?_)
  simp (disch := first | omega | (simp only [vd]; done) | (simp only [vd]; omega)) only [vs, reduceIte, Nat.reduceEqDiff, Bool.not_true]
  refine W.cond false (by rfl) nofun (fun _ => ?_)
  refine W.skip ?_
  simp (disch := first | omega | (simp only [vd]; done) | (simp only [vd]; omega)) only [vs, reduceIte, Nat.reduceEqDiff]
  refine W.rseq ?_
  simp (disch := first | omega | (simp only [vd]; done) | (simp only [vd]; omega)) only [vs, reduceIte, Nat.reduceEqDiff]
  refine W.then (fun e' h' => OI h.next h' (e' 6) (leads m) ∧ Up h.next h h') ?_ ?_
  ·skip
   refine W.rseq ?_
   simp (disch := first | omega | (simp only [vd]; done) | (simp only [vd]; omega)) only [vs, reduceIte, Nat.reduceEqDiff]
   refine W.gen [0, 4, 6, 7] (fun e he => ?_)
   simp only [List.forall_mem_cons, List.not_mem_nil, false_implies, implies_true, and_true, e0_zero, e0_succ, put_some, put_none, reduceIte, Nat.reduceEqDiff] at he
   obtain ⟨e0, e4, e6, e7⟩ := he
   refine W.for (fun k e h' => ∃ k', k = k' + 1 ∧ e 0 = mV m ∧ e 4 = .int .i64 (m.length : Int) ∧ OI h.next h' (e 6) ((List.range k').map fun k => cz (det (k + 1) (fm m))) ∧ Up h.next h h') 1 (m.length + 1) (by omega) rfl (by omega) e7 ⟨0, rfl, e0, e4, by rw [e6]; exact OI.nil, .refl⟩ ?_
   rintro k e h' hk ei ⟨k', rfl, e0, e4, hO, hu⟩
   by_cases hlt : k' < m.length
   ·skip
    refine W.rseq ?_
    simp (disch := first | omega | (simp only [vd]; done) | (simp only [vd]; omega)) only [vs, reduceIte, Nat.reduceEqDiff, ei, e4]
    refine W.cond true (by rfl) (fun _ => ?_) nofun
    refine W.skip ?_
    simp (disch := first | omega | (simp only [vd]; done) | (simp only [vd]; omega)) only [vs, reduceIte, Nat.reduceEqDiff]
    refine ⟨by omega, ?_⟩
    refine W.rseq ?_
    simp (disch := first | omega | (simp only [vd]; done) | (simp only [vd]; omega)) only [vs, reduceIte, Nat.reduceEqDiff, ei]
    refine upTo_ok (k' + 1) (by omega) fun h1 hx1 => ?_
    simp (disch := first | omega | (simp only [vd]; done) | (simp only [vd]; omega)) only [vs, reduceIte, Nat.reduceEqDiff, ei]
    refine upTo_ok (k' + 1) (by omega) fun h2 hx2 => ?_
    simp (disch := first | omega | (simp only [vd]; done) | (simp only [vd]; omega)) only [vs, reduceIte, Nat.reduceEqDiff, e0]
    have hasc : Asc (List.range (k' + 1)) m.length := by
     refine ⟨fun i hi => ?_, fun i h0 hi => ?_⟩
     ·rw [List.length_range] at hi
      simp [hi]; omega
     ·rw [List.length_range] at hi
      simp [hi, show i - 1 < k' + 1 by omega]; omega
    refine Minor_ok m (List.range (k' + 1)) (List.range (k' + 1)) hh1 hm.lim hm.len hasc (by rw [hh2]; exact hasc) rfl (by simp) (by simp; omega) (by rw [List.length_range]; have := wd_le K (show k' + 1 ≤ 16 by omega); omega) fun h3 hx3 => ?_
    rw [List.length_range, det_congr (B := fm m) (fun i j hi hj => by simp [hi, hj])]
    simp (disch := first | omega | (simp only [vd]; done) | (simp only [vd]; omega)) only [vs, reduceIte, Nat.reduceEqDiff, extV, Value.cells]
    have hcG : Cell (h3.push ⟨39, 0, [.bool (cz (det (k' + 1) (fm m))).1, u32S (cz (det (k' + 1) (fm m))).2]⟩) h3.next 39 [.bool (cz (det (k' + 1) (fm m))).1, u32S (cz (det (k' + 1) (fm m))).2] := Cell.new
    have hlG := VH.le_push h3 ⟨39, 0, [.bool (cz (det (k' + 1) (fm m))).1, u32S (cz (det (k' + 1) (fm m))).2]⟩
    have hnG := next_push (h := h3) (B := ⟨39, 0, [.bool (cz (det (k' + 1) (fm m))).1, u32S (cz (det (k' + 1) (fm m))).2]⟩)
    generalize h3.push ⟨39, 0, [.bool (cz (det (k' + 1) (fm m))).1, u32S (cz (det (k' + 1) (fm m))).2]⟩ = G at *
    refine W.reg ?_
    have hx := (hx1.trans hx2).trans (hx3.trans hlG)
    obtain ⟨v', h4, k1, k2, k3, k4⟩ := (hO.mono hx).app (cz (det (k' + 1) (fm m))) (by simp; omega) (Nat.le_trans hu.1 hx.1)
    simp (disch := first | omega | (simp only [vd]; done) | (simp only [vd]; omega)) only [vs, reduceIte, Nat.reduceEqDiff, hcG.rd2, hO.seen, k1, ei, e0, e4]
    refine ⟨k' + 1, rfl, ?_, Up.trans (hu.trans (.of_le hx hu.1)) (.of_app (Nat.le_of_lt k4) (Nat.le_trans hu.1 hx.1) k3)⟩
    rw [k2.seen, List.range_succ, List.map_append]
    exact k2
   ·obtain rfl : k' = m.length := by omega
    refine W.rseq ?_
    simp (disch := first | omega | (simp only [vd]; done) | (simp only [vd]; omega)) only [vs, reduceIte, Nat.reduceEqDiff, ei, e4]
    refine W.cond false (by rfl) nofun (fun _ => W.exit ?_)
    simp (disch := first | omega | (simp only [vd]; done) | (simp only [vd]; omega)) only [vs, reduceIte, Nat.reduceEqDiff]
    exact ⟨hO, hu⟩
  ·rintro e h' ⟨hO, hu⟩
   refine W.rseq ?_
   simp (disch := first | omega | (simp only [vd]; done) | (simp only [vd]; omega)) only [vs, reduceIte, Nat.reduceEqDiff, hO.seen]
   refine W.ret ⟨.inr rfl, ?_⟩
   change Fin cfg _ _ _ _
   refine Fin.own 2 rfl hO fun h2 hx2 _ => ?_
   exact Fin.done (ress_tt rfl rfl rfl) (hq1 hs _ (hx2 _ (hu.le (VH.le_refl _) (Nat.le_refl _)) (Nat.le_refl _)))
 ·simp (disch := first | omega | (simp only [vd]; done) | (simp only [vd]; omega)) only [vs, reduceIte, Nat.reduceEqDiff, extV]
  refine W.seq (W.rseq ?_)
  simp (disch := first | omega | (simp only [vd]; done) | (simp only [vd]; omega)) only [vs, reduceIte, Nat.reduceEqDiff, Bool.not_false]
  refine W.cond true (by rfl) (fun _ => ?_) nofun
  refine W.rseq ?_
  simp (disch := first | omega | (simp only [vd]; done) | (simp only [vd]; omega)) only [vs, reduceIte, Nat.reduceEqDiff]
  refine W.ret ⟨.inr rfl, ?_⟩
  change Fin cfg _ _ _ _
  refine Fin.nil 2 ?_
  exact Fin.done (ress_tt rfl rfl rfl) (hq0 hh _ (VH.le_refl _))
end Go.Proofs.Ytjpknabdmmkobaa
end

section
set_option maxRecDepth 20000
open Go Go.QM Go.Elim
namespace Go.Proofs.Ytjpknabdmmkobaa
variable {h : VH} {Q : Value → VH → Prop} {c : Cw Q}
variable {P : Raw → Prop} {n w i j k p : Nat} {R : List (List Raw)} {A : Fm}
theorem step_sk {A : Fm} {w : Nat} {last : Int} {k : Nat} (hk : k < n) (hA : ∀ i j, i < n → j < n → Sk w (A i j)) : ∀ i j, i < n → j < n → Sk (2 * w + 1) (Elim.step A last k i j) := by
 intro i j hi hj
 unfold Elim.step
 split
 ·exact (((((hA k k hk hk).mul (hA i j hi hj)).sub ((hA i k hi hk).mul (hA k j hk hj))).div last)).mono (by omega)
 ·exact (hA i j hi hj).mono (by omega)
theorem elim_sk : ∀ {m k : Nat} {A : Fm} {last : Int} {neg : Bool} {w : Nat}, k + m ≤ n → (∀ i j, i < n → j < n → Sk w (A i j)) → Sk (w + 1) last → Sk (wd w m + 1) (elim m k A last neg)
 | 0, k, A, last, neg, w, hk, hA, hl => by
  unfold elim
  split
  ·exact hl.neg
  ·exact hl
 | m + 1, k, A, last, neg, w, hk, hA, hl => by
  have hwd : wd (2 * w + 1) m = wd w (m + 1) := by
   clear hA hl hk
   induction m with
   | zero => rfl
   | succ m ih => show 2 * wd (2 * w + 1) m + 1 = 2 * wd w (m + 1) + 1; rw [ih]
  have hkn : k < n := by omega
  unfold elim
  cases hp : piv A k (m + 1) k with
  | none => exact Sk.zero _
  | some p =>
   have hpl := piv_lt hp
   have hsw : ∀ i j, i < n → j < n → Sk w (swp A p k i j) := by
    intro i j hi hj
    unfold swp
    refine hA _ _ ?_ hj
    split
    ·exact hkn
    ·split
     ·omega
     ·exact hi
   simp only
   split
   ·rw [← hwd]
    exact elim_sk (by omega) (step_sk hkn hA) ((hA k k hkn hkn).mono (by omega))
   ·rw [← hwd]
    exact elim_sk (by omega) (step_sk hkn hsw) ((hsw k k hkn hkn).mono (by omega))
theorem det_sk {A : Fm} {w : Nat} (hA : ∀ i j, i < n → j < n → Sk w (A i j)) : Sk (wd w n + 1) (det n A) := elim_sk (by omega) hA (Sk.mono (show Sk 1 1 from dig_len.2 (by decide)) (by omega))
theorem MatK.sk {K : Nat} {m : List (List Raw)} (h : MatK K m) (i j : Nat) : Sk K (fm m i j) := Sk.of_raw (h.lim i j) (h.len i j)
theorem Det_ok {K : Nat} (m : List (List Raw)) (hm : MatK K m) (hK : wd K 16 + 5 < 1099511627776) (hq1 : IsSq m → ∀ h1, h.le h1 → Q (.tuple #[iV (cz (det m.length (fm m))), .bool true]) h1) (hq0 : ¬ IsSq m → ∀ h1, h.le h1 → Q (.tuple #[iV (cz 0), .bool false]) h1) :
  Runs Try.prog cfg 72 [mV m] h Q c := by
 refine Runs.go Try.func72 rfl rfl (.refl _ _) ?_
 refine W.rseqZ ?_
 simp (disch := first | omega | (simp only [vd]; done) | (simp only [vd]; omega)) only [vs, reduceIte, Nat.reduceEqDiff, Value.cells]
 refine WF.done ?_
 try simp (disch := first | omega | (simp only [vd]; done) | (simp only [vd]; omega)) only [vs, reduceIte, Nat.reduceEqDiff, next_push, next_skip]
 have hle : h.le (h.push ⟨39, 0, [.bool false, .slice none 0 0]⟩) := VH.le_push _ _
 have hR : (h.push ⟨39, 0, [.bool false, .slice none 0 0]⟩).blk (h.next) = some ⟨39, 0, [.bool false, .slice none 0 0]⟩ := blk_push
 have hn : h.next < (h.push ⟨39, 0, [.bool false, .slice none 0 0]⟩).next := Nat.lt_succ_self _
 have hhr : h.next ≤ h.next := by omega
 generalize h.push ⟨39, 0, [.bool false, .slice none 0 0]⟩ = H at *
 refine W.seq (W.rseq ?_)
 simp (disch := first | omega | (simp only [vd]; done) | (simp only [vd]; omega)) only [vs, reduceIte, Nat.reduceEqDiff]
 refine square_ok m hm.shape (fun hh1 hh2 => ?_) (fun hh n => ?_)
 ·have hs : IsSq m := ⟨hh1, hh2⟩
  have hn1 := hh1.1
  have hn2 := hh1.2.1
  simp (disch := first | omega | (simp only [vd]; done) | (simp only [vd]; omega)) only [vs, reduceIte, Nat.reduceEqDiff, extV]
  refine W.rseq ?_
  simp (disch := first | omega | (simp only [vd]; done) | (simp only [vd]; omega)) only [vs, reduceIte, Nat.reduceEqDiff, Bool.not_true]
  refine W.cond false (by rfl) nofun (fun _ => ?_)
  refine W.skip ?_
  simp (disch := first | omega | (simp only [vd]; done) | (simp only [vd]; omega)) only [vs, reduceIte, Nat.reduceEqDiff]
  refine W.rseq ?_
  simp (disch := first | omega | (simp only [vd]; done) | (simp only [vd]; omega)) only [vs, reduceIte, Nat.reduceEqDiff]
  refine det_ok m (hm.sqm hs) (by omega) (by have := wd_le K hn2; omega) fun h1 hx1 => ?_
  obtain ⟨h7, k1, k2, k3, k4⟩ := fin_i (x := cz (det m.length (fm m))) hle hR hn (Nat.le_refl _) hx1
  simp (disch := first | omega | (simp only [vd]; done) | (simp only [vd]; omega)) only [vs, reduceIte, Nat.reduceEqDiff, k1]
  refine W.ret ⟨.inr rfl, _, _, _, .refl _ _, ress_ct rfl ?_ rfl, hq1 hs _ k4⟩
  simp (disch := first | omega | (simp only [vd]; done) | (simp only [vd]; omega)) only [vs, reduceIte, Nat.reduceEqDiff, k3]
 ·simp (disch := first | omega | (simp only [vd]; done) | (simp only [vd]; omega)) only [vs, reduceIte, Nat.reduceEqDiff, extV]
  refine W.rseq ?_
  simp (disch := first | omega | (simp only [vd]; done) | (simp only [vd]; omega)) only [vs, reduceIte, Nat.reduceEqDiff, Bool.not_false]
  refine W.cond true (by rfl) (fun _ => ?_) nofun
  have hR3 := wr_s2 (y0 := .bool false) (y1 := .slice none 0 0) hR
  refine W.rseq ?_
  simp (disch := first | omega | (simp only [vd]; done) | (simp only [vd]; omega)) only [vs, reduceIte, Nat.reduceEqDiff, hR3]
  refine W.ret ⟨.inr rfl, ?_⟩
  change Fin cfg _ _ _ _
  refine Fin.nilc h.next 1 rfl blk_set ?_
  refine Fin.done (ress_ct rfl (v1 := iV (cz 0)) ?_ rfl) (hq0 hh _ (VH.le_set (VH.le_set hle (Nat.le_refl _) _) (Nat.le_refl _) _))
  simp (disch := first | omega | (simp only [vd]; done) | (simp only [vd]; omega)) only [vs, reduceIte, Nat.reduceEqDiff]
  rw [cz_zero, rdN_set]
  rfl
def DefP (m : List (List Raw)) : Prop := IsSq m ∧ ∀ i, i < m.length → (∀ j, j < i → fm m i j = fm m j i) ∧ 0 < det (i + 1) (fm m)
instance (m : List (List Raw)) : Decidable (DefP m) := by unfold DefP; infer_instance
theorem leads_get {m : List (List Raw)} (hi : i < m.length) : (leads m).getD i raw0 = cz (det (i + 1) (fm m)) := by simp [leads, hi]
theorem leads_len {m : List (List Raw)} : (leads m).length = m.length := by simp [leads]
theorem sign_le (z : Int) : (z.sign ≤ 0) ↔ z ≤ 0 := by
 rcases Int.lt_trichotomy z 0 with h | h | h
 ·rw [Int.sign_eq_neg_one_of_neg h]; omega
 ·rw [h]; decide
 ·rw [Int.sign_eq_one_of_pos h]; omega
theorem Definite_ok {K : Nat} (m : List (List Raw)) (hm : MatK K m) (hK : wd K 16 + 5 < 1099511627776) (hq : ∀ h1, h.le h1 → Q (.bool (decide (DefP m))) h1) :
  Runs Try.prog cfg 41 [mV m] h Q c := by
 have hK0 : K ≤ wd K 16 := wd_le K (Nat.zero_le 16)
 refine Runs.go Try.func41 rfl rfl (.refl _ _) ?_
 refine W.rseq ?_
 simp (disch := first | omega | (simp only [vd]; done) | (simp only [vd]; omega)) only [vs, reduceIte, Nat.reduceEqDiff]
 refine W.rseq ?_
 simp (disch := first | omega | (simp only [vd]; done) | (simp only [vd]; omega)) only [vs, reduceIte, Nat.reduceEqDiff]
 refine Leading_ok m hm hK (fun hs h1 hx1 => ?_) (fun hh h1 hx1 => ?_)
 ·have hml := hs.1.2.1
  simp (disch := first | omega | (simp only [vd]; done) | (simp only [vd]; omega)) only [vs, reduceIte, Nat.reduceEqDiff, extV]
  refine W.seq (W.rseq ?_)
  simp (disch := first | omega | (simp only [vd]; done) | (simp only [vd]; omega)) only [vs, reduceIte, Nat.reduceEqDiff, Bool.not_true]
  refine W.cond false (by rfl) nofun (fun _ => ?_)
  refine W.skip ?_
  simp (disch := first | omega | (simp only [vd]; done) | (simp only [vd]; omega)) only [vs, reduceIte, Nat.reduceEqDiff]
  refine W.then (fun e' h' => h.le h' ∧ DefP m) ?_ ?_
  ·skip
   refine W.rseq ?_
   simp (disch := first | omega | (simp only [vd]; done) | (simp only [vd]; omega)) only [vs, reduceIte, Nat.reduceEqDiff]
   refine W.gen [0, 3, 14, 15, 16] (fun e he => ?_)
   simp only [List.forall_mem_cons, List.not_mem_nil, false_implies, implies_true, and_true, e0_zero, e0_succ, put_some, put_none, reduceIte, Nat.reduceEqDiff] at he
   obtain ⟨e0, e3, e14, e15, e16⟩ := he
   refine W.range (fun i e h' => e 0 = mV m ∧ e 3 = isV (leads m) ∧ h.le h' ∧ ∀ i', i' < i → (∀ j, j < i' → fm m i' j = fm m j i') ∧ 0 < det (i' + 1) (fm m)) m.length (by omega) rfl e16 e15 ⟨e0, e3, hx1, fun i' hi' => by omega⟩ ?_ ?_
   ·rintro i e h2 hi ei en ⟨e0, e3, hl, hI⟩
    refine W.block ?_
    refine W.rseq ?_
    simp (disch := first | omega | (simp only [vd]; done) | (simp only [vd]; omega)) only [vs, reduceIte, Nat.reduceEqDiff, ei]
    refine W.then (fun e' h' => e' 0 = mV m ∧ e' 3 = isV (leads m) ∧ e' 5 = .int .i64 (i : Int) ∧ e' 15 = .int .i64 (m.length : Int) ∧ e' 16 = .int .i64 (i : Int) ∧ h.le h' ∧ ∀ j, j < i → fm m i j = fm m j i) ?_ ?_
    ·skip
     refine W.rseq ?_
     simp (disch := first | omega | (simp only [vd]; done) | (simp only [vd]; omega)) only [vs, reduceIte, Nat.reduceEqDiff]
     refine W.gen [0, 3, 5, 15, 16, 19, 20] (fun e he => ?_)
     simp only [List.forall_mem_cons, List.not_mem_nil, false_implies, implies_true, and_true, e0_zero, e0_succ, put_some, put_none, reduceIte, Nat.reduceEqDiff, e0, e3, ei, en] at he
     obtain ⟨e0, e3, e5, e15, e16, e19, e20⟩ := he
     refine W.range (fun j e h' => e 0 = mV m ∧ e 3 = isV (leads m) ∧ e 5 = .int .i64 (i : Int) ∧ e 15 = .int .i64 (m.length : Int) ∧ e 16 = .int .i64 (i : Int) ∧ h.le h' ∧ ∀ j', j' < j → fm m i j' = fm m j' i) i (by omega) rfl e20 e19 ⟨e0, e3, e5, e15, e16, hl, fun j hj => by omega⟩ ?_ ?_
     ·rintro j e h3 hj ej en ⟨e0, e3, e5, e15, e16, hl, hJ⟩
      have c1 := hs.1.2.2.2.2 i hi
      have c2 := hs.1.2.2.2.2 j (by omega)
      have c3 := hs.2
      refine W.block ?_
      refine W.rseq ?_
      simp (disch := first | omega | (simp only [vd]; done) | (simp only [vd]; omega)) only [vs, reduceIte, Nat.reduceEqDiff, ej]
      refine W.dseqL (fun _ => True) [false, false, false, false, false, false, false, false, false, false, false, false, false, false, false, false] (by rfl) ?_
      simp (disch := first | omega | (simp only [vd]; done) | (simp only [vd]; omega)) only [vs, reduceIte, Nat.reduceEqDiff, e0, e5, Int.toNat_natCast]
      refine Cmp_r (ent m i j) (ent m j i) ((hm.okm (by omega)).at i j) ((hm.okm (by omega)).at j i) fun h4 hx4 => ?_
      simp (disch := first | omega | (simp only [vd]; done) | (simp only [vd]; omega)) only [vs, reduceIte, Nat.reduceEqDiff, gr_le hx4, gr0_le hx4]
      change W _ _ _ _ _ _
      by_cases he : fm m i j = fm m j i
      ·have hz : (iz (ent m i j) - iz (ent m j i)).sign = 0 := by
        have : iz (ent m i j) = iz (ent m j i) := he
        rw [this, Int.sub_self]; rfl
       simp (disch := first | omega | (simp only [vd]; done) | (simp only [vd]; omega)) only [vs, reduceIte, Nat.reduceEqDiff, hz]
       refine W.cond false (by rfl) nofun (fun _ => ?_)
       refine W.skip ?_
       simp (disch := first | omega | (simp only [vd]; done) | (simp only [vd]; omega)) only [vs, reduceIte, Nat.reduceEqDiff, e0, e3, e5, e15, e16, ej, en]
       refine ⟨hl.trans hx4, fun j' hj' => ?_⟩
       by_cases hjj : j' = j
       ·rw [hjj]; exact he
       ·exact hJ j' (by omega)
      ·have hz : (iz (ent m i j) - iz (ent m j i)).sign ≠ 0 := fun e0 => he (by
        have := Int.sign_eq_zero_iff_zero.1 e0
        show iz (ent m i j) = iz (ent m j i)
        omega)
       simp (disch := first | omega | (simp only [vd]; done) | (simp only [vd]; omega)) only [vs, reduceIte, Nat.reduceEqDiff]
       refine W.cond true (by rfl) (fun _ => ?_) nofun
       refine W.rseq ?_
       simp (disch := first | omega | (simp only [vd]; done) | (simp only [vd]; omega)) only [vs, reduceIte, Nat.reduceEqDiff]
       rw [decide_eq_false (fun hd => he ((hd.2 i hi).1 j hj))] at hq
       exact W.ret ⟨.inr rfl, _, _, _, .refl _ _, ress_t rfl, hq _ (hl.trans hx4)⟩
     ·rintro e h3 ej ⟨e0, e3, e5, e15, e16, hl, hJ⟩
      simp (disch := first | omega | (simp only [vd]; done) | (simp only [vd]; omega)) only [vs, reduceIte, Nat.reduceEqDiff, e0, e3, e5, e15, e16]
      exact ⟨hl, hJ⟩
    ·rintro e h3 ⟨e0, e3, e5, e15, e16, hl, hJ⟩
     have hll : i < (leads m).length := by rw [leads_len]; exact hi
     have hdk := det_sk (n := i + 1) (A := fm m) (fun a b _ _ => hm.sk a b)
     have hw := wd_le K (show i + 1 ≤ 16 by omega)
     refine W.rseq ?_
     simp (disch := first | omega | (simp only [vd]; done) | (simp only [vd]; omega)) only [vs, reduceIte, Nat.reduceEqDiff, e3, e5, Int.toNat_natCast]
     refine Sign_r ((leads m).getD i raw0) (by rw [leads_get hi]; exact Okr.cz hdk (by omega)) fun h4 hx4 => ?_
     rw [leads_get hi, iz_cz]
     by_cases hp : 0 < det (i + 1) (fm m)
     ·have hs1 : (det (i + 1) (fm m)).sign = 1 := Int.sign_eq_one_of_pos hp
      simp (disch := first | omega | (simp only [vd]; done) | (simp only [vd]; omega)) only [vs, reduceIte, Nat.reduceEqDiff, hs1]
      refine W.cond false (by rfl) nofun (fun _ => ?_)
      refine W.skip ?_
      simp (disch := first | omega | (simp only [vd]; done) | (simp only [vd]; omega)) only [vs, reduceIte, Nat.reduceEqDiff, e0, e3, e5, e15, e16]
      refine ⟨hl.trans hx4, fun i' hi' => ?_⟩
      by_cases hii : i' = i
      ·rw [hii]; exact ⟨hJ, hp⟩
      ·exact hI i' (by omega)
     ·have hs1 : (det (i + 1) (fm m)).sign ≤ 0 := (sign_le _).2 (by omega)
      simp (disch := first | omega | (simp only [vd]; done) | (simp only [vd]; omega)) only [vs, reduceIte, Nat.reduceEqDiff]
      refine W.cond true (by rfl) (fun _ => ?_) nofun
      refine W.rseq ?_
      simp (disch := first | omega | (simp only [vd]; done) | (simp only [vd]; omega)) only [vs, reduceIte, Nat.reduceEqDiff]
      rw [decide_eq_false (fun hd => hp (hd.2 i hi).2)] at hq
      exact W.ret ⟨.inr rfl, _, _, _, .refl _ _, ress_t rfl, hq _ (hl.trans hx4)⟩
   ·rintro e h2 ei ⟨e0, e3, hl, hI⟩
    simp (disch := first | omega | (simp only [vd]; done) | (simp only [vd]; omega)) only [vs, reduceIte, Nat.reduceEqDiff]
    exact ⟨hl, hs, hI⟩
  ·rintro e h2 ⟨hl, hd⟩
   refine W.rseq ?_
   simp (disch := first | omega | (simp only [vd]; done) | (simp only [vd]; omega)) only [vs, reduceIte, Nat.reduceEqDiff]
   rw [decide_eq_true hd] at hq
   exact W.ret ⟨.inr rfl, _, _, _, .refl _ _, ress_t rfl, hq _ hl⟩
 ·simp (disch := first | omega | (simp only [vd]; done) | (simp only [vd]; omega)) only [vs, reduceIte, Nat.reduceEqDiff, extV]
  refine W.seq (W.rseq ?_)
  simp (disch := first | omega | (simp only [vd]; done) | (simp only [vd]; omega)) only [vs, reduceIte, Nat.reduceEqDiff, Bool.not_false]
  refine W.cond true (by rfl) (fun _ => ?_) nofun
  refine W.rseq ?_
  simp (disch := first | omega | (simp only [vd]; done) | (simp only [vd]; omega)) only [vs, reduceIte, Nat.reduceEqDiff]
  rw [decide_eq_false (fun hd => hh hd.1)] at hq
  exact W.ret ⟨.inr rfl, _, _, _, .refl _ _, ress_t rfl, hq _ hx1⟩
end Go.Proofs.Ytjpknabdmmkobaa
end

section
set_option maxRecDepth 20000
open Go Go.QM Go.Elim
namespace Go.Proofs.Ytjpknabdmmkobaa
variable {h : VH} {Q : Value → VH → Prop} {c : Cw Q}
theorem wr_pp2 {b ty sz : Nat} {x0 x1 y0 y1 : Value} {B : Blk} (hb : b = h.next) : wrN 0 ((h.push ⟨ty, sz, [x0, x1]⟩).push B) b 0 [y0, y1] = some ((h.push ⟨ty, sz, [y0, y1]⟩).push B) := by
 have hne : b ≠ (h.push ⟨ty, sz, [x0, x1]⟩).next := by rw [next_push]; omega
 rw [wr_s2 (by rw [blk_push_ne hne, blk_push' hb]), set_push_ne hne, set_push' hb]
theorem fin_r {H h3 : VH} {r t : Nat} {x : RRaw} (hle : h.le H) (hR : H.blk r = some ⟨t, 0, [.bool false, .slice none 0 0, .bool false, .slice none 0 0]⟩) (hn : r < H.next) (hhr : h.next ≤ r) (h23 : H.le h3) :
  ∃ h4, wrN 0 h3 r 0 [.bool x.1.1, u32S x.1.2, .bool x.2.1, u32S x.2.2] = some h4 ∧ Grow0 h3 h4 ∧ (∀ n0, H.next ≤ n0 → Grow (fun x => x ≠ r) n0 h3 h4) ∧ (rdN h4 r 0 4).map (fun l => Value.agg l.toArray) = some (rV x) ∧ h.le h4 := by
 have hR3 : h3.blk r = some ⟨t, 0, [.bool false, .slice none 0 0, .bool false, .slice none 0 0]⟩ := by rw [h23.2 r hn]; exact hR
 refine ⟨_, wr_s4 hR3, gr0_set hR3, fun n0 hn0 => gr_set hR3 (fun e => e rfl) (by omega), ?_, VH.le_set (hle.trans h23) hhr _⟩
 rw [rdN_set]
 rfl
def ofN (a b : Int) : Int := if b = 0 then 0 else if b < 0 then -a else a
def ofD (b : Int) : Int := if b = 0 then 1 else if b < 0 then -b else b
def Okq (x : RRaw) : Prop := Okr x.1 ∧ Okr x.2
theorem of_ok (x : RRaw) (hx : Okq x) (hq : ∀ (y : RRaw) h1, h.le h1 → Okq y → iz y.1 = ofN (iz x.1) (iz x.2) → iz y.2 = ofD (iz x.2) → Q (rV y) h1) : Runs Try.prog cfg 117 [rV x] h Q c := by
 obtain ⟨hx1, hx2⟩ := hx
 have hs1 : Sk 1099511627775 (-iz x.1) := (Sk.of_raw hx1.2 (Nat.le_of_lt_succ hx1.1)).neg
 have hs2 : Sk 1099511627775 (-iz x.2) := (Sk.of_raw hx2.2 (Nat.le_of_lt_succ hx2.1)).neg
 refine Runs.go Try.func117 rfl rfl (.refl _ _) ?_
 refine W.rseqZ ?_
 simp (disch := first | omega | (simp only [vd]; done) | (simp only [vd]; omega)) only [vs, reduceIte, Nat.reduceEqDiff, Value.cells]
 refine WF.d1 1 rfl (WF.done ?_)
 try simp (disch := first | omega | (simp only [vd]; done) | (simp only [vd]; omega)) only [vs, reduceIte, Nat.reduceEqDiff, next_push, next_skip]
 have hle : h.le (h.skip.push ⟨123, 0, [.bool false, .slice none 0 0, .bool false, .slice none 0 0]⟩) := (VH.le_skip _).trans (VH.le_push _ _)
 have hR : (h.skip.push ⟨123, 0, [.bool false, .slice none 0 0, .bool false, .slice none 0 0]⟩).blk (h.next + 1) = some ⟨123, 0, [.bool false, .slice none 0 0, .bool false, .slice none 0 0]⟩ := blk_push
 have hn : h.next + 1 < (h.skip.push ⟨123, 0, [.bool false, .slice none 0 0, .bool false, .slice none 0 0]⟩).next := Nat.lt_succ_self _
 have hhr : h.next ≤ h.next + 1 := by omega
 generalize h.skip.push ⟨123, 0, [.bool false, .slice none 0 0, .bool false, .slice none 0 0]⟩ = H at *
 generalize h.next + 1 = r at *
 refine W.seq (W.rseq ?_)
 simp (disch := first | omega | (simp only [vd]; done) | (simp only [vd]; omega)) only [vs, reduceIte, Nat.reduceEqDiff]
 refine Sign_r x.2 hx2 fun h1 hx1' => ?_
 simp (disch := first | omega | (simp only [vd]; done) | (simp only [vd]; omega)) only [vs, reduceIte, Nat.reduceEqDiff]
 refine W.block ?_
 refine W.rseq ?_
 simp (disch := first | omega | (simp only [vd]; done) | (simp only [vd]; omega)) only [vs, reduceIte, Nat.reduceEqDiff]
 by_cases h0 : iz x.2 = 0
 ·have hs : (iz x.2).sign = 0 := by rw [h0]; rfl
  simp (disch := first | omega | (simp only [vd]; done) | (simp only [vd]; omega)) only [vs, reduceIte, Nat.reduceEqDiff, hs]
  refine W.cond true (by rfl) (fun _ => ?_) nofun
  refine W.rseq ?_
  simp (disch := first | omega | (simp only [vd]; done) | (simp only [vd]; omega)) only [vs, reduceIte, Nat.reduceEqDiff]
  refine Small_r 1 (by decide) (by decide) fun h2 hx2' => ?_
  have hR2 : h2.blk r = some ⟨123, 0, [.bool false, .slice none 0 0, .bool false, .slice none 0 0]⟩ := by rw [(hx1'.trans hx2').2 r hn]; exact hR
  have hw := wr_s4 (y0 := .bool false) (y1 := .slice none 0 0) (y2 := .bool (cz 1).1) (y3 := u32S (cz 1).2) hR2
  simp (disch := first | omega | (simp only [vd]; done) | (simp only [vd]; omega)) only [vs, reduceIte, Nat.reduceEqDiff, hw]
  refine W.ret ⟨.inr rfl, ?_⟩
  change Fin cfg _ _ _ _
  refine Fin.nilc r 1 rfl blk_set ?_
  refine Fin.done (ress_c rfl (v := rV (raw0, cz 1)) ?_) (hq (raw0, cz 1) _ (VH.le_set (VH.le_set (hle.trans (hx1'.trans hx2')) hhr _) hhr _) ⟨Okr.zero, Okr.cz (k := 1) (dig_len.2 (by decide)) (by decide)⟩ (by rw [iz_zero, ofN, if_pos h0]) (by rw [iz_cz, ofD, if_pos h0]))
  simp (disch := first | omega | (simp only [vd]; done) | (simp only [vd]; omega)) only [vs, reduceIte, Nat.reduceEqDiff]
  rw [rdN_set]
  rfl
 ·by_cases hneg : iz x.2 < 0
  ·have hs : (iz x.2).sign = -1 := Int.sign_eq_neg_one_of_neg hneg
   simp (disch := first | omega | (simp only [vd]; done) | (simp only [vd]; omega)) only [vs, reduceIte, Nat.reduceEqDiff, hs]
   refine W.cond false (by rfl) nofun (fun _ => ?_)
   refine W.rseq ?_
   simp (disch := first | omega | (simp only [vd]; done) | (simp only [vd]; omega)) only [vs, reduceIte, Nat.reduceEqDiff, hs]
   refine W.cond true (by rfl) (fun _ => ?_) nofun
   refine W.dseqL (fun y => y ≠ r) [false, false, true, false, false, false, false, false] (by rfl) ?_
   simp (disch := first | omega | (simp only [vd]; done) | (simp only [vd]; omega)) only [vs, reduceIte, Nat.reduceEqDiff]
   refine Neg_r x.1 hx1 fun h2 hx2' => ?_
   simp (disch := first | omega | (simp only [vd]; done) | (simp only [vd]; omega)) only [vs, reduceIte, Nat.reduceEqDiff, gr_le hx2', gr0_le hx2']
   refine Neg_r x.2 hx2 fun h3 hx3' => ?_
   obtain ⟨h4, k1, k2, k2', k3, k4⟩ := fin_r (x := (cz (-iz x.1), cz (-iz x.2))) hle hR hn hhr (hx1'.trans (hx2'.trans hx3'))
   simp (disch := first | omega | (simp only [vd]; done) | (simp only [vd]; omega)) only [vs, reduceIte, Nat.reduceEqDiff, gr_le hx3', gr0_le hx3', k1]
   refine ⟨k2, W.ret ⟨.inr rfl, _, _, _, .refl _ _, ress_c rfl ?_, hq (cz (-iz x.1), cz (-iz x.2)) _ k4 ⟨Okr.cz hs1 (by decide), Okr.cz hs2 (by decide)⟩ (by rw [iz_cz, ofN, if_neg h0, if_pos hneg]) (by rw [iz_cz, ofD, if_neg h0, if_pos hneg])⟩⟩
   simp (disch := first | omega | (simp only [vd]; done) | (simp only [vd]; omega)) only [vs, reduceIte, Nat.reduceEqDiff, k3]
  ·have hs : (iz x.2).sign = 1 := Int.sign_eq_one_of_pos (by omega)
   simp (disch := first | omega | (simp only [vd]; done) | (simp only [vd]; omega)) only [vs, reduceIte, Nat.reduceEqDiff, hs]
   refine W.cond false (by rfl) nofun (fun _ => ?_)
   refine W.rseq ?_
   simp (disch := first | omega | (simp only [vd]; done) | (simp only [vd]; omega)) only [vs, reduceIte, Nat.reduceEqDiff, hs]
   refine W.cond false (by rfl) nofun (fun _ => ?_)
   refine W.skip ?_
   simp (disch := first | omega | (simp only [vd]; done) | (simp only [vd]; omega)) only [vs, reduceIte, Nat.reduceEqDiff]
   obtain ⟨h4, k1, k2, k2', k3, k4⟩ := fin_r (x := x) hle hR hn hhr hx1'
   refine W.rseq ?_
   simp (disch := first | omega | (simp only [vd]; done) | (simp only [vd]; omega)) only [vs, reduceIte, Nat.reduceEqDiff, k1]
   refine W.ret ⟨.inr rfl, _, _, _, .refl _ _, ress_c rfl ?_, hq x _ k4 ⟨hx1, hx2⟩ (by rw [ofN, if_neg h0, if_neg hneg]) (by rw [ofD, if_neg h0, if_neg hneg])⟩
   simp (disch := first | omega | (simp only [vd]; done) | (simp only [vd]; omega)) only [vs, reduceIte, Nat.reduceEqDiff, k3]
def lowN (a b : Int) : Int := a / (Int.gcd a b : Int)
def lowD (a b : Int) : Int := b / (Int.gcd a b : Int)
theorem gcd_sk {k : Nat} {a b : Int} (hb : Sk k b) (h0 : b ≠ 0) : Sk k (Int.gcd a b : Int) := by
 refine hb.le ?_
 rw [Int.natAbs_natCast]
 exact Nat.le_of_dvd (Int.natAbs_pos.2 h0) (Nat.gcd_dvd_right _ _)
theorem rat_ok (x : RRaw) (hx : Okq x) (hd : 0 < iz x.2) (hq : ∀ h1, h.le h1 → Q (rV (cz (lowN (iz x.1) (iz x.2)), cz (lowD (iz x.1) (iz x.2)))) h1) : Runs Try.prog cfg 118 [rV x] h Q c := by
 obtain ⟨hx1, hx2⟩ := hx
 have hs1 : Sk 1099511627775 (iz x.1) := Sk.of_raw hx1.2 (Nat.le_of_lt_succ hx1.1)
 have hs2 : Sk 1099511627775 (iz x.2) := Sk.of_raw hx2.2 (Nat.le_of_lt_succ hx2.1)
 have hsg := gcd_sk (a := iz x.1) hs2 (by omega)
 have hg0 : (Int.gcd (iz x.1) (iz x.2) : Int) ≠ 0 := by
  intro e0
  have := Int.gcd_eq_zero_iff.1 (Int.natCast_eq_zero.1 e0)
  omega
 refine Runs.go Try.func118 rfl rfl (.refl _ _) ?_
 refine W.rseqZ ?_
 simp (disch := first | omega | (simp only [vd]; done) | (simp only [vd]; omega)) only [vs, reduceIte, Nat.reduceEqDiff, Value.cells]
 refine WF.d1 1 rfl (WF.done ?_)
 try simp (disch := first | omega | (simp only [vd]; done) | (simp only [vd]; omega)) only [vs, reduceIte, Nat.reduceEqDiff, next_push, next_skip]
 have hle : h.le (h.skip.push ⟨58, 0, [.bool false, .slice none 0 0, .bool false, .slice none 0 0]⟩) := (VH.le_skip _).trans (VH.le_push _ _)
 have hR : (h.skip.push ⟨58, 0, [.bool false, .slice none 0 0, .bool false, .slice none 0 0]⟩).blk (h.next + 1) = some ⟨58, 0, [.bool false, .slice none 0 0, .bool false, .slice none 0 0]⟩ := blk_push
 have hn : h.next + 1 < (h.skip.push ⟨58, 0, [.bool false, .slice none 0 0, .bool false, .slice none 0 0]⟩).next := Nat.lt_succ_self _
 have hhr : h.next ≤ h.next + 1 := by omega
 generalize h.skip.push ⟨58, 0, [.bool false, .slice none 0 0, .bool false, .slice none 0 0]⟩ = H at *
 generalize h.next + 1 = r at *
 refine W.rseq ?_
 simp (disch := first | omega | (simp only [vd]; done) | (simp only [vd]; omega)) only [vs, reduceIte, Nat.reduceEqDiff]
 refine Gcd_r x.1 x.2 hx1 hx2 fun h1 hx1' => ?_
 simp (disch := first | omega | (simp only [vd]; done) | (simp only [vd]; omega)) only [vs, reduceIte, Nat.reduceEqDiff, Value.cells]
 have hcG1 : Cell (h1.push ⟨39, 0, [.bool (cz (Int.gcd (iz x.1) (iz x.2) : Int)).1, u32S (cz (Int.gcd (iz x.1) (iz x.2) : Int)).2]⟩) h1.next 39 [.bool (cz (Int.gcd (iz x.1) (iz x.2) : Int)).1, u32S (cz (Int.gcd (iz x.1) (iz x.2) : Int)).2] := Cell.new
 have hlG1 := VH.le_push h1 ⟨39, 0, [.bool (cz (Int.gcd (iz x.1) (iz x.2) : Int)).1, u32S (cz (Int.gcd (iz x.1) (iz x.2) : Int)).2]⟩
 have hnG1 := next_push (h := h1) (B := ⟨39, 0, [.bool (cz (Int.gcd (iz x.1) (iz x.2) : Int)).1, u32S (cz (Int.gcd (iz x.1) (iz x.2) : Int)).2]⟩)
 generalize h1.push ⟨39, 0, [.bool (cz (Int.gcd (iz x.1) (iz x.2) : Int)).1, u32S (cz (Int.gcd (iz x.1) (iz x.2) : Int)).2]⟩ = G1 at *
 refine W.rseq ?_
 simp (disch := first | omega | (simp only [vd]; done) | (simp only [vd]; omega)) only [vs, reduceIte, Nat.reduceEqDiff, hcG1.rd2]
 refine DivMod_r x.1 (cz _) hx1 (Okr.cz hsg (by decide)) fun ok h2 hx2' => ?_
 rw [iz_cz]
 simp (disch := first | omega | (simp only [vd]; done) | (simp only [vd]; omega)) only [vs, reduceIte, Nat.reduceEqDiff, extV, Value.cells, wr_pp2]
 have hcA2 : Cell (h2.push ⟨39, 0, [.bool (cz (iz x.1 / (Int.gcd (iz x.1) (iz x.2) : Int))).1, u32S (cz (iz x.1 / (Int.gcd (iz x.1) (iz x.2) : Int))).2]⟩) h2.next 39 [.bool (cz (iz x.1 / (Int.gcd (iz x.1) (iz x.2) : Int))).1, u32S (cz (iz x.1 / (Int.gcd (iz x.1) (iz x.2) : Int))).2] := Cell.new
 have hlA2 := VH.le_push h2 ⟨39, 0, [.bool (cz (iz x.1 / (Int.gcd (iz x.1) (iz x.2) : Int))).1, u32S (cz (iz x.1 / (Int.gcd (iz x.1) (iz x.2) : Int))).2]⟩
 have hnA2 := next_push (h := h2) (B := ⟨39, 0, [.bool (cz (iz x.1 / (Int.gcd (iz x.1) (iz x.2) : Int))).1, u32S (cz (iz x.1 / (Int.gcd (iz x.1) (iz x.2) : Int))).2]⟩)
 generalize h2.push ⟨39, 0, [.bool (cz (iz x.1 / (Int.gcd (iz x.1) (iz x.2) : Int))).1, u32S (cz (iz x.1 / (Int.gcd (iz x.1) (iz x.2) : Int))).2]⟩ = A2 at *
 have hcB2 : Cell (A2.push ⟨39, 0, [.bool (cz (remZ (iz x.1) (Int.gcd (iz x.1) (iz x.2) : Int))).1, u32S (cz (remZ (iz x.1) (Int.gcd (iz x.1) (iz x.2) : Int))).2]⟩) A2.next 39 [.bool (cz (remZ (iz x.1) (Int.gcd (iz x.1) (iz x.2) : Int))).1, u32S (cz (remZ (iz x.1) (Int.gcd (iz x.1) (iz x.2) : Int))).2] := Cell.new
 have hlB2 := VH.le_push A2 ⟨39, 0, [.bool (cz (remZ (iz x.1) (Int.gcd (iz x.1) (iz x.2) : Int))).1, u32S (cz (remZ (iz x.1) (Int.gcd (iz x.1) (iz x.2) : Int))).2]⟩
 have hnB2 := next_push (h := A2) (B := ⟨39, 0, [.bool (cz (remZ (iz x.1) (Int.gcd (iz x.1) (iz x.2) : Int))).1, u32S (cz (remZ (iz x.1) (Int.gcd (iz x.1) (iz x.2) : Int))).2]⟩)
 generalize A2.push ⟨39, 0, [.bool (cz (remZ (iz x.1) (Int.gcd (iz x.1) (iz x.2) : Int))).1, u32S (cz (remZ (iz x.1) (Int.gcd (iz x.1) (iz x.2) : Int))).2]⟩ = B2 at *
 have hcg := hcG1.mono (hx2'.trans (hlA2.trans hlB2))
 have hc4 := hcA2.mono hlB2
 refine W.gen [1, 2, 3, 4] (fun e he => ?_)
 simp only [List.forall_mem_cons, List.not_mem_nil, false_implies, implies_true, and_true, e0_zero, e0_succ, put_some, put_none, reduceIte, Nat.reduceEqDiff] at he
 obtain ⟨e1, e2, e3, e4⟩ := he
 refine W.rseq ?_
 simp (disch := first | omega | (simp only [vd]; done) | (simp only [vd]; omega)) only [vs, reduceIte, Nat.reduceEqDiff, e1, e3, hcg.rd2]
 refine DivMod_r x.2 (cz _) hx2 (Okr.cz hsg (by decide)) fun ok h3 hx3' => ?_
 rw [iz_cz]
 simp (disch := first | omega | (simp only [vd]; done) | (simp only [vd]; omega)) only [vs, reduceIte, Nat.reduceEqDiff, extV, Value.cells, wr_pp2]
 have hcA3 : Cell (h3.push ⟨39, 0, [.bool (cz (iz x.2 / (Int.gcd (iz x.1) (iz x.2) : Int))).1, u32S (cz (iz x.2 / (Int.gcd (iz x.1) (iz x.2) : Int))).2]⟩) h3.next 39 [.bool (cz (iz x.2 / (Int.gcd (iz x.1) (iz x.2) : Int))).1, u32S (cz (iz x.2 / (Int.gcd (iz x.1) (iz x.2) : Int))).2] := Cell.new
 have hlA3 := VH.le_push h3 ⟨39, 0, [.bool (cz (iz x.2 / (Int.gcd (iz x.1) (iz x.2) : Int))).1, u32S (cz (iz x.2 / (Int.gcd (iz x.1) (iz x.2) : Int))).2]⟩
 have hnA3 := next_push (h := h3) (B := ⟨39, 0, [.bool (cz (iz x.2 / (Int.gcd (iz x.1) (iz x.2) : Int))).1, u32S (cz (iz x.2 / (Int.gcd (iz x.1) (iz x.2) : Int))).2]⟩)
 generalize h3.push ⟨39, 0, [.bool (cz (iz x.2 / (Int.gcd (iz x.1) (iz x.2) : Int))).1, u32S (cz (iz x.2 / (Int.gcd (iz x.1) (iz x.2) : Int))).2]⟩ = A3 at *
 have hcB3 : Cell (A3.push ⟨39, 0, [.bool (cz (remZ (iz x.2) (Int.gcd (iz x.1) (iz x.2) : Int))).1, u32S (cz (remZ (iz x.2) (Int.gcd (iz x.1) (iz x.2) : Int))).2]⟩) A3.next 39 [.bool (cz (remZ (iz x.2) (Int.gcd (iz x.1) (iz x.2) : Int))).1, u32S (cz (remZ (iz x.2) (Int.gcd (iz x.1) (iz x.2) : Int))).2] := Cell.new
 have hlB3 := VH.le_push A3 ⟨39, 0, [.bool (cz (remZ (iz x.2) (Int.gcd (iz x.1) (iz x.2) : Int))).1, u32S (cz (remZ (iz x.2) (Int.gcd (iz x.1) (iz x.2) : Int))).2]⟩
 have hnB3 := next_push (h := A3) (B := ⟨39, 0, [.bool (cz (remZ (iz x.2) (Int.gcd (iz x.1) (iz x.2) : Int))).1, u32S (cz (remZ (iz x.2) (Int.gcd (iz x.1) (iz x.2) : Int))).2]⟩)
 generalize A3.push ⟨39, 0, [.bool (cz (remZ (iz x.2) (Int.gcd (iz x.1) (iz x.2) : Int))).1, u32S (cz (remZ (iz x.2) (Int.gcd (iz x.1) (iz x.2) : Int))).2]⟩ = B3 at *
 have hc4 := hc4.mono (hx3'.trans (hlA3.trans hlB3))
 have hc7 := hcA3.mono hlB3
 have hx := (hx1'.trans hlG1).trans ((hx2'.trans (hlA2.trans hlB2)).trans (hx3'.trans (hlA3.trans hlB3)))
 obtain ⟨h4, k1, k2, k2', k3, k4⟩ := fin_r (x := (cz (lowN (iz x.1) (iz x.2)), cz (lowD (iz x.1) (iz x.2)))) hle hR hn hhr hx
 change wrN 0 B3 r 0 [.bool (cz (iz x.1 / (Int.gcd (iz x.1) (iz x.2) : Int))).1, u32S (cz (iz x.1 / (Int.gcd (iz x.1) (iz x.2) : Int))).2, .bool (cz (iz x.2 / (Int.gcd (iz x.1) (iz x.2) : Int))).1, u32S (cz (iz x.2 / (Int.gcd (iz x.1) (iz x.2) : Int))).2] = some h4 at k1
 refine W.rseq ?_
 simp (disch := first | omega | (simp only [vd]; done) | (simp only [vd]; omega)) only [vs, reduceIte, Nat.reduceEqDiff, e2, e4, hc4.rd2, hc7.rd2, k1]
 refine W.ret ⟨.inr rfl, _, _, _, .refl _ _, ress_c rfl ?_, hq _ k4⟩
 simp (disch := first | omega | (simp only [vd]; done) | (simp only [vd]; omega)) only [vs, reduceIte, Nat.reduceEqDiff, e2, k3]
theorem ofD_pos (b : Int) : 0 < ofD b := by unfold ofD; split <;> (try split) <;> omega
def qz (a b : Int) : RRaw := (cz (lowN (ofN a b) (ofD b)), cz (lowD (ofN a b) (ofD b)))
theorem RNormalize_ok (x : RRaw) (hx : Okq x) (hq : ∀ h1, h.le h1 → Q (rV (qz (iz x.1) (iz x.2))) h1) : Runs Try.prog cfg 105 [rV x] h Q c := by
 refine Runs.go Try.func105 rfl rfl (.refl _ _) ?_
 refine W.rseqZ ?_
 simp (disch := first | omega | (simp only [vd]; done) | (simp only [vd]; omega)) only [vs, reduceIte, Nat.reduceEqDiff, Value.cells]
 refine WF.d1 1 rfl (WF.done ?_)
 try simp (disch := first | omega | (simp only [vd]; done) | (simp only [vd]; omega)) only [vs, reduceIte, Nat.reduceEqDiff, next_push, next_skip]
 have hle : h.le (h.skip.push ⟨58, 0, [.bool false, .slice none 0 0, .bool false, .slice none 0 0]⟩) := (VH.le_skip _).trans (VH.le_push _ _)
 have hR : (h.skip.push ⟨58, 0, [.bool false, .slice none 0 0, .bool false, .slice none 0 0]⟩).blk (h.next + 1) = some ⟨58, 0, [.bool false, .slice none 0 0, .bool false, .slice none 0 0]⟩ := blk_push
 have hn : h.next + 1 < (h.skip.push ⟨58, 0, [.bool false, .slice none 0 0, .bool false, .slice none 0 0]⟩).next := Nat.lt_succ_self _
 have hhr : h.next ≤ h.next + 1 := by omega
 generalize h.skip.push ⟨58, 0, [.bool false, .slice none 0 0, .bool false, .slice none 0 0]⟩ = H at *
 generalize h.next + 1 = r at *
 refine W.rseq ?_
 simp (disch := first | omega | (simp only [vd]; done) | (simp only [vd]; omega)) only [vs, reduceIte, Nat.reduceEqDiff]
 refine of_ok x hx fun y h1 hx1' hy e1 e2 => ?_
 simp (disch := first | omega | (simp only [vd]; done) | (simp only [vd]; omega)) only [vs, reduceIte, Nat.reduceEqDiff]
 refine rat_ok y hy (by rw [e2]; exact ofD_pos _) fun h2 hx2' => ?_
 rw [e1, e2]
 obtain ⟨h4, k1, k2, k2', k3, k4⟩ := fin_r (x := qz (iz x.1) (iz x.2)) hle hR hn hhr (hx1'.trans hx2')
 change wrN 0 h2 r 0 [.bool (cz (lowN (ofN (iz x.1) (iz x.2)) (ofD (iz x.2)))).1, u32S (cz (lowN (ofN (iz x.1) (iz x.2)) (ofD (iz x.2)))).2, .bool (cz (lowD (ofN (iz x.1) (iz x.2)) (ofD (iz x.2)))).1, u32S (cz (lowD (ofN (iz x.1) (iz x.2)) (ofD (iz x.2)))).2] = some h4 at k1
 simp (disch := first | omega | (simp only [vd]; done) | (simp only [vd]; omega)) only [vs, reduceIte, Nat.reduceEqDiff, k1]
 refine W.ret ⟨.inr rfl, _, _, _, .refl _ _, ress_c rfl ?_, hq _ k4⟩
 simp (disch := first | omega | (simp only [vd]; done) | (simp only [vd]; omega)) only [vs, reduceIte, Nat.reduceEqDiff, k3]
theorem New_ok (x y : Raw) (hx : Okr x) (hy : Okr y) (hq1 : iz y ≠ 0 → ∀ h1, h.le h1 → Q (.tuple #[rV (qz (iz x) (iz y)), .bool true]) h1) (hq0 : iz y = 0 → ∀ h1, h.le h1 → Q (.tuple #[rV rraw0, .bool false]) h1) :
  Runs Try.prog cfg 73 [iV x, iV y] h Q c := by
 refine Runs.go Try.func73 rfl rfl (.refl _ _) ?_
 refine W.rseqZ ?_
 simp (disch := first | omega | (simp only [vd]; done) | (simp only [vd]; omega)) only [vs, reduceIte, Nat.reduceEqDiff, Value.cells]
 refine WF.d2 2 rfl (WF.d1 3 rfl (WF.done ?_))
 try simp (disch := first | omega | (simp only [vd]; done) | (simp only [vd]; omega)) only [vs, reduceIte, Nat.reduceEqDiff, next_push, next_skip]
 have hle : h.le (h.skip.skip.push ⟨58, 0, [.bool false, .slice none 0 0, .bool false, .slice none 0 0]⟩) := (VH.le_skip _).trans ((VH.le_skip _).trans (VH.le_push _ _))
 have hR : (h.skip.skip.push ⟨58, 0, [.bool false, .slice none 0 0, .bool false, .slice none 0 0]⟩).blk (h.next + 1 + 1) = some ⟨58, 0, [.bool false, .slice none 0 0, .bool false, .slice none 0 0]⟩ := blk_push
 have hn : h.next + 1 + 1 < (h.skip.skip.push ⟨58, 0, [.bool false, .slice none 0 0, .bool false, .slice none 0 0]⟩).next := Nat.lt_succ_self _
 have hhr : h.next ≤ h.next + 1 + 1 := by omega
 generalize h.skip.skip.push ⟨58, 0, [.bool false, .slice none 0 0, .bool false, .slice none 0 0]⟩ = H at *
 generalize h.next + 1 + 1 = r at *
 refine W.seq (W.rseq ?_)
 simp (disch := first | omega | (simp only [vd]; done) | (simp only [vd]; omega)) only [vs, reduceIte, Nat.reduceEqDiff]
 refine Sign_r y hy fun h1 hx1' => ?_
 by_cases h0 : iz y = 0
 ·have hs : (iz y).sign = 0 := by rw [h0]; rfl
  simp (disch := first | omega | (simp only [vd]; done) | (simp only [vd]; omega)) only [vs, reduceIte, Nat.reduceEqDiff, hs]
  refine W.cond true (by rfl) (fun _ => ?_) nofun
  have hR2 : h1.blk r = some ⟨58, 0, [.bool false, .slice none 0 0, .bool false, .slice none 0 0]⟩ := by rw [hx1'.2 r hn]; exact hR
  have hw := wr_s4 (y0 := .bool false) (y1 := .slice none 0 0) (y2 := .bool false) (y3 := .slice none 0 0) hR2
  refine W.rseq ?_
  simp (disch := first | omega | (simp only [vd]; done) | (simp only [vd]; omega)) only [vs, reduceIte, Nat.reduceEqDiff, hw]
  refine W.ret ⟨.inr rfl, ?_⟩
  change Fin cfg _ _ _ _
  refine Fin.nilc r 1 rfl blk_set (Fin.nilc r 3 rfl blk_set ?_)
  refine Fin.done (ress_ct rfl (v1 := rV rraw0) ?_ rfl) (hq0 h0 _ (VH.le_set (VH.le_set (VH.le_set (hle.trans hx1') hhr _) hhr _) hhr _))
  simp (disch := first | omega | (simp only [vd]; done) | (simp only [vd]; omega)) only [vs, reduceIte, Nat.reduceEqDiff]
  rw [rdN_set]
  rfl
 ·have hs : (iz y).sign ≠ 0 := fun e => h0 (Int.sign_eq_zero_iff_zero.1 e)
  simp (disch := first | omega | (simp only [vd]; done) | (simp only [vd]; omega)) only [vs, reduceIte, Nat.reduceEqDiff]
  refine W.cond false (by rfl) nofun (fun _ => ?_)
  refine W.skip ?_
  simp (disch := first | omega | (simp only [vd]; done) | (simp only [vd]; omega)) only [vs, reduceIte, Nat.reduceEqDiff]
  refine W.rseq ?_
  simp (disch := first | omega | (simp only [vd]; done) | (simp only [vd]; omega)) only [vs, reduceIte, Nat.reduceEqDiff]
  refine RNormalize_ok (x, y) ⟨hx, hy⟩ fun h2 hx2' => ?_
  obtain ⟨h4, k1, k2, k2', k3, k4⟩ := fin_r (x := qz (iz x) (iz y)) hle hR hn hhr (hx1'.trans hx2')
  simp (disch := first | omega | (simp only [vd]; done) | (simp only [vd]; omega)) only [vs, reduceIte, Nat.reduceEqDiff, k1]
  refine W.ret ⟨.inr rfl, _, _, _, .refl _ _, ress_ct rfl ?_ rfl, hq1 h0 _ k4⟩
  simp (disch := first | omega | (simp only [vd]; done) | (simp only [vd]; omega)) only [vs, reduceIte, Nat.reduceEqDiff, k3]
end Go.Proofs.Ytjpknabdmmkobaa
end

section
set_option maxRecDepth 20000
open Go Go.QM Go.Elim
namespace Go.Proofs.Ytjpknabdmmkobaa
variable {h : VH} {Q : Value → VH → Prop} {c : Cw Q}
variable {P : Raw → Prop} {n w i j k p : Nat} {R : List (List Raw)} {A : Fm}
theorem sl_slV {C : Cfg} {α : Type} {cl : α → List Value} {l : List α} {e' s s2 b0 b1 a b d : Nat} {z z' : Value} {kk : TK} {lo hi mx : Option Value} {lo' hi' mx' : Option Int} (hcl : ∀ x, (cl x).length = s2) (he : C.T e' = some ⟨kk, s2, b1, z'⟩)
  (h1 : numV lo = some lo') (h2 : numV hi = some hi') (h3 : numV mx = some mx') (hc : cutB l.length l.length lo' hi' mx' = some (a, b, d)) (hab : a ≤ b) (hbl : b ≤ l.length) :
  slcT C (some ⟨.slice e', s, b0, z⟩) (slV cl l) lo hi mx = some (slV cl ((l.drop a).take (b - a))) := by
 unfold slcT slV
 simp only [h1, h2, h3, he, Option.bind_some]
 rw [if_pos (by simp only [List.size_toArray]; exact flat_len hcl l), hc, Option.map_some]
 simp only
 rw [flat_drop hcl, flat_take hcl]
 have : ((l.drop a).take (b - a)).length = b - a := by rw [List.length_take, List.length_drop]; omega
 rw [this]
theorem sl_tail {C : Cfg} {α : Type} {cl : α → List Value} {l : List α} {e' s s2 b0 b1 : Nat} {z z' : Value} {kk : TK} {k1 : IntKind} (hcl : ∀ x, (cl x).length = s2) (he : C.T e' = some ⟨kk, s2, b1, z'⟩) (n : Nat) (h1 : n ≤ l.length) :
  slcT C (some ⟨.slice e', s, b0, z⟩) (slV cl l) (some (.int k1 (n : Int))) none none = some (slV cl (l.drop n)) := by
 have := sl_slV (lo := some (.int k1 (n : Int))) (hi := none) (mx := none) (lo' := some (n : Int)) (hi' := none) (mx' := none) (a := n) (b := l.length) (d := l.length) (C := C) (s := s) (b0 := b0) (z := z) (l := l) hcl he rfl rfl rfl (by unfold cutB; simp; omega) h1 (Nat.le_refl _)
 rw [this, List.take_of_length_le (by simp)]
theorem sl_tail3 {C : Cfg} {α : Type} {cl : α → List Value} {l : List α} {e' s s2 b0 b1 : Nat} {z z' : Value} {kk : TK} {k1 k2 k3 : IntKind} (hcl : ∀ x, (cl x).length = s2) (he : C.T e' = some ⟨kk, s2, b1, z'⟩) (n : Nat) (h1 : n ≤ l.length) :
  slcT C (some ⟨.slice e', s, b0, z⟩) (slV cl l) (some (.int k1 (n : Int))) (some (.int k2 (l.length : Int))) (some (.int k3 (l.length : Int))) = some (slV cl (l.drop n)) := by
 have := sl_slV (lo := some (.int k1 (n : Int))) (hi := some (.int k2 (l.length : Int))) (mx := some (.int k3 (l.length : Int))) (lo' := some (n : Int)) (hi' := some (l.length : Int)) (mx' := some (l.length : Int)) (a := n) (b := l.length) (d := l.length) (C := C) (s := s) (b0 := b0) (z := z) (l := l) hcl he rfl rfl rfl (by unfold cutB; simp; omega) h1 (Nat.le_refl _)
 rw [this, List.take_of_length_le (by simp)]
def inner (m : List (List Raw)) : List (List Raw) := (m.drop 1).map (·.drop 1)
theorem inner_ent {m : List (List Raw)} : ent (inner m) i j = ent m (i + 1) (j + 1) := by
 have h1 : (inner m).getD i [] = (m.getD (i + 1) []).drop 1 := by
  unfold inner
  by_cases hi : i + 1 < m.length
  ·simp [hi, show i < m.length - 1 by omega, Nat.add_comm 1 i]
  ·simp [List.getElem?_eq_none (show m.length ≤ i + 1 by omega), List.getElem?_eq_none (show m.length ≤ 1 + i by omega)]
 unfold ent
 rw [h1]
 simp [Nat.add_comm]
theorem inner_len {m : List (List Raw)} : (inner m).length = m.length - 1 := by simp [inner]
theorem within_ok (m : List (List Raw)) (hm : Len m) (h1 : 1 ≤ m.length) (hr : ∀ i, i < m.length → 1 ≤ (m.getD i []).length) (hq : ∀ h1, h.le h1 → Q (mV (inner m)) h1) : Runs Try.prog cfg 96 [mV m] h Q c := by
 have hml := hm.1
 refine Runs.go Try.func96 rfl rfl (.refl _ _) ?_
 refine W.rseq ?_
 simp (disch := first | omega | (simp only [vd]; done) | (simp only [vd]; omega)) only [vs, reduceIte, Nat.reduceEqDiff]
 refine W.rseq ?_
 simp (disch := first | omega | (simp only [vd]; done) | (simp only [vd]; omega)) only [vs, reduceIte, Nat.reduceEqDiff]
 refine W.then (fun e' h' => OR h.next h' (e' 3) (inner m) ∧ Up h.next h h') ?_ ?_
 ·have hs : slcT cfg (some ⟨.slice 34, 1, 24, .slice none 0 0⟩) (mV m) (some (.int .i64 1)) none none = some (mV (m.drop 1)) := by
   unfold mV
   rw [← slV_one, ← slV_one]
   exact sl_tail (s2 := 1) (fun _ => rfl) t_Sapi_Int 1 h1
  refine W.rseq ?_
  simp (disch := first | omega | (simp only [vd]; done) | (simp only [vd]; omega)) only [vs, reduceIte, Nat.reduceEqDiff, hs]
  refine W.gen [3, 7, 8, 9] (fun e he => ?_)
  simp only [List.forall_mem_cons, List.not_mem_nil, false_implies, implies_true, and_true, e0_zero, e0_succ, put_some, put_none, reduceIte, Nat.reduceEqDiff] at he
  obtain ⟨e3, e7, e8, e9⟩ := he
  have hdl : (m.drop 1).length = m.length - 1 := by simp
  refine W.range (fun i e h' => e 7 = mV (m.drop 1) ∧ OR h.next h' (e 3) ((inner m).take i) ∧ Up h.next h h') (m.drop 1).length (by omega) rfl e9 e8 ⟨e7, by rw [e3]; exact OR.nil, .refl⟩ ?_ ?_
  ·rintro i e h1 hi ei en ⟨e7, hO, hu⟩
   have hrow : (m.drop 1).getD i [] = m.getD (i + 1) [] := by
    simp [show i + 1 < m.length by omega, Nat.add_comm 1 i]
   have hl1 := hm.2 (i + 1)
   have hl2 := hr (i + 1) (by omega)
   refine W.block ?_
   refine W.rseq ?_
   simp (disch := first | omega | (simp only [vd]; done) | (simp only [vd]; omega)) only [vs, reduceIte, Nat.reduceEqDiff, ei, e7, Int.toNat_natCast, hrow]
   have hs2 : slcT cfg (some ⟨.slice 39, 1, 24, .slice none 0 0⟩) (isV (m.getD (i + 1) [])) (some (.int .i64 1)) (some (.int .i64 ((m.getD (i + 1) []).length : Int))) (some (.int .i64 ((m.getD (i + 1) []).length : Int))) = some (isV ((m.getD (i + 1) []).drop 1)) := sl_tail3 iC_len t_api_Int 1 hl2
   obtain ⟨v', h4, k1, k2, k3, k4⟩ := hO.app ((m.getD (i + 1) []).drop 1) (by simp [inner]; omega) hu.1
   have hos : QM.seen (e 3) = e 3 := Own.seen hO
   refine W.reg ?_
   simp (disch := first | omega | (simp only [vd]; done) | (simp only [vd]; omega)) only [vs, reduceIte, Nat.reduceEqDiff, hs2, hos, k1, ei, en, e7]
   rw [show QM.seen v' = v' from Own.seen k2]
   refine ⟨?_, hu.trans (.of_app (Nat.le_of_lt k4) hu.1 k3)⟩
   have : (inner m).take (i + 1) = (inner m).take i ++ [(m.getD (i + 1) []).drop 1] := by
    rw [List.take_add_one]
    simp [inner, show i + 1 < m.length by omega, Nat.add_comm 1 i]
   rw [this]
   exact k2
  ·rintro e h1 ei ⟨e7, hO, hu⟩
   rw [List.take_of_length_le (by rw [inner_len]; omega)] at hO
   simp (disch := first | omega | (simp only [vd]; done) | (simp only [vd]; omega)) only [vs, reduceIte, Nat.reduceEqDiff]
   exact ⟨hO, hu⟩
 ·rintro e h1 ⟨hO, hu⟩
  have hos : QM.seen (e 3) = e 3 := Own.seen hO
  refine W.rseq ?_
  simp (disch := first | omega | (simp only [vd]; done) | (simp only [vd]; omega)) only [vs, reduceIte, Nat.reduceEqDiff, hos]
  refine W.ret ⟨.inr rfl, ?_⟩
  change Fin cfg _ _ _ _
  refine Fin.own 2 rfl hO fun h2 hx2 _ => ?_
  exact Fin.done (ress_1 rfl rfl) (hq _ (hx2 _ (hu.le (VH.le_refl _) (Nat.le_refl _)) (Nat.le_refl _)))
end Go.Proofs.Ytjpknabdmmkobaa
end

section
set_option maxRecDepth 20000
open Go Go.QM Go.Elim
namespace Go.Proofs.Ytjpknabdmmkobaa
variable {h : VH} {Q : Value → VH → Prop} {c : Cw Q}
variable {P : Raw → Prop} {n w i j k p : Nat} {R : List (List Raw)} {A : Fm}
def nxt (A : Fm) (last : Int) : Fm := fun i j => (A 0 0 * A (i + 1) (j + 1) - A (i + 1) 0 * A 0 (j + 1)) / last
theorem range_map_succ {α : Type} {f : Nat → α} {i : Nat} : (List.range (i + 1)).map f = (List.range i).map f ++ [f i] := by rw [List.range_succ, List.map_append]; rfl
theorem next_ok {K : Nat} (m : List (List Raw)) (lx : Raw) (hm : Sqm (n + 1) K m) (hn : n < 1000) (hK : 2 * K + 1 < 1099511627776) (hlx : Okr lx) (hq : ∀ h1, h.le h1 → Q (mV (mat n n fun i j => cz (nxt (fm m) (iz lx) i j))) h1) :
  Runs Try.prog cfg 59 [mV m, iV lx] h Q c := by
 have hml := hm.rows
 have hokm := hm.okm (by omega) (by omega)
 have hsk : ∀ i j, Sk K (fm m i j) := fun i j => Sk.of_raw (hm.lim i j) (hm.len i j)
 have hil : (inner m).length = n := by rw [inner_len]; omega
 have hir : ∀ i, i < n → ((inner m).getD i []).length = n := by
  intro i hi
  have h1 := hm.cols (i + 1) (by omega)
  simp [inner, show i + 1 < m.length by omega, Nat.add_comm 1 i] at h1 ⊢
  omega
 refine Runs.go Try.func59 rfl rfl (.refl _ _) ?_
 refine W.rseqZ ?_
 simp (disch := first | omega | (simp only [vd]; done) | (simp only [vd]; omega)) only [vs, reduceIte, Nat.reduceEqDiff, Value.cells]
 refine WF.d0 3 rfl (WF.done ?_)
 simp (disch := first | omega | (simp only [vd]; done) | (simp only [vd]; omega)) only [vs, reduceIte, Nat.reduceEqDiff]
 have hle := VH.le_skip h
 generalize h.skip = H at *
 refine W.rseq ?_
 simp (disch := first | omega | (simp only [vd]; done) | (simp only [vd]; omega)) only [vs, reduceIte, Nat.reduceEqDiff]
 refine W.then (fun e' h' => MO mkI H.next h' (e' 5) (mat n n fun i j => cz (nxt (fm m) (iz lx) i j)) ∧ Up H.next H h') ?_ ?_
 ·skip
  refine W.rseq ?_
  simp (disch := first | omega | (simp only [vd]; done) | (simp only [vd]; omega)) only [vs, reduceIte, Nat.reduceEqDiff]
  refine within_ok m hokm.len (by omega) (fun i hi => by rw [hm.cols i (by omega)]; omega) fun h1 hx1 => ?_
  simp (disch := first | omega | (simp only [vd]; done) | (simp only [vd]; omega)) only [vs, reduceIte, Nat.reduceEqDiff, hil]
  refine W.gen [0, 3, 5, 16, 17, 18] (fun e he => ?_)
  simp only [List.forall_mem_cons, List.not_mem_nil, false_implies, implies_true, and_true, e0_zero, e0_succ, put_some, put_none, reduceIte, Nat.reduceEqDiff] at he
  obtain ⟨e0, e3, e5, e16, e17, e18⟩ := he
  refine W.range (fun i e h' => e 0 = mV m ∧ e 3 = fP 0 #[.bool lx.1, u32S lx.2] ∧ e 16 = mV (inner m) ∧ MO mkI H.next h' (e 5) ((List.range i).map fun i => (List.range n).map fun j => cz (nxt (fm m) (iz lx) i j)) ∧ Up H.next H h') n (by omega) rfl e18 e17
   ⟨e0, e3, e16, by rw [e5]; exact MO.nil, .of_le hx1 (Nat.le_refl _)⟩ ?_ ?_
  ·rintro i e h2 hi ei en ⟨e0, e3, e16, hM, hu⟩
   obtain ⟨v5, e5⟩ : ∃ v, e 5 = v := ⟨_, rfl⟩
   rw [e5] at hM
   have hri := hir i hi
   refine W.block ?_
   refine W.rseq ?_
   simp (disch := first | omega | (simp only [vd]; done) | (simp only [vd]; omega)) only [vs, reduceIte, Nat.reduceEqDiff, ei, e16, Int.toNat_natCast]
   refine W.rseq ?_
   simp (disch := first | omega | (simp only [vd]; done) | (simp only [vd]; omega)) only [vs, reduceIte, Nat.reduceEqDiff]
   refine W.then (fun e' h' => e' 0 = mV m ∧ e' 3 = fP 0 #[.bool lx.1, u32S lx.2] ∧ e' 16 = mV (inner m) ∧ e' 17 = .int .i64 (n : Int) ∧ e' 18 = .int .i64 (i : Int) ∧ e' 5 = v5 ∧ OI h2.next h' (e' 8) ((List.range n).map fun j => cz (nxt (fm m) (iz lx) i j)) ∧ h2.le h') ?_ ?_
   ·skip
    refine W.rseq ?_
    simp (disch := first | omega | (simp only [vd]; done) | (simp only [vd]; omega)) only [vs, reduceIte, Nat.reduceEqDiff, hri]
    refine W.gen [0, 3, 5, 6, 8, 16, 17, 18, 23, 24, 25] (fun e he => ?_)
    simp only [List.forall_mem_cons, List.not_mem_nil, false_implies, implies_true, and_true, e0_zero, e0_succ, put_some, put_none, reduceIte, Nat.reduceEqDiff, ei, en, e0, e3, e5, e16] at he
    obtain ⟨e0, e3, e5, e6, e8, e16, e17, e18, e23, e24, e25⟩ := he
    refine W.range (fun j e' h' => e' 0 = mV m ∧ e' 3 = fP 0 #[.bool lx.1, u32S lx.2] ∧ e' 6 = .int .i64 (i : Int) ∧ e' 16 = mV (inner m) ∧ e' 17 = .int .i64 (n : Int) ∧ e' 18 = .int .i64 (i : Int) ∧ e' 5 = v5 ∧ e' 23 = isV ((inner m).getD i []) ∧ OI h2.next h' (e' 8) ((List.range j).map fun j => cz (nxt (fm m) (iz lx) i j)) ∧ h2.le h') n (by omega) rfl e25 e24
     ⟨e0, e3, e6, e16, e17, e18, e5, e23, by rw [e8]; exact OI.nil, VH.le_refl _⟩ ?_ ?_
    ·rintro j e' h3 hj ej en ⟨e0, e3, e6, e16, e17, e18, e5, e23, hO, hl⟩
     obtain ⟨v8, e8⟩ : ∃ v, e' 8 = v := ⟨_, rfl⟩
     rw [e8] at hO
     have c0 := hm.cols 0 (by omega)
     have ci := hm.cols (i + 1) (by omega)
     have t0 : (0 : Int).toNat = 0 := rfl
     have t1 : ((i : Int) + 1).toNat = i + 1 := by omega
     have t2 : ((j : Int) + 1).toNat = j + 1 := by omega
     have hx : ((inner m).getD i []).getD j raw0 = ent m (i + 1) (j + 1) := inner_ent
     refine W.block ?_
     refine W.rseq ?_
     simp (disch := first | omega | (simp only [vd]; done) | (simp only [vd]; omega)) only [vs, reduceIte, Nat.reduceEqDiff, ej, e23, Int.toNat_natCast, Value.cells, hx]
     have hcG : Cell (h3.push ⟨39, 0, [.bool (ent m (i + 1) (j + 1)).1, u32S (ent m (i + 1) (j + 1)).2]⟩) h3.next 39 [.bool (ent m (i + 1) (j + 1)).1, u32S (ent m (i + 1) (j + 1)).2] := Cell.new
     have hlG := VH.le_push h3 ⟨39, 0, [.bool (ent m (i + 1) (j + 1)).1, u32S (ent m (i + 1) (j + 1)).2]⟩
     have hnG := next_push (h := h3) (B := ⟨39, 0, [.bool (ent m (i + 1) (j + 1)).1, u32S (ent m (i + 1) (j + 1)).2]⟩)
     generalize h3.push ⟨39, 0, [.bool (ent m (i + 1) (j + 1)).1, u32S (ent m (i + 1) (j + 1)).2]⟩ = G at *
     refine W.dseqL (fun _ => True) [false, false, false, false, false, false, true, false, false, false, false, false, false, false, false, false, false, false, false, false, false, true, true, false, false] (by rfl) ?_
     simp (disch := first | omega | (simp only [vd]; done) | (simp only [vd]; omega)) only [vs, reduceIte, Nat.reduceEqDiff, e0, e6, hcG.rd2, t0, t1, t2]
     refine Mul_r (ent m 0 0) (ent m (i + 1) (j + 1)) (hokm.at _ _) (hokm.at _ _) fun g1 hg1 => ?_
     simp (disch := first | omega | (simp only [vd]; done) | (simp only [vd]; omega)) only [vs, reduceIte, Nat.reduceEqDiff, gr_le hg1, gr0_le hg1, e0, e6, t0, t1, t2]
     refine Mul_r (ent m (i + 1) 0) (ent m 0 (j + 1)) (hokm.at _ _) (hokm.at _ _) fun g2 hg2 => ?_
     simp (disch := first | omega | (simp only [vd]; done) | (simp only [vd]; omega)) only [vs, reduceIte, Nat.reduceEqDiff, gr_le hg2, gr0_le hg2]
     have s1 := (hsk 0 0).mul (hsk (i + 1) (j + 1))
     have s2 := (hsk (i + 1) 0).mul (hsk 0 (j + 1))
     have s3 := s1.sub s2
     refine Sub_r (cz _) (cz _) (Okr.cz s1 (by omega)) (Okr.cz s2 (by omega)) fun g3 hg3 => ?_
     rw [iz_cz, iz_cz]
     have hy : nxt (fm m) (iz lx) i j = (iz (ent m 0 0) * iz (ent m (i + 1) (j + 1)) - iz (ent m (i + 1) 0) * iz (ent m 0 (j + 1))) / iz lx := rfl
     change Sk _ (iz (ent m 0 0) * iz (ent m (i + 1) (j + 1)) - iz (ent m (i + 1) 0) * iz (ent m 0 (j + 1))) at s3
     generalize iz (ent m 0 0) * iz (ent m (i + 1) (j + 1)) - iz (ent m (i + 1) 0) * iz (ent m 0 (j + 1)) = y at *
     simp (disch := first | omega | (simp only [vd]; done) | (simp only [vd]; omega)) only [vs, reduceIte, Nat.reduceEqDiff, gr_le hg3, gr0_le hg3, Value.cells]
     refine ⟨gr0_p1, ?_⟩
     have hcG3 : Cell (g3.push ⟨39, 0, [.bool (cz y).1, u32S (cz y).2]⟩) g3.next 39 [.bool (cz y).1, u32S (cz y).2] := Cell.new
     have hlG3 := VH.le_push g3 ⟨39, 0, [.bool (cz y).1, u32S (cz y).2]⟩
     have hnG3 := next_push (h := g3) (B := ⟨39, 0, [.bool (cz y).1, u32S (cz y).2]⟩)
     generalize g3.push ⟨39, 0, [.bool (cz y).1, u32S (cz y).2]⟩ = G3 at *
     refine W.gen [0, 3, 5, 6, 8, 11, 16, 17, 18, 23, 24, 25] (fun e he => ?_)
     simp only [List.forall_mem_cons, List.not_mem_nil, false_implies, implies_true, and_true, e0_zero, e0_succ, put_some, put_none, reduceIte, Nat.reduceEqDiff, e0, e3, e5, e6, e8, e16, e17, e18, e23, ej, en] at he
     obtain ⟨e0, e3, e5, e6, e8, e11, e16, e17, e18, e23, e24, e25⟩ := he
     have hl3 := hl.trans (hlG.trans (hg1.trans (hg2.trans (hg3.trans hlG3))))
     refine W.rseq ?_
     simp (disch := first | omega | (simp only [vd]; done) | (simp only [vd]; omega)) only [vs, reduceIte, Nat.reduceEqDiff, e3, e11, hcG3.rd2]
     refine DivMod_r (cz y) lx (Okr.cz s3 (by omega)) hlx fun ok g4 hg4 => ?_
     rw [iz_cz]
     simp (disch := first | omega | (simp only [vd]; done) | (simp only [vd]; omega)) only [vs, reduceIte, Nat.reduceEqDiff, extV, Value.cells, wr_pp2]
     rw [← hy]
     have hcA2 : Cell (g4.push ⟨39, 0, [.bool (cz (nxt (fm m) (iz lx) i j)).1, u32S (cz (nxt (fm m) (iz lx) i j)).2]⟩) g4.next 39 [.bool (cz (nxt (fm m) (iz lx) i j)).1, u32S (cz (nxt (fm m) (iz lx) i j)).2] := Cell.new
     have hlA2 := VH.le_push g4 ⟨39, 0, [.bool (cz (nxt (fm m) (iz lx) i j)).1, u32S (cz (nxt (fm m) (iz lx) i j)).2]⟩
     have hnA2 := next_push (h := g4) (B := ⟨39, 0, [.bool (cz (nxt (fm m) (iz lx) i j)).1, u32S (cz (nxt (fm m) (iz lx) i j)).2]⟩)
     generalize g4.push ⟨39, 0, [.bool (cz (nxt (fm m) (iz lx) i j)).1, u32S (cz (nxt (fm m) (iz lx) i j)).2]⟩ = A2 at *
     have hcB2 : Cell (A2.push ⟨39, 0, [.bool (cz (remZ y (iz lx))).1, u32S (cz (remZ y (iz lx))).2]⟩) A2.next 39 [.bool (cz (remZ y (iz lx))).1, u32S (cz (remZ y (iz lx))).2] := Cell.new
     have hlB2 := VH.le_push A2 ⟨39, 0, [.bool (cz (remZ y (iz lx))).1, u32S (cz (remZ y (iz lx))).2]⟩
     have hnB2 := next_push (h := A2) (B := ⟨39, 0, [.bool (cz (remZ y (iz lx))).1, u32S (cz (remZ y (iz lx))).2]⟩)
     generalize A2.push ⟨39, 0, [.bool (cz (remZ y (iz lx))).1, u32S (cz (remZ y (iz lx))).2]⟩ = B2 at *
     have hc12 := hcA2.mono hlB2
     have hl4 := hl3.trans (hg4.trans (hlA2.trans hlB2))
     have hl5 : h3.le B2 := hlG.trans (hg1.trans (hg2.trans (hg3.trans (hlG3.trans (hg4.trans (hlA2.trans hlB2))))))
     refine W.reg ?_
     have hO4 := hO.mono hl5
     obtain ⟨v', h4, k1, k2, k3, k4⟩ := hO4.app (cz (nxt (fm m) (iz lx) i j)) (by simp; omega) hl4.1
     simp (disch := first | omega | (simp only [vd]; done) | (simp only [vd]; omega)) only [vs, reduceIte, Nat.reduceEqDiff, e8, hc12.rd2, hO.seen, k1, e0, e3, e5, e6, e16, e17, e18, e23, e24, e25]
     rw [k2.seen]
     exact ⟨by rw [range_map_succ]; exact k2, k3 h2 hl4 (Nat.le_refl _)⟩
    ·rintro e' h3 ej ⟨e0, e3, e6, e16, e17, e18, e5, e23, hO, hl⟩
     simp (disch := first | omega | (simp only [vd]; done) | (simp only [vd]; omega)) only [vs, reduceIte, Nat.reduceEqDiff, e0, e3, e16, e17, e18, e5]
     exact ⟨hO, hl⟩
   ·rintro e' h3 ⟨e0, e3, e16, e17, e18, e5, hO, hl⟩
    refine W.reg ?_
    obtain ⟨v', h4, k1, k2, k3, k4⟩ := mkO_app hM hu.1 hl hO (by simp; omega)
    simp (disch := first | omega | (simp only [vd]; done) | (simp only [vd]; omega)) only [vs, reduceIte, Nat.reduceEqDiff, e5, hM.seen, hO.seen, hO.cv, k1, e0, e3, e16, e17, e18]
    rw [k2.seen]
    exact ⟨by rw [range_map_succ]; exact k2, hu.trans ((Up.of_le hl hu.1).trans k3)⟩
  ·rintro e h2 ei ⟨e0, e3, e16, hM, hu⟩
   simp (disch := first | omega | (simp only [vd]; done) | (simp only [vd]; omega)) only [vs, reduceIte, Nat.reduceEqDiff]
   exact ⟨hM, hu⟩
 ·rintro e h1 ⟨hM, hu⟩
  refine W.rseq ?_
  simp (disch := first | omega | (simp only [vd]; done) | (simp only [vd]; omega)) only [vs, reduceIte, Nat.reduceEqDiff, hM.seen]
  refine W.ret ⟨.inr rfl, ?_⟩
  change Fin cfg _ _ _ _
  exact Fin.mo 4 rfl hM fun h2 hu2 _ => Fin.done (ress_1 rfl rfl) (hq _ ((hu.trans hu2).le (VH.le_refl _) (Nat.le_refl _) |> hle.trans))
end Go.Proofs.Ytjpknabdmmkobaa
end

section
set_option maxRecDepth 20000
open Go Go.QM Go.Elim
namespace Go.Proofs.Ytjpknabdmmkobaa
variable {h : VH} {Q : Value → VH → Prop} {c : Cw Q}
variable {P : Raw → Prop} {n w i j k p : Nat} {R : List (List Raw)} {A : Fm}
theorem app_cell {t ty sz s' b' bb len n0 r tc : Nat} {z z' : Value} {kk : TK} {v v' : Value} {h' : VH} {cs xs ys : List Value} (ho : Own n0 ty sz h v len cs) (ht : cfg.T t = some ⟨.slice ty, s', b', z⟩) (he : cfg.T ty = some ⟨kk, sz, bb, z'⟩) (hsz : 0 < sz)
  (hx : xs.length = sz) (ha : appV cfg t v (.slice (some ⟨h.next, 0, none⟩) 1 1) (h.push ⟨ty, sz, xs⟩) = some (v', h')) (hc : Cell h r tc ys) : Cell h' r tc ys := by
 have hc1 : Cell (h.push ⟨ty, sz, xs⟩) r tc ys := hc.push
 unfold appV at ha
 simp only [ht, he, Option.bind_some, rdS_p rfl (show xs.length = 1 * sz by rw [hx, Nat.one_mul])] at ha
 obtain ⟨_, ⟨rfl, _⟩ | ⟨b, rfl, _, _, h4, h5⟩⟩ := ho
 ·simp only at ha
  split at ha
  ·injection ha with ha
   injection ha with _ ha
   rw [← ha]
   exact hc1
  ·split at ha
   ·injection ha with ha
    injection ha with _ ha
    rw [← ha]
    exact hc1.push
   ·cases ha
 ·have hbn : (h.push ⟨ty, sz, xs⟩).blk b = some ⟨ty, sz, cs⟩ := by rw [blk_push_ne (by omega)]; exact h5
  simp only [hbn, Option.bind_some] at ha
  split at ha
  ·split at ha
   ·rw [Option.map_eq_some_iff] at ha
    obtain ⟨l, _, ha⟩ := ha
    injection ha with _ ha
    rw [← ha]
    exact (hc1.set_ne (hc1.ne hbn hsz)).push
   ·cases ha
  ·cases ha
theorem Own.setc {n0 ty sz len r t : Nat} {v : Value} {cs x y : List Value} (ho : Own n0 ty sz h v len cs) (hsz : 0 < sz) (hc : Cell h r t x) : Own n0 ty sz (h.set r (some ⟨t, 0, y⟩)) v len cs := by
 obtain ⟨h0, ⟨rfl, rfl⟩ | ⟨b, rfl, h2, h3, h4, h5⟩⟩ := ho
 ·exact ⟨h0, .inl ⟨rfl, rfl⟩⟩
 ·exact ⟨h0, .inr ⟨b, rfl, h2, h3, h4, by rw [blk_set_ne (hc.ne h5 hsz).symm]; exact h5⟩⟩
theorem OM.cell {n0 r tc : Nat} {v v' : Value} {h' : VH} {ys : List Value} {l : List (List (List Raw))} {x : List (List Raw)} (ho : OM n0 h v l) (ha : appV cfg 28 v (.slice (some ⟨h.next, 0, none⟩) 1 1) (h.push ⟨25, 1, [mV x]⟩) = some (v', h')) (hc : Cell h r tc ys) : Cell h' r tc ys :=
 app_cell ho t_SSSapi_Int t_SSapi_Int (by decide) rfl ha hc
theorem OI.cell {n0 r tc : Nat} {v v' : Value} {h' : VH} {ys : List Value} {l : List Raw} {x : Raw} (ho : OI n0 h v l) (ha : appV cfg 34 v (.slice (some ⟨h.next, 0, none⟩) 1 1) (h.push ⟨39, 2, [.bool x.1, u32S x.2]⟩) = some (v', h')) (hc : Cell h r tc ys) : Cell h' r tc ys :=
 app_cell ho t_Sapi_Int t_api_Int (by decide) rfl ha hc
theorem OM.rd {n0 : Nat} {v : Value} {l : List (List (List Raw))} (ho : OM n0 h v l) (hi : i < l.length) : ∃ b, v = slc b l.length ∧ b < h.next ∧ rd1 h b i = some (mV (l.getD i [])) := by
 obtain ⟨_, ⟨_, h1⟩ | ⟨b, rfl, _, _, h4, h5⟩⟩ := ho
 ·omega
 ·exact ⟨b, rfl, h4, by rw [rd1_of h5]; exact g_m3V hi⟩
def stgs (A : Fm) : Nat → Fm × Int
 | 0 => (A, 1)
 | k + 1 => (nxt (stgs A k).1 (stgs A k).2, (stgs A k).1 0 0)
def zmat (n : Nat) (A : Fm) : List (List Raw) := mat n n fun i j => cz (A i j)
def stagesM (m : List (List Raw)) : List (List (List Raw)) := (List.range m.length).map fun k => zmat (m.length - k) (stgs (fm m) k).1
def StOk (m : List (List Raw)) : Prop := IsSq m ∧ ∀ k, k + 1 < m.length → (stgs (fm m) k).1 0 0 ≠ 0
instance (m : List (List Raw)) : Decidable (StOk m) := by
 unfold StOk
 have : Decidable (∀ k, k + 1 < m.length → (stgs (fm m) k).1 0 0 ≠ 0) := decidable_of_iff (∀ k, k < m.length - 1 → (stgs (fm m) k).1 0 0 ≠ 0) ⟨fun h k hk => h k (by omega), fun h k hk => h k (by omega)⟩
 infer_instance
theorem normM_zmat {K : Nat} {m : List (List Raw)} (hm : Sqm n K m) : normM m = zmat n (fm m) := by
 refine ext_getD [] (by rw [zmat, mat_len]; simp [normM, hm.rows]) fun i hi => ?_
 have hin : i < n := by simpa [normM, hm.rows] using hi
 rw [normM_get, zmat, mat_row hin]
 refine ext_getD raw0 (by rw [List.length_map, List.length_map, List.length_range]; exact hm.cols i hin) fun j hj => ?_
 have hjn : j < n := by rw [List.length_map, hm.cols i hin] at hj; exact hj
 have h1 := normM_ent (m := m) (i := i) (j := j)
 unfold ent at h1
 rw [normM_get] at h1
 rw [h1]
 simp [hjn]
 rfl
theorem stgs_sk {K : Nat} {m : List (List Raw)} (hm : MatK K m) : ∀ k i j, Sk (wd K k) ((stgs (fm m) k).1 i j)
 | 0, i, j => hm.sk i j
 | k + 1, i, j => (((stgs_sk hm k 0 0).mul (stgs_sk hm k (i + 1) (j + 1))).sub ((stgs_sk hm k (i + 1) 0).mul (stgs_sk hm k 0 (j + 1)))).div _ |>.mono (by show _ ≤ 2 * wd K k + 1; omega)
theorem zmat_sqm {K : Nat} {A : Fm} (hA : ∀ i j, Sk K (A i j)) : Sqm n K (zmat n A) := by
 refine ⟨mat_len, fun i hi => by rw [zmat, mat_row hi]; simp, fun i j => ?_, fun i j => ?_⟩
 ·by_cases hij : i < n ∧ j < n
  ·rw [zmat, mat_ent hij.1 hij.2]; exact Lim_dig _
  ·rw [zmat, mat_ent0 hij]; exact Lim.nil
 ·by_cases hij : i < n ∧ j < n
  ·rw [zmat, mat_ent hij.1 hij.2]; exact hA i j
  ·rw [zmat, mat_ent0 hij]; exact Nat.zero_le _
theorem zmat_fm {A : Fm} (hi : i < n) (hj : j < n) : fm (zmat n A) i j = A i j := by unfold fm; rw [zmat, mat_ent hi hj, iz_cz]
theorem mat_congr {r c : Nat} {F G : Nat → Nat → Raw} (h : ∀ i j, i < r → j < c → F i j = G i j) : mat r c F = mat r c G := by
 unfold mat
 refine List.map_congr_left fun i hi => List.map_congr_left fun j hj => h i j (by simpa using hi) (by simpa using hj)
theorem stgs_last_sk {K : Nat} {m : List (List Raw)} (hm : MatK K m) (k : Nat) : Sk (wd K k + 1) (stgs (fm m) k).2 := by
 cases k with
 | zero => exact Sk.mono (show Sk 1 1 from dig_len.2 (by decide)) (by omega)
 | succ k => exact (stgs_sk hm k 0 0).mono (by have := wd_le K (show k ≤ k + 1 by omega); omega)
theorem Stages_ok {K : Nat} (m : List (List Raw)) (hm : MatK K m) (hK : wd K 16 + 5 < 1099511627776) (hq1 : StOk m → ∀ h1, h.le h1 → Q (.tuple #[m3V (stagesM m), .bool true]) h1) (hq0 : ¬ StOk m → ∀ h1, h.le h1 → Q (.tuple #[m3V [], .bool false]) h1) :
  Runs Try.prog cfg 15 [mV m] h Q c := by
 have hK0 : K ≤ wd K 16 := wd_le K (Nat.zero_le 16)
 refine Runs.go Try.func15 rfl rfl (.refl _ _) ?_
 refine W.rseq ?_
 simp (disch := first | omega | (simp only [vd]; done) | (simp only [vd]; omega)) only [vs, reduceIte, Nat.reduceEqDiff]
 refine W.rseq ?_
 simp (disch := first | omega | (simp only [vd]; done) | (simp only [vd]; omega)) only [vs, reduceIte, Nat.reduceEqDiff]
 refine b_square_ok m hm.shape (fun hh1 hh2 => ?_) (fun hh n => ?_)
 ·have hs : IsSq m := ⟨hh1, hh2⟩
  have hn1 := hh1.1
  have hn2 := hh1.2.1
  simp (disch := first | omega | (simp only [vd]; done) | (simp only [vd]; omega)) only [vs, reduceIte, Nat.reduceEqDiff, extV]
  refine W.seq (W.rseq ?_)
  simp (disch := first | omega | (simp only [vd]; done) | (simp only [vd]; omega)) only [vs, reduceIte, Nat.reduceEqDiff, Bool.not_true]
  refine W.cond false (by rfl) nofun (fun _ => ?_)
  refine W.skip ?_
  simp (disch := first | omega | (simp only [vd]; done) | (simp only [vd]; omega)) only [vs, reduceIte, Nat.reduceEqDiff]
  refine W.rseq ?_
  simp (disch := first | omega | (simp only [vd]; done) | (simp only [vd]; omega)) only [vs, reduceIte, Nat.reduceEqDiff]
  refine normal_fz m (hm.okm (by omega)) fun h1 hx1 => ?_
  simp (disch := first | omega | (simp only [vd]; done) | (simp only [vd]; omega)) only [vs, reduceIte, Nat.reduceEqDiff]
  have hO1 : OM h.next (h1.push ⟨25, 1, [mV (normM m)]⟩) (.slice (some ⟨h1.next, 0, none⟩) 1 1) [normM m] :=
   ⟨rfl, .inr ⟨h1.next, rfl, by simp, hx1.1, Nat.lt_succ_self _, blk_push⟩⟩
  have hu1 : Up h.next h (h1.push ⟨25, 1, [mV (normM m)]⟩) := (Up.of_le hx1 (Nat.le_refl _)).trans (.push hx1.1)
  generalize h1.push ⟨25, 1, [mV (normM m)]⟩ = H at *
  refine W.rseq ?_
  simp (disch := first | omega | (simp only [vd]; done) | (simp only [vd]; omega)) only [vs, reduceIte, Nat.reduceEqDiff]
  refine Small_r 1 (by decide) (by decide) fun h2 hx2 => ?_
  simp (disch := first | omega | (simp only [vd]; done) | (simp only [vd]; omega)) only [vs, reduceIte, Nat.reduceEqDiff, Value.cells]
  have hcG : Cell (h2.push ⟨39, 0, [.bool (cz 1).1, u32S (cz 1).2]⟩) h2.next 39 [.bool (cz 1).1, u32S (cz 1).2] := Cell.new
  have hlG := VH.le_push h2 ⟨39, 0, [.bool (cz 1).1, u32S (cz 1).2]⟩
  have hnG := next_push (h := h2) (B := ⟨39, 0, [.bool (cz 1).1, u32S (cz 1).2]⟩)
  generalize h2.push ⟨39, 0, [.bool (cz 1).1, u32S (cz 1).2]⟩ = G at *
  refine W.then (fun e' h' => OM h.next h' (e' 6) (stagesM m) ∧ Up h.next h h' ∧ StOk m) ?_ ?_
  ·skip
   refine W.rseq ?_
   simp (disch := first | omega | (simp only [vd]; done) | (simp only [vd]; omega)) only [vs, reduceIte, Nat.reduceEqDiff]
   refine W.gen [4, 6, 7, 8] (fun e he => ?_)
   simp only [List.forall_mem_cons, List.not_mem_nil, false_implies, implies_true, and_true, e0_zero, e0_succ, put_some, put_none, reduceIte, Nat.reduceEqDiff] at he
   obtain ⟨e4, e6, e7, e8⟩ := he
   refine W.for (fun k e h' => ∃ k', k = k' + 1 ∧ e 4 = .int .i64 (m.length : Int) ∧ e 7 = .pointer (some ⟨h2.next, 0, none⟩) ∧ OM h.next h' (e 6) ((List.range (k' + 1)).map fun k => zmat (m.length - k) (stgs (fm m) k).1) ∧ Up h.next h h' ∧ Cell h' h2.next 39 [.bool (cz (stgs (fm m) k').2).1, u32S (cz (stgs (fm m) k').2).2] ∧ ∀ l, l < k' → (stgs (fm m) l).1 0 0 ≠ 0) 1 m.length (by omega) rfl (by omega) e8
    ⟨0, rfl, e4, e7, ?_, hu1.trans ((Up.of_le hx2 hu1.1).trans (.of_le hlG (Nat.le_trans hu1.1 hx2.1))), hcG, fun l hl => by omega⟩ ?_
   ·rw [e6]
    have := hO1.mono (hx2.trans hlG)
    rw [normM_zmat (hm.sqm hs)] at this
    exact this
   rintro k e h' hk ei ⟨k', rfl, e4, e7, hO, hu, hc, hz⟩
   by_cases hlt : k' + 1 < m.length
   ·skip
    refine W.rseq ?_
    simp (disch := first | omega | (simp only [vd]; done) | (simp only [vd]; omega)) only [vs, reduceIte, Nat.reduceEqDiff, ei, e4]
    refine W.cond true (by rfl) (fun _ => ?_) nofun
    refine W.skip ?_
    simp (disch := first | omega | (simp only [vd]; done) | (simp only [vd]; omega)) only [vs, reduceIte, Nat.reduceEqDiff]
    refine ⟨hlt, ?_⟩
    obtain ⟨b, hv, hbn, hrd⟩ := hO.rd (i := k') (by simp)
    have hvl : (List.map (fun k => zmat (m.length - k) (stgs (fm m) k).1) (List.range (k' + 1))).length = k' + 1 := by simp
    rw [hvl] at hv
    have hget : (List.map (fun k => zmat (m.length - k) (stgs (fm m) k).1) (List.range (k' + 1))).getD k' [] = zmat (m.length - k') (stgs (fm m) k').1 := by simp
    rw [hget] at hrd
    obtain ⟨d, hd⟩ : ∃ d, m.length - k' = d + 1 := ⟨m.length - k' - 1, by omega⟩
    rw [hd] at hrd
    have hsq := zmat_sqm (n := d + 1) (stgs_sk hm k')
    have hwk := wd_le K (show k' + 1 ≤ 16 by omega)
    have hw1 : wd K (k' + 1) = 2 * wd K k' + 1 := rfl
    have hokm := hsq.okm (by omega) (by omega)
    have hz1 := hsq.rows
    have hz2 := hsq.cols 0 (by omega)
    have t0 : (0 : Int).toNat = 0 := rfl
    have t1 : ((k' : Int) + 1 - 1).toNat = k' := by omega
    have t2 : (((k' + 1 : Nat) : Int) - 1).toNat = k' := by omega
    refine W.rseq ?_
    simp (disch := first | omega | (simp only [vd]; done) | (simp only [vd]; omega)) only [vs, reduceIte, Nat.reduceEqDiff, hv, ei, t1, t2, hrd]
    refine W.rseq ?_
    simp (disch := first | omega | (simp only [vd]; done) | (simp only [vd]; omega)) only [vs, reduceIte, Nat.reduceEqDiff, t0, Value.cells]
    have hfm : iz (ent (zmat (d + 1) (stgs (fm m) k').1) 0 0) = (stgs (fm m) k').1 0 0 := zmat_fm (by omega) (by omega)
    have he : ent (zmat (d + 1) (stgs (fm m) k').1) 0 0 = cz ((stgs (fm m) k').1 0 0) := mat_ent (by omega) (by omega)
    have hcG2 : Cell (h'.push ⟨39, 0, [.bool (ent (zmat (d + 1) (stgs (fm m) k').1) 0 0).1, u32S (ent (zmat (d + 1) (stgs (fm m) k').1) 0 0).2]⟩) h'.next 39 [.bool (ent (zmat (d + 1) (stgs (fm m) k').1) 0 0).1, u32S (ent (zmat (d + 1) (stgs (fm m) k').1) 0 0).2] := Cell.new
    have hlG2 := VH.le_push h' ⟨39, 0, [.bool (ent (zmat (d + 1) (stgs (fm m) k').1) 0 0).1, u32S (ent (zmat (d + 1) (stgs (fm m) k').1) 0 0).2]⟩
    have hnG2 := next_push (h := h') (B := ⟨39, 0, [.bool (ent (zmat (d + 1) (stgs (fm m) k').1) 0 0).1, u32S (ent (zmat (d + 1) (stgs (fm m) k').1) 0 0).2]⟩)
    generalize h'.push ⟨39, 0, [.bool (ent (zmat (d + 1) (stgs (fm m) k').1) 0 0).1, u32S (ent (zmat (d + 1) (stgs (fm m) k').1) 0 0).2]⟩ = G2 at *
    refine W.seq (W.rseq ?_)
    simp (disch := first | omega | (simp only [vd]; done) | (simp only [vd]; omega)) only [vs, reduceIte, Nat.reduceEqDiff, hcG2.rd2]
    refine Sign_r _ (hokm.at 0 0) fun h3 hx3 => ?_
    rw [hfm]
    by_cases h0 : (stgs (fm m) k').1 0 0 = 0
    ·have hsg : ((stgs (fm m) k').1 0 0).sign = 0 := by rw [h0]; rfl
     simp (disch := first | omega | (simp only [vd]; done) | (simp only [vd]; omega)) only [vs, reduceIte, Nat.reduceEqDiff, hsg]
     refine W.cond true (by rfl) (fun _ => ?_) nofun
     refine W.rseq ?_
     simp (disch := first | omega | (simp only [vd]; done) | (simp only [vd]; omega)) only [vs, reduceIte, Nat.reduceEqDiff]
     refine W.ret ⟨.inr rfl, ?_⟩
     change Fin cfg _ _ _ _
     refine Fin.nil 2 ?_
     exact Fin.done (ress_tt rfl rfl rfl) (hq0 (fun hh => hh.2 k' hlt h0) _ ((hu.trans ((Up.of_le hlG2 hu.1).trans (.of_le hx3 (Nat.le_trans hu.1 hlG2.1)))).le (VH.le_refl _) (Nat.le_refl _)))
    ·have hsg : ((stgs (fm m) k').1 0 0).sign ≠ 0 := fun e => h0 (Int.sign_eq_zero_iff_zero.1 e)
     simp (disch := first | omega | (simp only [vd]; done) | (simp only [vd]; omega)) only [vs, reduceIte, Nat.reduceEqDiff]
     refine W.cond false (by rfl) nofun (fun _ => ?_)
     refine W.skip ?_
     simp (disch := first | omega | (simp only [vd]; done) | (simp only [vd]; omega)) only [vs, reduceIte, Nat.reduceEqDiff]
     have hc3 := hc.mono (hlG2.trans hx3)
     have hcG3 := hcG2.mono hx3
     refine W.gen [4, 6, 7, 8, 9, 10] (fun e he => ?_)
     simp only [List.forall_mem_cons, List.not_mem_nil, false_implies, implies_true, and_true, e0_zero, e0_succ, put_some, put_none, reduceIte, Nat.reduceEqDiff, e4, e7, ei] at he
     obtain ⟨e4, e6, e7, e8, e9, e10⟩ := he
     refine W.rseq ?_
     simp (disch := first | omega | (simp only [vd]; done) | (simp only [vd]; omega)) only [vs, reduceIte, Nat.reduceEqDiff, e9, e7, hc3.rd2]
     have hlast := Okr.cz (stgs_last_sk hm k') (by omega)
     refine next_ok (n := d) (zmat (d + 1) (stgs (fm m) k').1) (cz (stgs (fm m) k').2) hsq (by omega) (by omega) hlast fun h4 hx4 => ?_
     rw [iz_cz]
     have hst : (mat d d fun i j => cz (nxt (fm (zmat (d + 1) (stgs (fm m) k').1)) (stgs (fm m) k').2 i j)) = zmat (m.length - (k' + 1)) (stgs (fm m) (k' + 1)).1 := by
      rw [show m.length - (k' + 1) = d by omega]
      show mat d d _ = mat d d _
      refine mat_congr fun i j hi hj => ?_
      show cz _ = cz (nxt (stgs (fm m) k').1 (stgs (fm m) k').2 i j)
      unfold nxt
      rw [zmat_fm (by omega) (by omega), zmat_fm (by omega) (by omega), zmat_fm (by omega) (by omega), zmat_fm (by omega) (by omega)]
     rw [hst]
     have hO4 := Own.mono hO (hlG2.trans (hx3.trans hx4))
     have hOM4 : OM h.next h4 (slc b (k' + 1)) ((List.range (k' + 1)).map fun k => zmat (m.length - k) (stgs (fm m) k).1) := by rw [← hv]; exact hO4
     have hc4 := hc3.mono hx4
     have hcG4 := hcG3.mono hx4
     have hu4 : Up h.next h h4 := hu.trans (.of_le (hlG2.trans (hx3.trans hx4)) hu.1)
     obtain ⟨v', h5, k1, k2, k3, k4⟩ := hOM4.app (zmat (m.length - (k' + 1)) (stgs (fm m) (k' + 1)).1) (by simp; omega) hu4.1
     have hc5 := hOM4.cell k1 hc4
     have hcG5 := hOM4.cell k1 hcG4
     simp (disch := first | omega | (simp only [vd]; done) | (simp only [vd]; omega)) only [vs, reduceIte, Nat.reduceEqDiff, e6, hv, k1]
     rw [show QM.seen v' = v' from Own.seen k2]
     refine W.reg ?_
     simp (disch := first | omega | (simp only [vd]; done) | (simp only [vd]; omega)) only [vs, reduceIte, Nat.reduceEqDiff, e7, e10, hcG5.rd2, hc5.wr2, e8, e4]
     refine ⟨k' + 1, rfl, ?_, (hu4.trans (.of_app (Nat.le_of_lt k4) hu4.1 k3)).trans (.set ?_), ?_, fun l hl => ?_⟩
     ·rw [range_map_succ]
      exact Own.setc k2 (by decide) hc5
     ·exact Nat.le_trans hu1.1 hx2.1
     ·show Cell _ _ _ [.bool (cz ((stgs (fm m) k').1 0 0)).1, u32S (cz ((stgs (fm m) k').1 0 0)).2]
      rw [← he]
      exact hc5.set
     ·by_cases hlk : l = k'
      ·rw [hlk]; exact h0
      ·exact hz l (by omega)
   ·have hkm : k' + 1 = m.length := by omega
    refine W.rseq ?_
    simp (disch := first | omega | (simp only [vd]; done) | (simp only [vd]; omega)) only [vs, reduceIte, Nat.reduceEqDiff, ei, e4]
    refine W.cond false (by rfl) nofun (fun _ => W.exit ?_)
    simp (disch := first | omega | (simp only [vd]; done) | (simp only [vd]; omega)) only [vs, reduceIte, Nat.reduceEqDiff]
    refine ⟨?_, hu, hs, fun l hl => hz l (by omega)⟩
    rw [hkm] at hO
    exact hO
  ·rintro e h' ⟨hO, hu, hok⟩
   refine W.rseq ?_
   simp (disch := first | omega | (simp only [vd]; done) | (simp only [vd]; omega)) only [vs, reduceIte, Nat.reduceEqDiff, show QM.seen (e 6) = e 6 from Own.seen hO]
   refine W.ret ⟨.inr rfl, ?_⟩
   change Fin cfg _ _ _ _
   refine Fin.own 2 rfl hO fun h2 hx2 _ => ?_
   exact Fin.done (ress_tt rfl rfl rfl) (hq1 hok _ (hx2 _ (hu.le (VH.le_refl _) (Nat.le_refl _)) (Nat.le_refl _)))
 ·simp (disch := first | omega | (simp only [vd]; done) | (simp only [vd]; omega)) only [vs, reduceIte, Nat.reduceEqDiff, extV]
  refine W.seq (W.rseq ?_)
  simp (disch := first | omega | (simp only [vd]; done) | (simp only [vd]; omega)) only [vs, reduceIte, Nat.reduceEqDiff, Bool.not_false]
  refine W.cond true (by rfl) (fun _ => ?_) nofun
  refine W.rseq ?_
  simp (disch := first | omega | (simp only [vd]; done) | (simp only [vd]; omega)) only [vs, reduceIte, Nat.reduceEqDiff]
  refine W.ret ⟨.inr rfl, ?_⟩
  change Fin cfg _ _ _ _
  refine Fin.nil 2 ?_
  exact Fin.done (ress_tt rfl rfl rfl) (hq0 (fun h2 => hh h2.1) _ (VH.le_refl _))
end Go.Proofs.Ytjpknabdmmkobaa
end
