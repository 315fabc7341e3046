/- Part 11 of the proof: Mk2, Re4, Lw1, Lw2, L4a, L4b. -/
import Derived.Test.YtjpknabdmmkobaaZ10
set_option linter.unusedVariables false
set_option linter.unusedSimpArgs false
section
set_option maxRecDepth 20000
open Go Go.QM Go.Elim
namespace Go.Proofs.Ytjpknabdmmkobaa
variable {h : VH} {Q : Value → VH → Prop} {c : Cw Q}
variable {P : Raw → Prop} {n w i j k p : Nat} {R : List (List Raw)} {A : Fm}
theorem range_map_getD {α : Type} {f : Nat → α} {n j : Nat} {d : α} (hj : j < n) : ((List.range n).map f).getD j d = f j := by simp [hj]
def I64 (l : List (List Int)) : Prop := ∀ i j, -9223372036854775808 ≤ en l i j ∧ en l i j < 9223372036854775808
def ofI (l : List (List Int)) : List (List Raw) := mat l.length (l.getD 0 []).length fun i j => cz (en l i j)
theorem FromInts_ok (l : List (List Int)) (hl : Len l) (h64 : I64 l) (hq1 : IsM l → ∀ b h1, h.le h1 → MM mkI h.next h1 b (ofI l) → Q (.tuple #[slc b l.length, .bool true]) h1) (hq0 : ¬ IsM l → ∀ h1, h.le h1 → Q (.tuple #[mV [], .bool false]) h1) :
  Runs Try.prog cfg 92 [nmV l] h Q c := by
 have z0 : (0 : Int).toNat = 0 := rfl
 have hl0 := hl.2 0
 have hlm := hl.1
 refine Runs.go Try.func92 rfl rfl (.refl _ _) ?_
 refine W.rseq ?_
 simp (disch := first | omega | (simp only [vd]; done) | (simp only [vd]; omega)) only [vs, reduceIte, Nat.reduceEqDiff]
 by_cases h1 : 1 ≤ l.length ∧ l.length ≤ 16
 ·obtain ⟨a1, a2⟩ := h1
  refine W.seq (W.rseq ?_)
  simp (disch := first | omega | (simp only [vd]; done) | (simp only [vd]; omega)) only [vs, reduceIte, Nat.reduceEqDiff]
  refine W.cond false (by rfl) nofun (fun _ => ?_)
  refine W.skip ?_
  simp (disch := first | omega | (simp only [vd]; done) | (simp only [vd]; omega)) only [vs, reduceIte, Nat.reduceEqDiff]
  refine W.then (fun e' h' => e' 0 = nmV l ∧ h' = h ∧ IsM l) ?_ ?_
  ·skip
   refine W.rseq ?_
   simp (disch := first | omega | (simp only [vd]; done) | (simp only [vd]; omega)) only [vs, reduceIte, Nat.reduceEqDiff]
   refine W.gen [0, 17, 18, 19] (fun e he => ?_)
   simp only [List.forall_mem_cons, List.not_mem_nil, false_implies, implies_true, and_true, e0_zero, e0_succ, put_some, put_none, reduceIte, Nat.reduceEqDiff] at he
   obtain ⟨e0, e17, e18, e19⟩ := he
   refine W.range (fun i e h' => h' = h ∧ e 0 = nmV l ∧ e 17 = nmV l ∧ ∀ j, j < i → 1 ≤ (l.getD j []).length ∧ (l.getD j []).length ≤ 16 ∧ (l.getD j []).length = (l.getD 0 []).length) l.length (by omega) rfl e19 e18 ⟨rfl, e0, e17, fun j hj => by omega⟩ ?_ ?_
   ·rintro i e h' hi ei en ⟨rfl, e0, e17, hj⟩
    have hli := hl.2 i
    refine W.block ?_
    refine W.rseq ?_
    simp (disch := first | omega | (simp only [vd]; done) | (simp only [vd]; omega)) only [vs, reduceIte, Nat.reduceEqDiff, ei, e17, Int.toNat_natCast]
    by_cases b1 : (l.getD i []).length < 1
    ·skip
     refine W.rseq ?_
     simp (disch := first | omega | (simp only [vd]; done) | (simp only [vd]; omega)) only [vs, reduceIte, Nat.reduceEqDiff, e0, z0]
     refine W.cond true (by rfl) (fun _ => ?_) nofun
     refine W.rseq ?_
     simp (disch := first | omega | (simp only [vd]; done) | (simp only [vd]; omega)) only [vs, reduceIte, Nat.reduceEqDiff]
     refine W.ret ⟨.inr rfl, ?_⟩
     change Fin cfg _ _ _ _
     refine Fin.nil 2 ?_
     exact Fin.done (ress_tt rfl rfl rfl) (hq0 (fun hh => by have := hh.2.2.2.2 i hi; have := hh.2.2.1; omega) _ (VH.le_refl _))
    by_cases b2 : 16 < (l.getD i []).length
    ·skip
     refine W.rseq ?_
     simp (disch := first | omega | (simp only [vd]; done) | (simp only [vd]; omega)) only [vs, reduceIte, Nat.reduceEqDiff, e0, z0]
     refine W.cond true (by rfl) (fun _ => ?_) nofun
     refine W.rseq ?_
     simp (disch := first | omega | (simp only [vd]; done) | (simp only [vd]; omega)) only [vs, reduceIte, Nat.reduceEqDiff]
     refine W.ret ⟨.inr rfl, ?_⟩
     change Fin cfg _ _ _ _
     refine Fin.nil 2 ?_
     exact Fin.done (ress_tt rfl rfl rfl) (hq0 (fun hh => by have := hh.2.2.2.2 i hi; have := hh.2.2.2.1; omega) _ (VH.le_refl _))
    by_cases he : (l.getD i []).length = (l.getD 0 []).length
    ·skip
     refine W.rseq ?_
     simp (disch := first | omega | (simp only [vd]; done) | (simp only [vd]; omega)) only [vs, reduceIte, Nat.reduceEqDiff, e0, z0]
     refine W.cond false (by rfl) nofun (fun _ => ?_)
     refine W.skip ?_
     simp (disch := first | omega | (simp only [vd]; done) | (simp only [vd]; omega)) only [vs, reduceIte, Nat.reduceEqDiff, ei, en, e0, e17]
     intro j hj2
     by_cases hji : j = i
     ·rw [hji]; exact ⟨by omega, by omega, he⟩
     ·exact hj j (by omega)
    ·skip
     refine W.rseq ?_
     simp (disch := first | omega | (simp only [vd]; done) | (simp only [vd]; omega)) only [vs, reduceIte, Nat.reduceEqDiff, e0, z0]
     refine W.cond true (by rfl) (fun _ => ?_) nofun
     refine W.rseq ?_
     simp (disch := first | omega | (simp only [vd]; done) | (simp only [vd]; omega)) only [vs, reduceIte, Nat.reduceEqDiff]
     refine W.ret ⟨.inr rfl, ?_⟩
     change Fin cfg _ _ _ _
     refine Fin.nil 2 ?_
     exact Fin.done (ress_tt rfl rfl rfl) (hq0 (fun hh => he (hh.2.2.2.2 i hi)) _ (VH.le_refl _))
   ·rintro e h' ei ⟨rfl, e0, e17, hj⟩
    have h0 := hj 0 (by omega)
    simp (disch := first | omega | (simp only [vd]; done) | (simp only [vd]; omega)) only [vs, reduceIte, Nat.reduceEqDiff, e0]
    exact ⟨a1, a2, h0.1, h0.2.1, fun i hi => (hj i hi).2.2⟩
  ·rintro e h' ⟨e0, rfl, hM⟩
   obtain ⟨m1, m2, m3, m4, m5⟩ := hM
   have hM : IsM l := ⟨m1, m2, m3, m4, m5⟩
   refine W.rseq ?_
   simp (disch := first | omega | (simp only [vd]; done) | (simp only [vd]; omega)) only [vs, reduceIte, Nat.reduceEqDiff, e0, z0]
   refine rZero_ok l.length (l.getD 0 []).length (by omega) (by omega) (by omega) fun b h1 hx1 hMM => ?_
   simp (disch := first | omega | (simp only [vd]; done) | (simp only [vd]; omega)) only [vs, reduceIte, Nat.reduceEqDiff]
   refine W.then (fun e' h2 => e' 6 = slc b l.length ∧ MM mkI h'.next h2 b (ofI l) ∧ Up h'.next h' h2) ?_ ?_
   ·skip
    refine W.rseq ?_
    simp (disch := first | omega | (simp only [vd]; done) | (simp only [vd]; omega)) only [vs, reduceIte, Nat.reduceEqDiff, e0]
    refine W.gen [0, 6, 48, 49, 50] (fun e he => ?_)
    simp only [List.forall_mem_cons, List.not_mem_nil, false_implies, implies_true, and_true, e0_zero, e0_succ, put_some, put_none, reduceIte, Nat.reduceEqDiff, e0] at he
    obtain ⟨e0, e6, e48, e49, e50⟩ := he
    refine W.range (fun i e h2 => e 0 = nmV l ∧ e 6 = slc b l.length ∧ ∃ R, MM mkI h'.next h2 b R ∧ Up h'.next h' h2 ∧ R.length = l.length ∧ (∀ i', i' < l.length → (R.getD i' []).length = (l.getD 0 []).length) ∧ ∀ i', i' < i → ∀ j', j' < (l.getD 0 []).length → ent R i' j' = cz (en l i' j')) l.length (by omega) rfl e50 e49
     ⟨e0, e6, _, hMM, .of_le hx1 (Nat.le_refl _), mat_len, fun i' hi' => by rw [mat_row hi']; simp, fun i' hi' => by omega⟩ ?_ ?_
    ·rintro i e h2 hi ei en' ⟨e0, e6, R, hR, hu, hRl, hRc, hRi⟩
     have hli := m5 i hi
     refine W.block ?_
     refine W.rseq ?_
     simp (disch := first | omega | (simp only [vd]; done) | (simp only [vd]; omega)) only [vs, reduceIte, Nat.reduceEqDiff, ei]
     refine W.rseq ?_
     simp (disch := first | omega | (simp only [vd]; done) | (simp only [vd]; omega)) only [vs, reduceIte, Nat.reduceEqDiff, e0, Int.toNat_natCast, hli]
     refine W.gen [0, 6, 7, 49, 50, 57, 58] (fun e he => ?_)
     simp only [List.forall_mem_cons, List.not_mem_nil, false_implies, implies_true, and_true, e0_zero, e0_succ, put_some, put_none, reduceIte, Nat.reduceEqDiff, e0, e6, ei, en'] at he
     obtain ⟨e0, e6, e7, e49, e50, e57, e58⟩ := he
     refine W.range (fun j e h2 => e 0 = nmV l ∧ e 6 = slc b l.length ∧ e 7 = .int .i64 (i : Int) ∧ e 49 = .int .i64 (l.length : Int) ∧ e 50 = .int .i64 (i : Int) ∧ ∃ R, MM mkI h'.next h2 b R ∧ Up h'.next h' h2 ∧ R.length = l.length ∧ (∀ i', i' < l.length → (R.getD i' []).length = (l.getD 0 []).length) ∧ (∀ i', i' < i → ∀ j', j' < (l.getD 0 []).length → ent R i' j' = cz (en l i' j')) ∧ ∀ j', j' < j → ent R i j' = cz (en l i j')) (l.getD 0 []).length (by omega) rfl e58 e57
      ⟨e0, e6, e7, e49, e50, R, hR, hu, hRl, hRc, hRi, fun j' hj' => by omega⟩ ?_ ?_
     ·rintro j e h3 hj ej en' ⟨e0, e6, e7, e49, e50, R, hR, hu, hRl, hRc, hRi, hRj⟩
      obtain ⟨ci, i1, i2, i3, i4, i5, i6, i7⟩ := mkI_row hR (i := i) (by omega) (by rw [hRc i hi]; omega)
      rw [hRc i hi] at i1
      have hv := h64 i j
      have hji : j < (l.getD i []).length := by omega
      refine W.block ?_
      refine W.rseq ?_
      simp (disch := first | omega | (simp only [vd]; done) | (simp only [vd]; omega)) only [vs, reduceIte, Nat.reduceEqDiff, ej]
      refine W.drawL (fun _ => True) [false, false, false, false, false, false, false, false, false, false, false, false, true, false, false] (by rfl) ?_
      simp (disch := first | omega | (simp only [vd]; done) | (simp only [vd]; omega)) only [vs, reduceIte, Nat.reduceEqDiff, e0, e6, e7, ej, i1, Int.toNat_natCast]
      refine rSmall_r _ hv.1 hv.2 fun g hg => ?_
      have hB := hg.2 ci i4
      rw [i2] at hB
      have hw := wr_iC (n := j) (x0 := (cz (en l i j)).1) (x1 := (cz (en l i j)).2) hB (by rw [hRc i hi]; omega)
      simp (disch := first | omega | (simp only [vd]; done) | (simp only [vd]; omega)) only [vs, reduceIte, Nat.reduceEqDiff, gr_le hg, gr0_le hg, hw, Int.toNat_natCast]
      refine ⟨gr0_set hB, ?_⟩
      simp (disch := first | omega | (simp only [vd]; done) | (simp only [vd]; omega)) only [vs, reduceIte, Nat.reduceEqDiff, ej, en', e0, e6, e7, e49, e50]
      have hrow : ∀ i', i' < l.length → (R.set i ((R.getD i []).set j (cz (en l i j)))).getD i' [] = if i' = i then (R.getD i []).set j (cz (en l i j)) else R.getD i' [] := fun i' hi' => QM.getD_set (by omega)
      refine ⟨_, i7 g hg ((R.getD i []).set j (cz (en l i j))) (by rw [List.length_set]), hu.trans ((Up.of_le hg hu.1).trans (.set i3)), by simp [hRl], fun i' hi' => ?_, fun i' hi' j' hj' => ?_, fun j' hj' => ?_⟩
      ·rw [hrow i' hi']
       split
       ·rw [List.length_set]; exact hRc i hi
       ·exact hRc i' hi'
      ·unfold ent
       rw [hrow i' (by omega), if_neg (by omega)]
       exact hRi i' hi' j' hj'
      ·unfold ent
       rw [hrow i hi, if_pos rfl, QM.getD_set (by rw [hRc i hi]; omega)]
       by_cases hjj : j' = j
       ·rw [if_pos hjj, hjj]
       ·rw [if_neg hjj]
        exact hRj j' (by omega)
     ·rintro e h3 ej ⟨e0, e6, e7, e49, e50, R, hR, hu, hRl, hRc, hRi, hRj⟩
      simp (disch := first | omega | (simp only [vd]; done) | (simp only [vd]; omega)) only [vs, reduceIte, Nat.reduceEqDiff, e0, e6, e49, e50]
      refine ⟨R, hR, hu, hRl, hRc, fun i' hi' j' hj' => ?_⟩
      by_cases hii : i' = i
      ·rw [hii]; exact hRj j' hj'
      ·exact hRi i' (by omega) j' hj'
    ·rintro e h2 ei ⟨e0, e6, R, hR, hu, hRl, hRc, hRi⟩
     have : R = ofI l := ext_getD [] (by rw [ofI, mat_len]; exact hRl) (fun i' hi' => by
      rw [ofI, mat_row (by omega)]
      refine ext_getD raw0 (by rw [hRc i' (by omega)]; simp) fun j' hj' => ?_
      rw [hRc i' (by omega)] at hj'
      have h5 := hRi i' (by omega) j' hj'
      unfold ent at h5
      rw [h5, range_map_getD hj'])
     subst this
     simp (disch := first | omega | (simp only [vd]; done) | (simp only [vd]; omega)) only [vs, reduceIte, Nat.reduceEqDiff, e6]
     exact ⟨hR, hu⟩
   ·rintro e h2 ⟨e6, hR, hu⟩
    refine W.rseq ?_
    simp (disch := first | omega | (simp only [vd]; done) | (simp only [vd]; omega)) only [vs, reduceIte, Nat.reduceEqDiff, e6]
    refine W.ret ⟨.inr rfl, ?_⟩
    change Fin cfg _ _ _ _
    exact Fin.done (ress_tt rfl rfl rfl) (hq1 hM _ _ (hu.le (VH.le_refl _) (Nat.le_refl _)) hR)
 ·have hno : ¬ IsM l := fun hh => h1 ⟨hh.1, hh.2.1⟩
  by_cases b1 : l.length < 1
  ·refine W.seq (W.rseq ?_)
   simp (disch := first | omega | (simp only [vd]; done) | (simp only [vd]; omega)) only [vs, reduceIte, Nat.reduceEqDiff]
   refine W.cond true (by rfl) (fun _ => ?_) nofun
   refine W.rseq ?_
   simp (disch := first | omega | (simp only [vd]; done) | (simp only [vd]; omega)) only [vs, reduceIte, Nat.reduceEqDiff]
   refine W.ret ⟨.inr rfl, ?_⟩
   change Fin cfg _ _ _ _
   refine Fin.nil 2 ?_
   exact Fin.done (ress_tt rfl rfl rfl) (hq0 hno _ (VH.le_refl _))
  ·refine W.seq (W.rseq ?_)
   simp (disch := first | omega | (simp only [vd]; done) | (simp only [vd]; omega)) only [vs, reduceIte, Nat.reduceEqDiff]
   refine W.cond true (by rfl) (fun _ => ?_) nofun
   refine W.rseq ?_
   simp (disch := first | omega | (simp only [vd]; done) | (simp only [vd]; omega)) only [vs, reduceIte, Nat.reduceEqDiff]
   refine W.ret ⟨.inr rfl, ?_⟩
   change Fin cfg _ _ _ _
   refine Fin.nil 2 ?_
   exact Fin.done (ress_tt rfl rfl rfl) (hq0 hno _ (VH.le_refl _))
theorem Of_ok (l : List (List Int)) (hl : Len l) (h64 : I64 l) (hq1 : IsM l → ∀ b h1, h.le h1 → MM mkI h.next h1 b (ofI l) → Q (slc b l.length) h1) (hq0 : ¬ IsM l → ∀ h1, h.le h1 → Q (mV []) h1) :
  Runs Try.prog cfg 54 [nmV l] h Q c := by
 refine Runs.go Try.func54 rfl rfl (.refl _ _) ?_
 refine W.rseq ?_
 simp (disch := first | omega | (simp only [vd]; done) | (simp only [vd]; omega)) only [vs, reduceIte, Nat.reduceEqDiff]
 refine W.rseq ?_
 simp (disch := first | omega | (simp only [vd]; done) | (simp only [vd]; omega)) only [vs, reduceIte, Nat.reduceEqDiff]
 refine FromInts_ok l hl h64 (fun hM b h1 hx1 hMM => ?_) (fun hM h1 hx1 => ?_)
 ·simp (disch := first | omega | (simp only [vd]; done) | (simp only [vd]; omega)) only [vs, reduceIte, Nat.reduceEqDiff, extV]
  refine W.rseq ?_
  simp (disch := first | omega | (simp only [vd]; done) | (simp only [vd]; omega)) only [vs, reduceIte, Nat.reduceEqDiff]
  refine W.ret ⟨.inr rfl, ?_⟩
  change Fin cfg _ _ _ _
  exact Fin.done (ress_1 rfl rfl) (hq1 hM _ _ hx1 hMM)
 ·simp (disch := first | omega | (simp only [vd]; done) | (simp only [vd]; omega)) only [vs, reduceIte, Nat.reduceEqDiff, extV]
  refine W.rseq ?_
  simp (disch := first | omega | (simp only [vd]; done) | (simp only [vd]; omega)) only [vs, reduceIte, Nat.reduceEqDiff]
  refine W.ret ⟨.inr rfl, ?_⟩
  change Fin cfg _ _ _ _
  exact Fin.done (ress_1 rfl rfl) (hq0 hM _ hx1)
theorem gI_isM {x : GridV} {most : Nat} (h0 : 0 < most) (hm : most ≤ 16) : IsM (gI x most) := by
 have h1 : x.rows.toNat % most < most := Nat.mod_lt _ h0
 have h2 : x.cols.toNat % most < most := Nat.mod_lt _ h0
 have hr : 1 ≤ gR x most ∧ gR x most ≤ 16 := by unfold gR; omega
 have hc : 1 ≤ gC x most ∧ gC x most ≤ 16 := by unfold gC; omega
 have hrow : ∀ i, i < gR x most → ((gI x most).getD i []).length = gC x most := fun i hi => by rw [gI, imat_row hi]; simp
 have hl : (gI x most).length = gR x most := imat_len
 exact ⟨by omega, by omega, by rw [hrow 0 (by omega)]; omega, by rw [hrow 0 (by omega)]; omega, fun i hi => by rw [hrow i (by omega), hrow 0 (by omega)]⟩
theorem imat_en0 {r c : Nat} {F : Nat → Nat → Int} (h : ¬ (i < r ∧ j < c)) : en (imat r c F) i j = 0 := by
 unfold en
 by_cases hi : i < r
 ·rw [imat_row hi]
  simp [List.getElem?_eq_none (show ((List.range c).map (F i)).length ≤ j by simp; omega)]
 ·have : (imat r c F).getD i [] = [] := by simp [List.getElem?_eq_none (show (imat r c F).length ≤ i by rw [imat_len]; omega)]
  rw [this]
  rfl
theorem gI_small {x : GridV} {most : Nat} (hx : GridOk x) : ∀ i j, -128 ≤ en (gI x most) i j ∧ en (gI x most) i j ≤ 127 := by
 intro i j
 by_cases hij : i < gR x most ∧ j < gC x most
 ·rw [gI, imat_en hij.1 hij.2]
  exact I8.at (fun y hy => hx.2.2.2 y hy) _
 ·rw [gI, imat_en0 hij]; decide
theorem IsM.len {α : Type} {m : List (List α)} (h : IsM m) : Len m := ⟨by have := h.2.1; omega, fun i => by
 by_cases hi : i < m.length
 ·rw [h.2.2.2.2 i hi]; have := h.2.2.2.1; omega
 ·rw [List.getD_eq_getElem?_getD, List.getElem?_eq_none (by omega)]; exact (by decide : 0 < 1099511627776)⟩
def gM (x : GridV) (most : Nat) : List (List Raw) := mat (gR x most) (gC x most) fun i j => cz (x.nums.getD (i * gC x most + j) 0)
theorem ofI_gI {x : GridV} {most : Nat} : ofI (gI x most) = gM x most := by
 have hl : (gI x most).length = gR x most := imat_len
 have h0 : 0 < gR x most := by unfold gR; omega
 have hc : ((gI x most).getD 0 []).length = gC x most := by rw [gI, imat_row h0]; simp
 unfold ofI gM
 rw [hl, hc]
 exact mat_congr fun i j hi hj => by rw [gI, imat_en hi hj]
theorem Matrix_ok (x : GridV) (most : Nat) (hx : GridOk x) (hm0 : 0 < most) (hm : most ≤ 16) (hq : ∀ b h1, h.le h1 → MM mkI h.next h1 b (gM x most) → Q (slc b (gR x most)) h1) :
  Runs Try.prog cfg 52 [gridV x, .int .i64 (most : Int)] h Q c := by
 refine Runs.go Try.func52 rfl rfl (.refl _ _) ?_
 refine W.rseqZ ?_
 simp (disch := first | omega | (simp only [vd]; done) | (simp only [vd]; omega)) only [vs, reduceIte, Nat.reduceEqDiff, gridV, Value.cells]
 refine WF.d0 2 rfl (WF.done ?_)
 simp (disch := first | omega | (simp only [vd]; done) | (simp only [vd]; omega)) only [vs, reduceIte, Nat.reduceEqDiff]
 have hle := VH.le_skip h
 generalize h.skip = H at *
 have hld : loadT (some i_quadformmake_Grid) (fP 0 #[.int .u8 x.rows, .int .u8 x.cols, i8V x.nums]) H = some (gridV x) := rfl
 refine W.rseq ?_
 simp (disch := first | omega | (simp only [vd]; done) | (simp only [vd]; omega)) only [vs, reduceIte, Nat.reduceEqDiff, hld]
 refine Ints_ok x most hx hm0 (by omega) fun b h1 hx1 hM => ?_
 simp (disch := first | omega | (simp only [vd]; done) | (simp only [vd]; omega)) only [vs, reduceIte, Nat.reduceEqDiff]
 have hl : (gI x most).length = gR x most := imat_len
 refine Runs.argM 0 rfl (R := gI x most) (by rw [hl]; rfl) hM fun h2 hu2 hn2 _ => ?_
 rw [mk64_fz]
 have hx2 : H.le h2 := hu2.le hx1 (Nat.le_refl _)
 refine Of_ok (gI x most) (gI_isM hm0 hm).len (fun i j => by have := gI_small hx i j (most := most); omega) (fun _ b h3 hx3 hMM => ?_) (fun hh => absurd (gI_isM hm0 hm) hh)
 rw [ofI_gI] at hMM
 rw [hl]
 simp (disch := first | omega | (simp only [vd]; done) | (simp only [vd]; omega)) only [vs, reduceIte, Nat.reduceEqDiff]
 refine W.ret ⟨.inr rfl, ?_⟩
 change Fin cfg _ _ _ _
 refine Fin.done (ress_1 rfl rfl) (hq _ _ (hle.trans (hx2.trans hx3)) (hMM.down ?_))
 have := hle.1
 have := hx2.1
 omega
def sqG (x : GridV) : GridV := ⟨x.rows, x.rows, x.nums⟩
theorem sqG_ok {x : GridV} (hx : GridOk x) : GridOk (sqG x) := ⟨hx.1, hx.1, hx.2.2⟩
def sqM (x : GridV) (most : Nat) : List (List Raw) := gM (sqG x) most
theorem Square_ok (x : GridV) (most : Nat) (hx : GridOk x) (hm0 : 0 < most) (hm : most ≤ 16) (hq : ∀ b h1, h.le h1 → MM mkI h.next h1 b (sqM x most) → Q (slc b (gR x most)) h1) :
  Runs Try.prog cfg 16 [gridV x, .int .i64 (most : Int)] h Q c := by
 refine Runs.go Try.func16 rfl rfl (.refl _ _) ?_
 refine W.rseq ?_
 simp (disch := first | omega | (simp only [vd]; done) | (simp only [vd]; omega)) only [vs, reduceIte, Nat.reduceEqDiff, gridV, Value.cells]
 have hcT := Cell.new (h := h) (t := 24) (cs := [.int .u8 x.rows, .int .u8 x.cols, i8V x.nums])
 have hlT := VH.le_push h ⟨24, 0, [.int .u8 x.rows, .int .u8 x.cols, i8V x.nums]⟩
 generalize h.push ⟨24, 0, [.int .u8 x.rows, .int .u8 x.cols, i8V x.nums]⟩ = G at *
 have hr0 : rd1 G h.next 0 = some (.int .u8 x.rows) := by rw [rd1_of hcT.2]; rfl
 have hw := wr1_of (off := 1) (v := .int .u8 x.rows) hcT.2 (by simp)
 refine W.rseq ?_
 simp (disch := first | omega | (simp only [vd]; done) | (simp only [vd]; omega)) only [vs, reduceIte, Nat.reduceEqDiff, hr0, hw]
 have hl2 := VH.le_set hlT (Nat.le_refl _) (some ⟨24, 0, [.int .u8 x.rows, .int .u8 x.rows, i8V x.nums]⟩)
 have hB := blk_set (h := G) (b := h.next) (o := some ⟨24, 0, [.int .u8 x.rows, .int .u8 x.rows, i8V x.nums]⟩)
 generalize G.set h.next (some ⟨24, 0, [.int .u8 x.rows, .int .u8 x.rows, i8V x.nums]⟩) = H at *
 have hrd : rdN H h.next 0 3 = some [.int .u8 x.rows, .int .u8 x.rows, i8V x.nums] := rd_s3 hB
 refine W.rseq ?_
 simp (disch := first | omega | (simp only [vd]; done) | (simp only [vd]; omega)) only [vs, reduceIte, Nat.reduceEqDiff, hrd]
 refine Matrix_ok (sqG x) most (sqG_ok hx) hm0 hm fun b h1 hx1 hM => ?_
 have hgr : gR (sqG x) most = gR x most := rfl
 rw [hgr]
 simp (disch := first | omega | (simp only [vd]; done) | (simp only [vd]; omega)) only [vs, reduceIte, Nat.reduceEqDiff]
 refine W.ret ⟨.inr rfl, ?_⟩
 change Fin cfg _ _ _ _
 refine Fin.done (ress_1 rfl rfl) (hq _ _ (hl2.trans hx1) (hM.down hl2.1))
theorem Square_fz (x : GridV) (most : Nat) (hx : GridOk x) (hm0 : 0 < most) (hm : most ≤ 16) (hq : ∀ h1, h.le h1 → Q (mV (sqM x most)) h1) :
  Runs Try.prog cfg 16 [gridV x, .int .i64 (most : Int)] h Q c :=
 Runs.fz1 Try.func16 rfl rfl (Square_ok (Q := fun v h1 => ∃ b, v = slc b (gR x most) ∧ MM mkI h.next h1 b (sqM x most) ∧ h.le h1) x most hx hm0 hm fun b h1 hx1 hM => ⟨b, rfl, hM, hx1⟩)
  fun v h1 ⟨b, hv, hM, hx1⟩ => ⟨_, b, _, by rw [hv, show (sqM x most).length = gR x most from mat_len], hM, fun h2 hu => hq h2 (hu.le hx1 (Nat.le_refl _))⟩
theorem Matrix_fz (x : GridV) (most : Nat) (hx : GridOk x) (hm0 : 0 < most) (hm : most ≤ 16) (hq : ∀ h1, h.le h1 → Q (mV (gM x most)) h1) :
  Runs Try.prog cfg 52 [gridV x, .int .i64 (most : Int)] h Q c :=
 Runs.fz1 Try.func52 rfl rfl (Matrix_ok (Q := fun v h1 => ∃ b, v = slc b (gR x most) ∧ MM mkI h.next h1 b (gM x most) ∧ h.le h1) x most hx hm0 hm fun b h1 hx1 hM => ⟨b, rfl, hM, hx1⟩)
  fun v h1 ⟨b, hv, hM, hx1⟩ => ⟨_, b, _, by rw [hv, show (gM x most).length = gR x most from mat_len], hM, fun h2 hu => hq h2 (hu.le hx1 (Nat.le_refl _))⟩
theorem Of_fz (l : List (List Int)) (hl : Len l) (h64 : I64 l) (hM : IsM l) (hq : ∀ h1, h.le h1 → Q (mV (ofI l)) h1) : Runs Try.prog cfg 54 [nmV l] h Q c :=
 Runs.fz1 Try.func54 rfl rfl (Of_ok (Q := fun v h1 => ∃ b, v = slc b l.length ∧ MM mkI h.next h1 b (ofI l) ∧ h.le h1) l hl h64 (fun _ b h1 hx1 hM => ⟨b, rfl, hM, hx1⟩) (fun hh => absurd hM hh))
  fun v h1 ⟨b, hv, hM, hx1⟩ => ⟨_, b, _, by rw [hv, show (ofI l).length = l.length from mat_len], hM, fun h2 hu => hq h2 (hu.le hx1 (Nat.le_refl _))⟩
end Go.Proofs.Ytjpknabdmmkobaa
end

section
set_option maxRecDepth 20000
open Go Go.QM Go.Elim
namespace Go.Proofs.Ytjpknabdmmkobaa
variable {h : VH} {Q : Value → VH → Prop} {c : Cw Q}
variable {P : Raw → Prop} {n w i j k p : Nat} {R : List (List Raw)} {A : Fm}
theorem ofD_sk {K : Nat} {b : Int} (hb : Sk K b) (hK : 1 ≤ K) : Sk K (ofD b) := by
 unfold ofD
 split
 ·exact Sk.mono (show Sk 1 1 from dig_len.2 (by decide)) hK
 ·split
  ·exact hb.neg
  ·exact hb
theorem ofN_sk {K : Nat} {a b : Int} (ha : Sk K a) : Sk K (ofN a b) := by
 unfold ofN
 split
 ·exact Sk.zero _
 ·split
  ·exact ha.neg
  ·exact ha
theorem rNew_ok (x y : Raw) (hx : Okr x) (hy : Okr y) (hq1 : iz y ≠ 0 → ∀ h1, h.le h1 → Q (.tuple #[rV (qz (iz x) (iz y)), .bool true]) h1) (hq0 : iz y = 0 → ∀ h1, h.le h1 → Q (.tuple #[rV rraw0, .bool false]) h1) :
  Runs Try.prog cfg 74 [iV x, iV y] h Q c := by
 have hsx : Sk 1099511627775 (iz x) := Sk.of_raw hx.2 (Nat.le_of_lt_succ hx.1)
 have hsy : Sk 1099511627775 (iz y) := Sk.of_raw hy.2 (Nat.le_of_lt_succ hy.1)
 refine Runs.go Try.func74 rfl rfl (.refl _ _) ?_
 refine W.rseq ?_
 simp (disch := first | omega | (simp only [vd]; done) | (simp only [vd]; omega)) only [vs, reduceIte, Nat.reduceEqDiff, Value.cells]
 have hcA1 : Cell (h.push ⟨39, 0, [.bool x.1, u32S x.2]⟩) h.next 39 [.bool x.1, u32S x.2] := Cell.new
 have hlA1 := VH.le_push h ⟨39, 0, [.bool x.1, u32S x.2]⟩
 have hnA1 := next_push (h := h) (B := ⟨39, 0, [.bool x.1, u32S x.2]⟩)
 generalize h.push ⟨39, 0, [.bool x.1, u32S x.2]⟩ = A1 at *
 have hcA2 : Cell (A1.push ⟨39, 0, [.bool y.1, u32S y.2]⟩) A1.next 39 [.bool y.1, u32S y.2] := Cell.new
 have hlA2 := VH.le_push A1 ⟨39, 0, [.bool y.1, u32S y.2]⟩
 have hnA2 := next_push (h := A1) (B := ⟨39, 0, [.bool y.1, u32S y.2]⟩)
 generalize A1.push ⟨39, 0, [.bool y.1, u32S y.2]⟩ = A2 at *
 have hcA1 := hcA1.mono hlA2
 have hcR := Cell.new (h := A2) (t := 58) (cs := [.bool false, .slice none 0 0, .bool false, .slice none 0 0])
 have hlR := VH.le_push A2 ⟨58, 0, [.bool false, .slice none 0 0, .bool false, .slice none 0 0]⟩
 generalize A2.push ⟨58, 0, [.bool false, .slice none 0 0, .bool false, .slice none 0 0]⟩ = H at *
 have hc2 := hcA1.mono hlR
 have hc3 := hcA2.mono hlR
 have hle : h.le H := hlA1.trans (hlA2.trans hlR)
 rw [hnA1] at hc3
 rw [hnA2, hnA1] at hcR
 refine W.gen [2, 3, 4, 5] (fun e he => ?_)
 simp only [List.forall_mem_cons, List.not_mem_nil, false_implies, implies_true, and_true, e0_zero, e0_succ, put_some, put_none, reduceIte, Nat.reduceEqDiff, hnA1, hnA2] at he
 obtain ⟨e2, e3, e4, e5⟩ := he
 refine W.seq (W.rseq ?_)
 simp (disch := first | omega | (simp only [vd]; done) | (simp only [vd]; omega)) only [vs, reduceIte, Nat.reduceEqDiff, e3, hc3.rd2]
 refine rSign_r y hy fun h1 hx1 => ?_
 by_cases h0 : iz y = 0
 ·have hs : (iz y).sign = 0 := by rw [h0]; rfl
  simp (disch := first | omega | (simp only [vd]; done) | (simp only [vd]; omega)) only [vs, reduceIte, Nat.reduceEqDiff, hs]
  refine W.cond true (by rfl) (fun _ => ?_) nofun
  have hcR1 := hcR.mono hx1
  have hw := wr_s4 (y0 := .bool false) (y1 := .slice none 0 0) (y2 := .bool false) (y3 := .slice none 0 0) hcR1.2
  refine W.rseq ?_
  simp (disch := first | omega | (simp only [vd]; done) | (simp only [vd]; omega)) only [vs, reduceIte, Nat.reduceEqDiff, e4, hw]
  refine W.ret ⟨.inr rfl, ?_⟩
  change Fin cfg _ _ _ _
  refine Fin.nilc (h.next + 1 + 1) 1 rfl blk_set (Fin.nilc (h.next + 1 + 1) 3 rfl blk_set ?_)
  refine Fin.done (ress_ct rfl (v1 := rV rraw0) ?_ rfl) (hq0 h0 _ (VH.le_set (VH.le_set (VH.le_set (hle.trans hx1) (by omega) _) (by omega) _) (by omega) _))
  simp (disch := first | omega | (simp only [vd]; done) | (simp only [vd]; omega)) only [vs, reduceIte, Nat.reduceEqDiff, e4]
  rw [rdN_set]
  rfl
 ·have hs : (iz y).sign ≠ 0 := fun e => h0 (Int.sign_eq_zero_iff_zero.1 e)
  simp (disch := first | omega | (simp only [vd]; done) | (simp only [vd]; omega)) only [vs, reduceIte, Nat.reduceEqDiff]
  refine W.cond false (by rfl) nofun (fun _ => ?_)
  refine W.skip ?_
  simp (disch := first | omega | (simp only [vd]; done) | (simp only [vd]; omega)) only [vs, reduceIte, Nat.reduceEqDiff]
  have hc21 := hc2.mono hx1
  have hc31 := hc3.mono hx1
  have hcR1 := hcR.mono hx1
  refine W.gen [2, 3, 4, 5] (fun e he => ?_)
  simp only [List.forall_mem_cons, List.not_mem_nil, false_implies, implies_true, and_true, e0_zero, e0_succ, put_some, put_none, reduceIte, Nat.reduceEqDiff, e2, e3, e4] at he
  obtain ⟨e2, e3, e4, e5⟩ := he
  refine W.then (fun e' h2 => ∃ x' y', e' 2 = .pointer (some ⟨h.next, 0, none⟩) ∧ e' 3 = .pointer (some ⟨h.next + 1, 0, none⟩) ∧ e' 4 = .pointer (some ⟨h.next + 1 + 1, 0, none⟩) ∧ Cell h2 h.next 39 [.bool x'.1, u32S x'.2] ∧ Cell h2 (h.next + 1) 39 [.bool y'.1, u32S y'.2] ∧ Cell h2 (h.next + 1 + 1) 58 [.bool false, .slice none 0 0, .bool false, .slice none 0 0] ∧ h.le h2 ∧ Okr x' ∧ Okr y' ∧ iz x' = ofN (iz x) (iz y) ∧ iz y' = ofD (iz y)) ?_ ?_
  ·skip
   refine W.rseq ?_
   simp (disch := first | omega | (simp only [vd]; done) | (simp only [vd]; omega)) only [vs, reduceIte, Nat.reduceEqDiff, e3, hc31.rd2]
   refine rSign_r y hy fun h2 hx2 => ?_
   have hc22 := hc21.mono hx2
   have hc32 := hc31.mono hx2
   have hcR2 := hcR1.mono hx2
   by_cases hneg : iz y < 0
   ·have hs : (iz y).sign = -1 := Int.sign_eq_neg_one_of_neg hneg
    simp (disch := first | omega | (simp only [vd]; done) | (simp only [vd]; omega)) only [vs, reduceIte, Nat.reduceEqDiff, hs]
    refine W.cond true (by rfl) (fun _ => ?_) nofun
    refine W.drawL (fun _ => True) [false, true, false, false, false, false] (by rfl) ?_
    simp (disch := first | omega | (simp only [vd]; done) | (simp only [vd]; omega)) only [vs, reduceIte, Nat.reduceEqDiff, e2, e3, hc22.rd2]
    refine rNeg_r x hx fun h3 hx3 => ?_
    have hc33 := hc32.mono hx3
    simp (disch := first | omega | (simp only [vd]; done) | (simp only [vd]; omega)) only [vs, reduceIte, Nat.reduceEqDiff, gr_le hx3, gr0_le hx3, e3, hc33.rd2]
    refine rNeg_r y hy fun h4 hx4 => ?_
    have hc24 := (hc22.mono hx3).mono hx4
    have hc34 := hc33.mono hx4
    have hcR4 := (hcR2.mono hx3).mono hx4
    have k1 := hc24.wr2 (y0 := .bool (cz (-iz x)).1) (y1 := u32S (cz (-iz x)).2)
    have hc35 : Cell (h4.set h.next (some ⟨39, 0, [.bool (cz (-iz x)).1, u32S (cz (-iz x)).2]⟩)) (h.next + 1) _ _ := hc34.set_ne (by omega)
    have k2 := hc35.wr2 (y0 := .bool (cz (-iz y)).1) (y1 := u32S (cz (-iz y)).2)
    simp (disch := first | omega | (simp only [vd]; done) | (simp only [vd]; omega)) only [vs, reduceIte, Nat.reduceEqDiff, gr_le hx4, gr0_le hx4, e2, e3, k1, k2]
    refine ⟨gr0_set hc24.2, gr0_set hc35.2, cz (-iz x), cz (-iz y), ?_⟩
    simp (disch := first | omega | (simp only [vd]; done) | (simp only [vd]; omega)) only [vs, reduceIte, Nat.reduceEqDiff, e2, e3, e4]
    exact ⟨hc24.set.set_ne (by omega), hc35.set, (hcR4.set_ne (by omega)).set_ne (by omega), VH.le_set (VH.le_set (hle.trans (hx1.trans (hx2.trans (hx3.trans hx4)))) (by omega) _) (by omega) _, Okr.cz hsx.neg (by decide), Okr.cz hsy.neg (by decide), by rw [iz_cz, ofN, if_neg h0, if_pos hneg], by rw [iz_cz, ofD, if_neg h0, if_pos hneg]⟩
   ·have hs : (iz y).sign = 1 := Int.sign_eq_one_of_pos (by omega)
    simp (disch := first | omega | (simp only [vd]; done) | (simp only [vd]; omega)) only [vs, reduceIte, Nat.reduceEqDiff, hs]
    refine W.cond false (by rfl) nofun (fun _ => ?_)
    refine W.skip ?_
    simp (disch := first | omega | (simp only [vd]; done) | (simp only [vd]; omega)) only [vs, reduceIte, Nat.reduceEqDiff, e2, e3, e4]
    exact ⟨x, y, hc22, hc32, hcR2, hle.trans (hx1.trans hx2), hx, hy, by rw [ofN, if_neg h0, if_neg hneg], by rw [ofD, if_neg h0, if_neg hneg]⟩
  ·rintro e h2 ⟨x', y', e2, e3, e4, hc2, hc3, hcR, hle2, hx', hy', ex, ey⟩
   have hy0 : iz y' ≠ 0 := by have := ofD_pos (iz y); omega
   have hsx' : Sk 1099511627775 (iz x') := Sk.of_raw hx'.2 (Nat.le_of_lt_succ hx'.1)
   have hsy' : Sk 1099511627775 (iz y') := Sk.of_raw hy'.2 (Nat.le_of_lt_succ hy'.1)
   have hsg := gcd_sk (a := iz x') hsy' hy0
   refine W.rseq ?_
   simp (disch := first | omega | (simp only [vd]; done) | (simp only [vd]; omega)) only [vs, reduceIte, Nat.reduceEqDiff, e2, e3, hc2.rd2, hc3.rd2]
   refine rGcd_r x' y' hx' hy' fun h3 hx3 => ?_
   simp (disch := first | omega | (simp only [vd]; done) | (simp only [vd]; omega)) only [vs, reduceIte, Nat.reduceEqDiff, Value.cells]
   have hcG3 : Cell (h3.push ⟨39, 0, [.bool (cz (Int.gcd (iz x') (iz y') : Int)).1, u32S (cz (Int.gcd (iz x') (iz y') : Int)).2]⟩) h3.next 39 [.bool (cz (Int.gcd (iz x') (iz y') : Int)).1, u32S (cz (Int.gcd (iz x') (iz y') : Int)).2] := Cell.new
   have hlG3 := VH.le_push h3 ⟨39, 0, [.bool (cz (Int.gcd (iz x') (iz y') : Int)).1, u32S (cz (Int.gcd (iz x') (iz y') : Int)).2]⟩
   have hnG3 := next_push (h := h3) (B := ⟨39, 0, [.bool (cz (Int.gcd (iz x') (iz y') : Int)).1, u32S (cz (Int.gcd (iz x') (iz y') : Int)).2]⟩)
   generalize h3.push ⟨39, 0, [.bool (cz (Int.gcd (iz x') (iz y') : Int)).1, u32S (cz (Int.gcd (iz x') (iz y') : Int)).2]⟩ = G3 at *
   have hxx := hx3.trans hlG3
   have hc23 := hc2.mono hxx
   have hc33 := hc3.mono hxx
   have hcR3 := hcR.mono hxx
   refine W.gen [2, 3, 4, 6] (fun e he => ?_)
   simp only [List.forall_mem_cons, List.not_mem_nil, false_implies, implies_true, and_true, e0_zero, e0_succ, put_some, put_none, reduceIte, Nat.reduceEqDiff, e2, e3, e4] at he
   obtain ⟨e2, e3, e4, e6⟩ := he
   refine W.dseqL (fun _ => True) [false, false, true, false, false, false, false, false, false] (by rfl) ?_
   simp (disch := first | omega | (simp only [vd]; done) | (simp only [vd]; omega)) only [vs, reduceIte, Nat.reduceEqDiff, e2, e6, hc23.rd2, hcG3.rd2]
   refine rQuo_r x' (cz _) hx' (Okr.cz hsg (by decide)) fun h4 hx4 => ?_
   rw [iz_cz]
   simp (disch := first | omega | (simp only [vd]; done) | (simp only [vd]; omega)) only [vs, reduceIte, Nat.reduceEqDiff, gr_le hx4, gr0_le hx4, e3, e6, (hc33.mono hx4).rd2, (hcG3.mono hx4).rd2]
   refine rQuo_r y' (cz _) hy' (Okr.cz hsg (by decide)) fun h5 hx5 => ?_
   rw [iz_cz]
   have hcR5 := hcR3.mono (hx4.trans hx5)
   have hw := wr_s4 (y0 := .bool (cz (iz x' / (Int.gcd (iz x') (iz y') : Int))).1) (y1 := u32S (cz (iz x' / (Int.gcd (iz x') (iz y') : Int))).2) (y2 := .bool (cz (iz y' / (Int.gcd (iz x') (iz y') : Int))).1) (y3 := u32S (cz (iz y' / (Int.gcd (iz x') (iz y') : Int))).2) hcR5.2
   simp (disch := first | omega | (simp only [vd]; done) | (simp only [vd]; omega)) only [vs, reduceIte, Nat.reduceEqDiff, gr_le hx5, gr0_le hx5, e4, hw]
   refine ⟨gr0_set hcR5.2, ?_⟩
   refine W.ret ⟨.inr rfl, ?_⟩
   change Fin cfg _ _ _ _
   refine Fin.done (ress_ct rfl (v1 := rV (qz (iz x) (iz y))) ?_ rfl) (hq1 h0 _ (VH.le_set (hle2.trans (hxx.trans (hx4.trans hx5))) (by omega) _))
   simp (disch := first | omega | (simp only [vd]; done) | (simp only [vd]; omega)) only [vs, reduceIte, Nat.reduceEqDiff, e4]
   rw [rdN_set]
   unfold qz lowN lowD
   rw [← ex, ← ey]
   rfl
theorem rSameQ_ok (x y : RRaw) (hx : Okq x) (hy : Okq y) (hq : ∀ h1, h.le h1 → Q (.bool (decide (x = y))) h1) : Runs Try.prog cfg 75 [rV x, rV y] h Q c := by
 refine Runs.go Try.func75 rfl rfl (.refl _ _) ?_
 refine W.rseqZ ?_
 simp (disch := first | omega | (simp only [vd]; done) | (simp only [vd]; omega)) only [vs, reduceIte, Nat.reduceEqDiff, Value.cells]
 refine WF.d1 2 rfl (WF.d0 3 rfl (WF.done ?_))
 simp (disch := first | omega | (simp only [vd]; done) | (simp only [vd]; omega)) only [vs, reduceIte, Nat.reduceEqDiff]
 refine W.rseq ?_
 simp (disch := first | omega | (simp only [vd]; done) | (simp only [vd]; omega)) only [vs, reduceIte, Nat.reduceEqDiff]
 refine r_Same_ok x.1 y.1 hx.1.1 hy.1.1 hx.1.2 hy.1.2 fun h1 hx1 => ?_
 by_cases h1' : x.1 = y.1
 ·rw [decide_eq_true h1']
  simp (disch := first | omega | (simp only [vd]; done) | (simp only [vd]; omega)) only [vs, reduceIte, Nat.reduceEqDiff]
  refine r_Same_ok x.2 y.2 hx.2.1 hy.2.1 hx.2.2 hy.2.2 fun h2 hx2 => ?_
  simp (disch := first | omega | (simp only [vd]; done) | (simp only [vd]; omega)) only [vs, reduceIte, Nat.reduceEqDiff]
  refine W.ret ⟨.inr rfl, ?_⟩
  change Fin cfg _ _ _ _
  refine Fin.done (ress_1 rfl rfl) ?_
  have he : decide (x = y) = decide (x.2 = y.2) := decide_eq_decide.2 ⟨fun e => by rw [e], fun e => Prod.ext h1' e⟩
  rw [he] at hq
  exact hq _ (((VH.le_skip h).trans (VH.le_skip _)).trans (hx1.trans hx2))
 ·rw [decide_eq_false h1']
  simp (disch := first | omega | (simp only [vd]; done) | (simp only [vd]; omega)) only [vs, reduceIte, Nat.reduceEqDiff]
  refine W.ret ⟨.inr rfl, ?_⟩
  change Fin cfg _ _ _ _
  refine Fin.done (ress_1 rfl rfl) ?_
  rw [decide_eq_false (fun e => h1' (by rw [e]))] at hq
  exact hq _ (((VH.le_skip h).trans (VH.le_skip _)).trans hx1)
theorem rSameRats_ok (a b : List RRaw) (ha : ∀ i, Okq (a.getD i rraw0)) (hb : ∀ i, Okq (b.getD i rraw0)) (hla : a.length < 1099511627776) (hlb : b.length < 1099511627776) (hq : ∀ h1, h.le h1 → Q (.bool (decide (a = b))) h1) : Runs Try.prog cfg 34 [rsV a, rsV b] h Q c := by
 refine Runs.go Try.func34 rfl rfl (.refl _ _) ?_
 refine W.rseq ?_
 simp (disch := first | omega | (simp only [vd]; done) | (simp only [vd]; omega)) only [vs, reduceIte, Nat.reduceEqDiff]
 by_cases hl : a.length = b.length
 ·refine W.seq (W.rseq ?_)
  simp (disch := first | omega | (simp only [vd]; done) | (simp only [vd]; omega)) only [vs, reduceIte, Nat.reduceEqDiff]
  refine W.cond false (by rfl) nofun (fun _ => ?_)
  refine W.skip ?_
  simp (disch := first | omega | (simp only [vd]; done) | (simp only [vd]; omega)) only [vs, reduceIte, Nat.reduceEqDiff]
  refine W.seq (W.rseq ?_)
  simp (disch := first | omega | (simp only [vd]; done) | (simp only [vd]; omega)) only [vs, reduceIte, Nat.reduceEqDiff]
  refine W.gen [0, 1, 12, 13] (fun e he => ?_)
  simp only [List.forall_mem_cons, List.not_mem_nil, false_implies, implies_true, and_true, e0_zero, e0_succ, put_some, put_none, reduceIte, Nat.reduceEqDiff] at he
  obtain ⟨e0, e1, e12, e13⟩ := he
  refine W.range (fun i e h' => h.le h' ∧ e 0 = rsV a ∧ e 1 = rsV b ∧ ∀ j, j < i → a.getD j rraw0 = b.getD j rraw0) a.length (by omega) rfl e13 e12 ⟨VH.le_refl _, e0, e1, fun j hj => by omega⟩ ?_ ?_
  ·rintro i e h' hi ei en ⟨hle, e0, e1, hj⟩
   refine W.block ?_
   refine W.rseq ?_
   simp (disch := first | omega | (simp only [vd]; done) | (simp only [vd]; omega)) only [vs, reduceIte, Nat.reduceEqDiff, ei]
   refine W.dseq (fun _ => True) (by rfl) ?_
   simp (disch := first | omega | (simp only [vd]; done) | (simp only [vd]; omega)) only [vs, reduceIte, Nat.reduceEqDiff, e0, e1, Int.toNat_natCast]
   refine rSameQ_ok (a.getD i rraw0) (b.getD i rraw0) (ha i) (hb i) fun h2 hx2 => ?_
   by_cases he : a.getD i rraw0 = b.getD i rraw0
   ·rw [decide_eq_true he]
    simp (disch := first | omega | (simp only [vd]; done) | (simp only [vd]; omega)) only [vs, reduceIte, Nat.reduceEqDiff, gr_le hx2, Bool.not_true]
    refine W.cond false (by rfl) nofun (fun _ => ?_)
    refine W.skip ?_
    simp (disch := first | omega | (simp only [vd]; done) | (simp only [vd]; omega)) only [vs, reduceIte, Nat.reduceEqDiff, ei, en, e0, e1]
    refine ⟨hle.trans hx2, fun j hj2 => ?_⟩
    by_cases hji : j = i
    ·rw [hji]; exact he
    ·exact hj j (by omega)
   ·rw [decide_eq_false he]
    simp (disch := first | omega | (simp only [vd]; done) | (simp only [vd]; omega)) only [vs, reduceIte, Nat.reduceEqDiff, gr_le hx2, Bool.not_false]
    refine W.cond true (by rfl) (fun _ => ?_) nofun
    refine W.rseq ?_
    simp (disch := first | omega | (simp only [vd]; done) | (simp only [vd]; omega)) only [vs, reduceIte, Nat.reduceEqDiff]
    rw [decide_eq_false (by rintro rfl; exact he rfl)] at hq
    exact W.ret ⟨.inr rfl, _, _, _, .refl _ _, ress_t rfl, hq _ (hle.trans hx2)⟩
  ·rintro e h' ei ⟨hle, e0, e1, hj⟩
   simp (disch := first | omega | (simp only [vd]; done) | (simp only [vd]; omega)) only [vs, reduceIte, Nat.reduceEqDiff]
   refine W.rseq ?_
   simp (disch := first | omega | (simp only [vd]; done) | (simp only [vd]; omega)) only [vs, reduceIte, Nat.reduceEqDiff]
   rw [decide_eq_true (ext_getD rraw0 hl hj)] at hq
   exact W.ret ⟨.inr rfl, _, _, _, .refl _ _, ress_t rfl, hq _ hle⟩
 ·refine W.seq (W.rseq ?_)
  simp (disch := first | omega | (simp only [vd]; done) | (simp only [vd]; omega)) only [vs, reduceIte, Nat.reduceEqDiff]
  refine W.cond true (by rfl) (fun _ => ?_) nofun
  refine W.rseq ?_
  simp (disch := first | omega | (simp only [vd]; done) | (simp only [vd]; omega)) only [vs, reduceIte, Nat.reduceEqDiff]
  rw [decide_eq_false (by rintro rfl; exact hl rfl)] at hq
  exact W.ret ⟨.inr rfl, _, _, _, .refl _ _, ress_t rfl, hq _ (VH.le_refl _)⟩
def OQ (n0 : Nat) (h : VH) (v : Value) (l : List RRaw) : Prop := Own n0 58 4 h v l.length (l.flatMap rC)
theorem OQ.app {h : VH} {n0 : Nat} {v : Value} {l : List RRaw} (x : RRaw) (ho : OQ n0 h v l) (hl : l.length < 1099511627776) (hn0 : n0 ≤ h.next) :
  ∃ v' h', appV cfg 51 v (.slice (some ⟨h.next, 0, none⟩) 1 1) (h.push ⟨58, 4, [.bool x.1.1, u32S x.1.2, .bool x.2.1, u32S x.2.2]⟩) = some (v', h') ∧ OQ n0 h' v' (l ++ [x]) ∧ (∀ g : VH, g.le h → g.next ≤ n0 → g.le h') ∧ h.next < h'.next :=
 own_app rC_len ho t_Sapi_Rat t_api_Rat (by decide) (by decide) hl hn0 _ rfl
theorem OQ.cell {n0 r tc : Nat} {v v' : Value} {h' : VH} {ys : List Value} {l : List RRaw} {x : RRaw} (ho : OQ n0 h v l) (ha : appV cfg 51 v (.slice (some ⟨h.next, 0, none⟩) 1 1) (h.push ⟨58, 4, [.bool x.1.1, u32S x.1.2, .bool x.2.1, u32S x.2.2]⟩) = some (v', h')) (hc : Cell h r tc ys) : Cell h' r tc ys :=
 app_cell ho t_Sapi_Rat t_api_Rat (by decide) rfl ha hc
theorem OQ.nil {n0 : Nat} : OQ n0 h (.slice none 0 0) [] := Own.nil
theorem rSolve_ok {K : Nat} (m : List (List Raw)) (b : List Raw) (hm : MatK K m) (hb : LisK K b) (hK : wd K 16 + 5 < 1099511627776) (hq1 : IsSq m → b.length = m.length → det m.length (fm m) ≠ 0 → ∀ h1, h.le h1 → Q (.tuple #[rsV (sols m b), .int .i64 0]) h1)
  (hq3 : ¬ (IsSq m ∧ b.length = m.length) → ∀ h1, h.le h1 → Q (.tuple #[rsV [], .int .i64 3]) h1) (hq8 : IsSq m → b.length = m.length → det m.length (fm m) = 0 → ∀ h1, h.le h1 → Q (.tuple #[rsV [], .int .i64 8]) h1) :
  Runs Try.prog cfg 33 [mV m, isV b] h Q c := by
 have hK0 : K ≤ wd K 16 := wd_le K (Nat.zero_le 16)
 have hbl := hb.rows
 refine Runs.go Try.func33 rfl rfl (.refl _ _) ?_
 refine W.rseq ?_
 simp (disch := first | omega | (simp only [vd]; done) | (simp only [vd]; omega)) only [vs, reduceIte, Nat.reduceEqDiff]
 refine W.rseq ?_
 simp (disch := first | omega | (simp only [vd]; done) | (simp only [vd]; omega)) only [vs, reduceIte, Nat.reduceEqDiff]
 refine r_Square_ok m hm.shape (fun hh1 hh2 => ?_) (fun hh => ?_)
 ·have hs : IsSq m := ⟨hh1, hh2⟩
  have hn1 := hh1.1
  have hn2 := hh1.2.1
  simp (disch := first | omega | (simp only [vd]; done) | (simp only [vd]; omega)) only [vs, reduceIte, Nat.reduceEqDiff, extV]
  by_cases hbm : b.length = m.length
  ·refine W.seq (W.rseq ?_)
   simp (disch := first | omega | (simp only [vd]; done) | (simp only [vd]; omega)) only [vs, reduceIte, Nat.reduceEqDiff, Bool.not_true]
   refine W.cond false (by rfl) nofun (fun _ => ?_)
   refine W.skip ?_
   simp (disch := first | omega | (simp only [vd]; done) | (simp only [vd]; omega)) only [vs, reduceIte, Nat.reduceEqDiff]
   have hwm := wd_le K hn2
   refine W.rseq ?_
   simp (disch := first | omega | (simp only [vd]; done) | (simp only [vd]; omega)) only [vs, reduceIte, Nat.reduceEqDiff]
   refine rDet_ok m (hm.sqm hs) (by omega) (by omega) fun h1 hx1 => ?_
   have hdsk := det_sk (n := m.length) (A := fm m) (fun i j _ _ => hm.sk i j)
   simp (disch := first | omega | (simp only [vd]; done) | (simp only [vd]; omega)) only [vs, reduceIte, Nat.reduceEqDiff, Value.cells]
   have hcG : Cell (h1.push ⟨39, 0, [.bool (cz (det m.length (fm m))).1, u32S (cz (det m.length (fm m))).2]⟩) h1.next 39 [.bool (cz (det m.length (fm m))).1, u32S (cz (det m.length (fm m))).2] := Cell.new
   have hlG := VH.le_push h1 ⟨39, 0, [.bool (cz (det m.length (fm m))).1, u32S (cz (det m.length (fm m))).2]⟩
   have hnG := next_push (h := h1) (B := ⟨39, 0, [.bool (cz (det m.length (fm m))).1, u32S (cz (det m.length (fm m))).2]⟩)
   generalize h1.push ⟨39, 0, [.bool (cz (det m.length (fm m))).1, u32S (cz (det m.length (fm m))).2]⟩ = G at *
   refine W.seq (W.rseq ?_)
   simp (disch := first | omega | (simp only [vd]; done) | (simp only [vd]; omega)) only [vs, reduceIte, Nat.reduceEqDiff, hcG.rd2]
   refine rSign_r (cz _) (Okr.cz hdsk (by omega)) fun h2 hx2 => ?_
   rw [iz_cz]
   have hle2 := hx1.trans (hlG.trans hx2)
   by_cases h0 : det m.length (fm m) = 0
   ·have hsg : (det m.length (fm m)).sign = 0 := by rw [h0]; rfl
    simp (disch := first | omega | (simp only [vd]; done) | (simp only [vd]; omega)) only [vs, reduceIte, Nat.reduceEqDiff, hsg]
    refine W.cond true (by rfl) (fun _ => ?_) nofun
    refine W.rseq ?_
    simp (disch := first | omega | (simp only [vd]; done) | (simp only [vd]; omega)) only [vs, reduceIte, Nat.reduceEqDiff]
    refine W.ret ⟨.inr rfl, ?_⟩
    change Fin cfg _ _ _ _
    refine Fin.nil 4 ?_
    exact Fin.done (ress_tt rfl rfl rfl) (hq8 hs hbm h0 _ hle2)
   ·have hsg : (det m.length (fm m)).sign ≠ 0 := fun e => h0 (Int.sign_eq_zero_iff_zero.1 e)
    simp (disch := first | omega | (simp only [vd]; done) | (simp only [vd]; omega)) only [vs, reduceIte, Nat.reduceEqDiff]
    refine W.cond false (by rfl) nofun (fun _ => ?_)
    refine W.skip ?_
    simp (disch := first | omega | (simp only [vd]; done) | (simp only [vd]; omega)) only [vs, reduceIte, Nat.reduceEqDiff]
    have hc8 := hcG.mono hx2
    have hrh : h.next ≤ h1.next := hx1.1
    generalize h1.next = r8 at *
    refine W.rseq ?_
    simp (disch := first | omega | (simp only [vd]; done) | (simp only [vd]; omega)) only [vs, reduceIte, Nat.reduceEqDiff]
    refine W.then (fun e' h' => OQ h.next h' (e' 9) (sols m b) ∧ Up h.next h h') ?_ ?_
    ·skip
     refine W.rseq ?_
     simp (disch := first | omega | (simp only [vd]; done) | (simp only [vd]; omega)) only [vs, reduceIte, Nat.reduceEqDiff, hbm]
     refine W.gen [0, 1, 8, 9, 34, 35] (fun e he => ?_)
     simp only [List.forall_mem_cons, List.not_mem_nil, false_implies, implies_true, and_true, e0_zero, e0_succ, put_some, put_none, reduceIte, Nat.reduceEqDiff] at he
     obtain ⟨e0, e1, e8, e9, e34, e35⟩ := he
     refine W.range (fun k e h' => e 0 = mV m ∧ e 1 = isV b ∧ e 8 = .pointer (some ⟨r8, 0, none⟩) ∧ Up h.next h h' ∧ Cell h' r8 39 [.bool (cz (det m.length (fm m))).1, u32S (cz (det m.length (fm m))).2] ∧
      OQ h.next h' (e 9) ((List.range k).map fun k => qz (det m.length (colrep (fm m) k (fl b))) (det m.length (fm m)))) m.length (by omega) rfl e35 e34
      ⟨e0, e1, e8, .of_le hle2 (Nat.le_refl _), hc8, by rw [e9]; exact OQ.nil⟩ ?_ ?_
     ·rintro k e h' hk ei en ⟨e0, e1, e8, hu, hc, hO⟩
      obtain ⟨v9, e9⟩ : ∃ v, e 9 = v := ⟨_, rfl⟩
      rw [e9] at hO
      refine W.block ?_
      refine W.rseq ?_
      simp (disch := first | omega | (simp only [vd]; done) | (simp only [vd]; omega)) only [vs, reduceIte, Nat.reduceEqDiff, ei]
      refine W.rseq ?_
      simp (disch := first | omega | (simp only [vd]; done) | (simp only [vd]; omega)) only [vs, reduceIte, Nat.reduceEqDiff, e0]
      refine rCopy_ok m (hm.okm (by omega)) fun bw h3 hx3 hM => ?_
      simp (disch := first | omega | (simp only [vd]; done) | (simp only [vd]; omega)) only [vs, reduceIte, Nat.reduceEqDiff]
      refine W.thenZ (fun e' h4 => e' 0 = mV m ∧ e' 1 = isV b ∧ e' 8 = .pointer (some ⟨r8, 0, none⟩) ∧ e' 9 = v9 ∧ e' 10 = .int .i64 (k : Int) ∧ e' 11 = slc bw m.length ∧ e' 34 = .int .i64 (m.length : Int) ∧ e' 35 = .int .i64 (k : Int) ∧ Up h'.next h' h4 ∧ ∃ R, MM mkI h'.next h4 bw R ∧ Rel (fun _ => True) m.length R (colrep (fm m) k (fl b)) K) ?_ ?_
      ·skip
       refine W.rseq ?_
       simp (disch := first | omega | (simp only [vd]; done) | (simp only [vd]; omega)) only [vs, reduceIte, Nat.reduceEqDiff]
       refine W.gen [0, 1, 8, 9, 10, 11, 34, 35, 40, 41, 42] (fun e he => ?_)
       simp only [List.forall_mem_cons, List.not_mem_nil, false_implies, implies_true, and_true, e0_zero, e0_succ, put_some, put_none, reduceIte, Nat.reduceEqDiff, e0, e1, e8, e9, ei, en] at he
       obtain ⟨e0, e1, e8, e9, e10, e11, e34, e35, e40, e41, e42⟩ := he
       refine W.range (fun i e' h4 => e' 0 = mV m ∧ e' 1 = isV b ∧ e' 8 = .pointer (some ⟨r8, 0, none⟩) ∧ e' 9 = v9 ∧ e' 10 = .int .i64 (k : Int) ∧ e' 11 = slc bw m.length ∧ e' 34 = .int .i64 (m.length : Int) ∧ e' 35 = .int .i64 (k : Int) ∧ Up h'.next h' h4 ∧ ∃ R, MM mkI h'.next h4 bw R ∧ Rel (fun _ => True) m.length R (fun i' j' => if j' = k ∧ i' < i then fl b i' else fm m i' j') K) m.length (by omega) rfl e42 e41
        ⟨e0, e1, e8, e9, e10, e11, e34, e35, .of_le hx3 (Nat.le_refl _), _, hM, ?_⟩ ?_ ?_
       ·have := (hm.sqm hs).norm
        exact ⟨this.rows, this.cols, this.lim, this.len, fun i j hi hj => by rw [this.val i j hi hj, if_neg (by omega)], fun _ _ _ _ => trivial⟩
       ·rintro i e' h4 hi ei en ⟨e0, e1, e8, e9, e10, e11, e34, e35, hu4, R, hM, hr⟩
        obtain ⟨ci, i1, i2, i3, i4, i5, i6, i7⟩ := mkI_row hM (i := i) (by rw [hr.rows]; exact hi) (by rw [hr.cols i hi]; omega)
        rw [hr.cols i hi] at i1
        have hw := wr_iC (n := k) (x0 := (b.getD i raw0).1) (x1 := (b.getD i raw0).2) i2 (by rw [hr.cols i hi]; exact hk)
        have hib : i < b.length := by omega
        refine W.block ?_
        refine W.rseq ?_
        simp (disch := first | omega | (simp only [vd]; done) | (simp only [vd]; omega)) only [vs, reduceIte, Nat.reduceEqDiff, ei]
        refine W.drawL (fun _ => True) [false, false, false, false, false, false, false, false, false, false, false] (by rfl) ?_
        simp (disch := first | omega | (simp only [vd]; done) | (simp only [vd]; omega)) only [vs, reduceIte, Nat.reduceEqDiff, e1, e10, e11, ei, i1, hw, Int.toNat_natCast]
        refine ⟨gr0_set i2, ?_⟩
        simp (disch := first | omega | (simp only [vd]; done) | (simp only [vd]; omega)) only [vs, reduceIte, Nat.reduceEqDiff, ei, en, e0, e1, e8, e9, e10, e11, e34, e35]
        refine ⟨hu4.trans (.set i3), _, i7 h4 (VH.le_refl _) ((R.getD i []).set k (b.getD i raw0)) (by rw [List.length_set]), hr.set hi hk (hb.lim i) (hb.len i) rfl trivial fun i' j' hi' hj' => ?_⟩
        show (if j' = k ∧ i' < i + 1 then fl b i' else fm m i' j') = if i' = i ∧ j' = k then iz (b.getD i raw0) else (if j' = k ∧ i' < i then fl b i' else fm m i' j')
        by_cases hj : j' = k
        ·by_cases hii : i' = i
         ·rw [if_pos ⟨hj, by omega⟩, if_pos ⟨hii, hj⟩, hii]; rfl
         ·rw [if_neg (c := i' = i ∧ j' = k) (fun hh => hii hh.1)]
          by_cases hlt : i' < i
          ·rw [if_pos ⟨hj, by omega⟩, if_pos ⟨hj, hlt⟩]
          ·rw [if_neg (by omega), if_neg (by omega)]
        ·rw [if_neg (fun hh => hj hh.1), if_neg (fun hh => hj hh.2), if_neg (fun hh => hj hh.1)]
       ·rintro e' h4 ei ⟨e0, e1, e8, e9, e10, e11, e34, e35, hu4, R, hM, hr⟩
        simp (disch := first | omega | (simp only [vd]; done) | (simp only [vd]; omega)) only [vs, reduceIte, Nat.reduceEqDiff, e0, e1, e8, e9, e10, e11, e34, e35]
        refine ⟨hu4, R, hM, hr.congr fun i' j' hi' hj' => ?_⟩
        show (if j' = k ∧ i' < m.length then fl b i' else fm m i' j') = if j' = k then fl b i' else fm m i' j'
        by_cases hj : j' = k
        ·rw [if_pos ⟨hj, hi'⟩, if_pos hj]
        ·rw [if_neg (fun hh => hj hh.1), if_neg hj]
      ·rintro e' h4 ⟨e0, e1, e8, e9, e10, e11, e34, e35, hu4, R, hM, hr⟩
       refine WF.mm 11 rfl hM (by rw [e11, hr.rows]) fun h5 hu5 hn5 _ => WF.done ?_
       have hu45 := hu4.trans hu5
       have hx5 : h'.le h5 := hu45.le (VH.le_refl _) (Nat.le_refl _)
       change W _ _ _ (e'.put (some 11) (mV R)) _ _
       refine W.gen [0, 1, 8, 9, 10, 11, 34, 35] (fun e he => ?_)
       simp only [List.forall_mem_cons, List.not_mem_nil, false_implies, implies_true, and_true, e0_zero, e0_succ, put_some, put_none, reduceIte, Nat.reduceEqDiff, e0, e1, e8, e9, e10, e34, e35] at he
       obtain ⟨e0, e1, e8, e9, e10, e11, e34, e35⟩ := he
       have hc5 := hc.mono hx5
       refine W.dseqL (fun _ => True) [false, true, false, true, false, false, false, false, false, false] (by rfl) ?_
       simp (disch := first | omega | (simp only [vd]; done) | (simp only [vd]; omega)) only [vs, reduceIte, Nat.reduceEqDiff, e11]
       refine rDet_ok R (K := K) (n := m.length) ⟨hr.rows, hr.cols, (hr.matK (by omega)).lim, (hr.matK (by omega)).len⟩ (by omega) (by omega) fun h6 hx6 => ?_
       rw [det_congr (A := fm R) (B := colrep (fm m) k (fl b)) (fun i j hi hj => hr.val i j hi hj)]
       have hdk := det_sk (n := m.length) (A := colrep (fm m) k (fl b)) (w := K) (fun i j hi hj => hr.sk hi hj)
       have hc6 := hc5.mono hx6
       simp (disch := first | omega | (simp only [vd]; done) | (simp only [vd]; omega)) only [vs, reduceIte, Nat.reduceEqDiff, gr_le hx6, gr0_le hx6, e8, hc6.rd2]
       refine rNew_ok (cz _) (cz _) (Okr.cz hdk (by omega)) (Okr.cz hdsk (by omega)) (fun hne h8 hx8 => ?_) (fun he => absurd (by rw [iz_cz] at he; exact he) h0)
       rw [iz_cz, iz_cz]
       obtain ⟨y, hy⟩ : ∃ y, y = qz (det m.length (colrep (fm m) k (fl b))) (det m.length (fm m)) := ⟨_, rfl⟩
       rw [← hy]
       simp (disch := first | omega | (simp only [vd]; done) | (simp only [vd]; omega)) only [vs, reduceIte, Nat.reduceEqDiff, gr_le hx8, gr0_le hx8, extV, Value.cells]
       refine ⟨gr0_p1, ?_⟩
       have hcY := Cell.new (h := h8) (t := 58) (cs := [.bool y.1.1, u32S y.1.2, .bool y.2.1, u32S y.2.2])
       have hlY := VH.le_push h8 ⟨58, 0, [.bool y.1.1, u32S y.1.2, .bool y.2.1, u32S y.2.2]⟩
       generalize h8.push ⟨58, 0, [.bool y.1.1, u32S y.1.2, .bool y.2.1, u32S y.2.2]⟩ = G8 at *
       have hx9 := hx5.trans (hx6.trans (hx8.trans hlY))
       have hc9 := hc.mono hx9
       have hrd : rdN G8 h8.next 0 4 = some [.bool y.1.1, u32S y.1.2, .bool y.2.1, u32S y.2.2] := rd_s4 hcY.2
       refine W.gen [0, 1, 8, 9, 13, 34, 35] (fun e he => ?_)
       simp only [List.forall_mem_cons, List.not_mem_nil, false_implies, implies_true, and_true, e0_zero, e0_succ, put_some, put_none, reduceIte, Nat.reduceEqDiff, e0, e1, e8, e9, e34, e35] at he
       obtain ⟨e0, e1, e8, e9, e13, e34, e35⟩ := he
       refine W.reg ?_
       have hO9 : OQ h.next G8 v9 _ := Own.mono hO hx9
       obtain ⟨v', h10, k1, k2, k3, k4⟩ := hO9.app y (by simp; omega) (Nat.le_trans hu.1 hx9.1)
       have hc10 := hO9.cell k1 hc9
       simp (disch := first | omega | (simp only [vd]; done) | (simp only [vd]; omega)) only [vs, reduceIte, Nat.reduceEqDiff, e9, e13, hrd, show QM.seen v9 = v9 from Own.seen hO, k1, e0, e1, e8, e34, e35]
       rw [show QM.seen v' = v' from Own.seen k2, range_map_succ, ← hy]
       exact ⟨(hu.trans (.of_le hx9 hu.1)).trans (.of_app (Nat.le_of_lt k4) (Nat.le_trans hu.1 hx9.1) k3), hc10, k2⟩
     ·rintro e h' ei ⟨e0, e1, e8, hu, hc, hO⟩
      simp (disch := first | omega | (simp only [vd]; done) | (simp only [vd]; omega)) only [vs, reduceIte, Nat.reduceEqDiff]
      exact ⟨hO, hu⟩
    ·rintro e h' ⟨hO, hu⟩
     refine W.rseq ?_
     simp (disch := first | omega | (simp only [vd]; done) | (simp only [vd]; omega)) only [vs, reduceIte, Nat.reduceEqDiff, show QM.seen (e 9) = e 9 from Own.seen hO]
     refine W.ret ⟨.inr rfl, ?_⟩
     change Fin cfg _ _ _ _
     refine Fin.own 4 rfl hO fun h3 hx3 _ => ?_
     exact Fin.done (ress_tt rfl rfl rfl) (hq1 hs hbm h0 _ (hx3 _ (hu.le (VH.le_refl _) (Nat.le_refl _)) (Nat.le_refl _)))
  ·refine W.seq (W.rseq ?_)
   simp (disch := first | omega | (simp only [vd]; done) | (simp only [vd]; omega)) only [vs, reduceIte, Nat.reduceEqDiff, Bool.not_true]
   refine W.cond true (by rfl) (fun _ => ?_) nofun
   refine W.rseq ?_
   simp (disch := first | omega | (simp only [vd]; done) | (simp only [vd]; omega)) only [vs, reduceIte, Nat.reduceEqDiff]
   refine W.ret ⟨.inr rfl, ?_⟩
   change Fin cfg _ _ _ _
   refine Fin.nil 4 ?_
   exact Fin.done (ress_tt rfl rfl rfl) (hq3 (fun hh => hbm hh.2) _ (VH.le_refl _))
 ·simp (disch := first | omega | (simp only [vd]; done) | (simp only [vd]; omega)) only [vs, reduceIte, Nat.reduceEqDiff, extV]
  refine W.seq (W.rseq ?_)
  simp (disch := first | omega | (simp only [vd]; done) | (simp only [vd]; omega)) only [vs, reduceIte, Nat.reduceEqDiff, Bool.not_false]
  refine W.cond true (by rfl) (fun _ => ?_) nofun
  refine W.rseq ?_
  simp (disch := first | omega | (simp only [vd]; done) | (simp only [vd]; omega)) only [vs, reduceIte, Nat.reduceEqDiff]
  refine W.ret ⟨.inr rfl, ?_⟩
  change Fin cfg _ _ _ _
  refine Fin.nil 4 ?_
  exact Fin.done (ress_tt rfl rfl rfl) (hq3 (fun h2 => hh h2.1) _ (VH.le_refl _))
end Go.Proofs.Ytjpknabdmmkobaa
end

section
set_option maxRecDepth 20000
open Go Go.QM Go.Elim
namespace Go.Proofs.Ytjpknabdmmkobaa
variable {h : VH} {Q : Value → VH → Prop} {c : Cw Q}
variable {P : Raw → Prop} {n w i j k p : Nat} {R : List (List Raw)} {A : Fm}
structure Sm (K : Nat) (a : List (List Raw)) : Prop where
 rows : a.length ≤ K
 cols : ∀ i, (a.getD i []).length ≤ K
 len : ∀ i j, (ent a i j).2.length ≤ K
theorem large_ok (a : List (List Raw)) (hl : a.length < 1125899906842624) (hc : ∀ i, (a.getD i []).length < 1125899906842624) (hw : ∀ i j, (ent a i j).2.length < 1125899906842624) (hq : ∀ b : Bool, (b = false → Sm 120 a) → Q (.bool b) h) :
  Runs Try.prog cfg 13 [mV a] h Q c := by
 refine Runs.go Try.func13 rfl rfl (.refl _ _) ?_
 refine W.rseq ?_
 simp (disch := first | omega | (simp only [vd]; done) | (simp only [vd]; omega)) only [vs, reduceIte, Nat.reduceEqDiff]
 refine W.rseq ?_
 simp (disch := first | omega | (simp only [vd]; done) | (simp only [vd]; omega)) only [vs, reduceIte, Nat.reduceEqDiff]
 refine W.then (fun e' h' => h' = h ∧ ∃ n : Nat, e' 3 = .int .i64 (n : Int) ∧ n < 4503599627370496 ∧ (n ≤ 120 → Sm 120 a)) ?_ ?_
 ·skip
  refine W.rseq ?_
  simp (disch := first | omega | (simp only [vd]; done) | (simp only [vd]; omega)) only [vs, reduceIte, Nat.reduceEqDiff]
  refine W.gen [0, 3, 4] (fun e he => ?_)
  simp only [List.forall_mem_cons, List.not_mem_nil, false_implies, implies_true, and_true, e0_zero, e0_succ, put_some, put_none, reduceIte, Nat.reduceEqDiff] at he
  obtain ⟨e0, e3, e4⟩ := he
  refine W.mono (Q := fun x e' h' => x = .normal ∧ h' = h ∧ ∃ n : Nat, e' 3 = .int .i64 (n : Int) ∧ n < 4503599627370496 ∧ (n ≤ 120 → Sm 120 a))
   (W.for (fun i e h' => h' = h ∧ e 0 = mV a ∧ ∃ n : Nat, e 3 = .int .i64 (n : Int) ∧ n < 4503599627370496 ∧ a.length ≤ n ∧ (n < 1000 → ∀ i', i' < i → (a.getD i' []).length ≤ n ∧ ∀ j, (ent a i' j).2.length ≤ n)) 0 a.length (by omega) rfl (Nat.zero_le _) e4 ⟨rfl, e0, a.length, e3, by omega, Nat.le_refl _, fun _ i' hi' => by omega⟩ ?_) ?_
  ·rintro i e h' hi ei ⟨rfl, e0, n, e3, hn, hln, hI⟩
   by_cases hlt : i < a.length
   ·by_cases hn1 : n < 1000
    ·have hci := hc i
     refine W.rseq ?_
     simp (disch := first | omega | (simp only [vd]; done) | (simp only [vd]; omega)) only [vs, reduceIte, Nat.reduceEqDiff, ei, e0, e3]
     refine W.cond true (by rfl) (fun _ => ?_) nofun
     refine W.skip ?_
     simp (disch := first | omega | (simp only [vd]; done) | (simp only [vd]; omega)) only [vs, reduceIte, Nat.reduceEqDiff]
     refine ⟨hlt, ?_⟩
     have hs : (n : Int) + ((a.getD i []).length : Int) = ((n + (a.getD i []).length : Nat) : Int) := by omega
     refine W.rseq ?_
     simp (disch := first | omega | (simp only [vd]; done) | (simp only [vd]; omega)) only [vs, reduceIte, Nat.reduceEqDiff, ei, e0, e3, Int.toNat_natCast, hs]
     refine W.rseq ?_
     simp (disch := first | omega | (simp only [vd]; done) | (simp only [vd]; omega)) only [vs, reduceIte, Nat.reduceEqDiff]
     refine W.gen [0, 3, 4, 5] (fun e he => ?_)
     simp only [List.forall_mem_cons, List.not_mem_nil, false_implies, implies_true, and_true, e0_zero, e0_succ, put_some, put_none, reduceIte, Nat.reduceEqDiff, e0, ei] at he
     obtain ⟨e0, e3, e4, e5⟩ := he
     have hI := hI hn1
     refine W.mono (Q := fun x e' h2 => x = .normal ∧ h2 = h' ∧ e' 0 = mV a ∧ e' 4 = .int .i64 (i : Int) ∧ ∃ n' : Nat, e' 3 = .int .i64 (n' : Int) ∧ n' < 4503599627370496 ∧ n + (a.getD i []).length ≤ n' ∧ (n' < 1000 → ∀ j, (ent a i j).2.length ≤ n'))
      (W.for (fun j e h2 => h2 = h' ∧ e 0 = mV a ∧ e 4 = .int .i64 (i : Int) ∧ ∃ n' : Nat, e 3 = .int .i64 (n' : Int) ∧ n' < 4503599627370496 ∧ n + (a.getD i []).length ≤ n' ∧ ∀ j', j' < j → (ent a i j').2.length ≤ n') 0 (a.getD i []).length (by omega) rfl (Nat.zero_le _) e5 ⟨rfl, e0, e4, _, e3, by omega, Nat.le_refl _, fun j' hj' => by omega⟩ ?_) ?_
     ·rintro j e h2 hj ej ⟨rfl, e0, e4, n', e3, hn', hnn, hJ⟩
      by_cases hlj : j < (a.getD i []).length
      ·by_cases hn2 : n' < 1000
       ·have hwj := hw i j
        unfold ent at hwj
        refine W.rseq ?_
        simp (disch := first | omega | (simp only [vd]; done) | (simp only [vd]; omega)) only [vs, reduceIte, Nat.reduceEqDiff, ej, e0, e3, e4, Int.toNat_natCast]
        refine W.cond true (by rfl) (fun _ => ?_) nofun
        refine W.skip ?_
        simp (disch := first | omega | (simp only [vd]; done) | (simp only [vd]; omega)) only [vs, reduceIte, Nat.reduceEqDiff]
        refine ⟨hlj, W.reg ?_⟩
        have hs : (n' : Int) + ((ent a i j).2.length : Int) = ((n' + (ent a i j).2.length : Nat) : Int) := by omega
        simp (disch := first | omega | (simp only [vd]; done) | (simp only [vd]; omega)) only [vs, reduceIte, Nat.reduceEqDiff, ej, e0, e3, e4, Int.toNat_natCast]
        unfold ent at hs
        rw [hs]
        refine ⟨_, rfl, by omega, by omega, fun j' hj' => ?_⟩
        by_cases hjj : j' = j
        ·rw [hjj]; unfold ent; omega
        ·have := hJ j' (by omega); omega
       ·skip
        refine W.rseq ?_
        simp (disch := first | omega | (simp only [vd]; done) | (simp only [vd]; omega)) only [vs, reduceIte, Nat.reduceEqDiff, ej, e0, e3, e4, Int.toNat_natCast]
        refine W.cond false (by rfl) nofun (fun _ => W.exit ?_)
        simp (disch := first | omega | (simp only [vd]; done) | (simp only [vd]; omega)) only [vs, reduceIte, Nat.reduceEqDiff]
        exact ⟨e0, e4, n', e3, hn', hnn, fun hh => absurd hh hn2⟩
      ·obtain rfl : j = (a.getD i []).length := by omega
       refine W.rseq ?_
       simp (disch := first | omega | (simp only [vd]; done) | (simp only [vd]; omega)) only [vs, reduceIte, Nat.reduceEqDiff, ej, e0, e3, e4, Int.toNat_natCast]
       refine W.cond false (by rfl) nofun (fun _ => W.exit ?_)
       simp (disch := first | omega | (simp only [vd]; done) | (simp only [vd]; omega)) only [vs, reduceIte, Nat.reduceEqDiff]
       refine ⟨e0, e4, n', e3, hn', hnn, fun _ j => ?_⟩
       by_cases hjl : j < (a.getD i []).length
       ·exact hJ j hjl
       ·have : ent a i j = raw0 := by
         unfold ent
         generalize a.getD i [] = r at *
         simp [List.getElem?_eq_none (Nat.le_of_not_lt hjl)]
        rw [this]; exact Nat.zero_le _
     ·rintro x e h2 ⟨rfl, rfl, e0, e4, n', e3, hn', hnn, hJ⟩
      simp (disch := first | omega | (simp only [vd]; done) | (simp only [vd]; omega)) only [vs, reduceIte, Nat.reduceEqDiff, e0, e3, e4]
      refine ⟨n', rfl, hn', by omega, fun hn3 i' hi' => ?_⟩
      by_cases hii : i' = i
      ·rw [hii]; exact ⟨by omega, hJ hn3⟩
      ·have := hI i' (by omega)
       exact ⟨by omega, fun j => Nat.le_trans (this.2 j) (by omega)⟩
    ·skip
     refine W.rseq ?_
     simp (disch := first | omega | (simp only [vd]; done) | (simp only [vd]; omega)) only [vs, reduceIte, Nat.reduceEqDiff, ei, e0, e3]
     refine W.cond false (by rfl) nofun (fun _ => W.exit ?_)
     simp (disch := first | omega | (simp only [vd]; done) | (simp only [vd]; omega)) only [vs, reduceIte, Nat.reduceEqDiff]
     exact ⟨n, e3, hn, fun hh => by omega⟩
   ·obtain rfl : i = a.length := by omega
    refine W.rseq ?_
    simp (disch := first | omega | (simp only [vd]; done) | (simp only [vd]; omega)) only [vs, reduceIte, Nat.reduceEqDiff, ei, e0, e3]
    refine W.cond false (by rfl) nofun (fun _ => W.exit ?_)
    simp (disch := first | omega | (simp only [vd]; done) | (simp only [vd]; omega)) only [vs, reduceIte, Nat.reduceEqDiff]
    refine ⟨n, e3, hn, fun hh => ?_⟩
    have hI := hI (by omega)
    refine ⟨by omega, fun i => ?_, fun i j => ?_⟩
    ·by_cases hi : i < a.length
     ·have := (hI i hi).1; omega
     ·rw [List.getD_eq_getElem?_getD, List.getElem?_eq_none (by omega)]; exact Nat.zero_le _
    ·by_cases hi : i < a.length
     ·exact Nat.le_trans ((hI i hi).2 j) hh
     ·have : ent a i j = raw0 := by unfold ent; rw [List.getD_eq_getElem?_getD (l := a), List.getElem?_eq_none (by omega)]; rfl
      rw [this]; exact Nat.zero_le _
  ·rintro x e h' ⟨rfl, hh⟩
   exact hh
 ·rintro e h' ⟨rfl, n, e3, hn, hS⟩
  refine W.rseq ?_
  simp (disch := first | omega | (simp only [vd]; done) | (simp only [vd]; omega)) only [vs, reduceIte, Nat.reduceEqDiff, e3]
  refine W.ret ⟨.inr rfl, ?_⟩
  change Fin cfg _ _ _ _
  by_cases h120 : 120 < n
  ·have := hq true (fun hh => by cases hh)
   refine Fin.done (ress_1 rfl ?_) this
   simp (disch := first | omega | (simp only [vd]; done) | (simp only [vd]; omega)) only [vs, reduceIte, Nat.reduceEqDiff]
  ·have := hq false (fun _ => hS (by omega))
   refine Fin.done (ress_1 rfl ?_) this
   simp (disch := first | omega | (simp only [vd]; done) | (simp only [vd]; omega)) only [vs, reduceIte, Nat.reduceEqDiff]
theorem sameStages_ok (a b : List (List (List Raw))) (ha : a.length < 1099511627776 ∧ ∀ i, Okm (a.getD i [])) (hb : b.length < 1099511627776 ∧ ∀ i, Okm (b.getD i [])) (hq : ∀ h1, h.le h1 → Q (.bool (decide (a = b))) h1) : Runs Try.prog cfg 18 [m3V a, m3V b] h Q c := by
 obtain ⟨la, ha⟩ := ha
 obtain ⟨lb, hb⟩ := hb
 refine Runs.go Try.func18 rfl rfl (.refl _ _) ?_
 refine W.rseq ?_
 simp (disch := first | omega | (simp only [vd]; done) | (simp only [vd]; omega)) only [vs, reduceIte, Nat.reduceEqDiff]
 by_cases hl : a.length = b.length
 ·refine W.seq (W.rseq ?_)
  simp (disch := first | omega | (simp only [vd]; done) | (simp only [vd]; omega)) only [vs, reduceIte, Nat.reduceEqDiff]
  refine W.cond false (by rfl) nofun (fun _ => ?_)
  refine W.skip ?_
  simp (disch := first | omega | (simp only [vd]; done) | (simp only [vd]; omega)) only [vs, reduceIte, Nat.reduceEqDiff]
  refine W.seq (W.rseq ?_)
  simp (disch := first | omega | (simp only [vd]; done) | (simp only [vd]; omega)) only [vs, reduceIte, Nat.reduceEqDiff]
  refine W.gen [0, 1, 12, 13] (fun e he => ?_)
  simp only [List.forall_mem_cons, List.not_mem_nil, false_implies, implies_true, and_true, e0_zero, e0_succ, put_some, put_none, reduceIte, Nat.reduceEqDiff] at he
  obtain ⟨e0, e1, e12, e13⟩ := he
  refine W.range (fun i e h' => h.le h' ∧ e 0 = m3V a ∧ e 1 = m3V b ∧ ∀ j, j < i → a.getD j [] = b.getD j []) a.length (by omega) rfl e13 e12 ⟨VH.le_refl _, e0, e1, fun j hj => by omega⟩ ?_ ?_
  ·rintro i e h' hi ei en ⟨hle, e0, e1, hj⟩
   refine W.block ?_
   refine W.rseq ?_
   simp (disch := first | omega | (simp only [vd]; done) | (simp only [vd]; omega)) only [vs, reduceIte, Nat.reduceEqDiff, ei]
   refine W.dseq (fun _ => True) (by rfl) ?_
   simp (disch := first | omega | (simp only [vd]; done) | (simp only [vd]; omega)) only [vs, reduceIte, Nat.reduceEqDiff, e0, e1, Int.toNat_natCast]
   refine r_SameM_ok (a.getD i []) (b.getD i []) (ha i) (hb i) fun h2 hx2 => ?_
   by_cases he : a.getD i [] = b.getD i []
   ·rw [decide_eq_true he]
    simp (disch := first | omega | (simp only [vd]; done) | (simp only [vd]; omega)) only [vs, reduceIte, Nat.reduceEqDiff, gr_le hx2, Bool.not_true]
    refine W.cond false (by rfl) nofun (fun _ => ?_)
    refine W.skip ?_
    simp (disch := first | omega | (simp only [vd]; done) | (simp only [vd]; omega)) only [vs, reduceIte, Nat.reduceEqDiff, ei, en, e0, e1]
    refine ⟨hle.trans hx2, fun j hj2 => ?_⟩
    by_cases hji : j = i
    ·rw [hji]; exact he
    ·exact hj j (by omega)
   ·rw [decide_eq_false he]
    simp (disch := first | omega | (simp only [vd]; done) | (simp only [vd]; omega)) only [vs, reduceIte, Nat.reduceEqDiff, gr_le hx2, Bool.not_false]
    refine W.cond true (by rfl) (fun _ => ?_) nofun
    refine W.rseq ?_
    simp (disch := first | omega | (simp only [vd]; done) | (simp only [vd]; omega)) only [vs, reduceIte, Nat.reduceEqDiff]
    rw [decide_eq_false (by rintro rfl; exact he rfl)] at hq
    exact W.ret ⟨.inr rfl, _, _, _, .refl _ _, ress_t rfl, hq _ (hle.trans hx2)⟩
  ·rintro e h' ei ⟨hle, e0, e1, hj⟩
   simp (disch := first | omega | (simp only [vd]; done) | (simp only [vd]; omega)) only [vs, reduceIte, Nat.reduceEqDiff]
   refine W.rseq ?_
   simp (disch := first | omega | (simp only [vd]; done) | (simp only [vd]; omega)) only [vs, reduceIte, Nat.reduceEqDiff]
   rw [decide_eq_true (ext_getD [] hl hj)] at hq
   exact W.ret ⟨.inr rfl, _, _, _, .refl _ _, ress_t rfl, hq _ hle⟩
 ·refine W.seq (W.rseq ?_)
  simp (disch := first | omega | (simp only [vd]; done) | (simp only [vd]; omega)) only [vs, reduceIte, Nat.reduceEqDiff]
  refine W.cond true (by rfl) (fun _ => ?_) nofun
  refine W.rseq ?_
  simp (disch := first | omega | (simp only [vd]; done) | (simp only [vd]; omega)) only [vs, reduceIte, Nat.reduceEqDiff]
  rw [decide_eq_false (by rintro rfl; exact hl rfl)] at hq
  exact W.ret ⟨.inr rfl, _, _, _, .refl _ _, ress_t rfl, hq _ (VH.le_refl _)⟩
end Go.Proofs.Ytjpknabdmmkobaa
end

section
set_option maxRecDepth 20000
open Go Go.QM Go.Elim
namespace Go.Proofs.Ytjpknabdmmkobaa
variable {h : VH} {Q : Value → VH → Prop} {c : Cw Q}
variable {P : Raw → Prop} {n w i j k p : Nat} {R : List (List Raw)} {A : Fm}
theorem mm_two (a b : List Int) (ha : a.length = 2) (hb : b.length = 2) :
  MM mk64 h.next (((h.push ⟨2, 1, a.map (Value.int .i64)⟩).push ⟨2, 1, b.map (Value.int .i64)⟩).push ⟨80, 1, [.slice (some ⟨h.next, 0, none⟩) 2 2, .slice (some ⟨h.next + 1, 0, none⟩) 2 2]⟩) (h.next + 1 + 1) [a, b] := by
 refine ⟨_, fun i => if i = 0 then some h.next else some (h.next + 1), by omega, by simp only [next_push]; omega, blk_push' (by simp only [next_push]), rfl, fun i hi => ?_, fun i c hi hc => ?_⟩
 ·have hfl : ∀ r : List Int, r.flatMap mk64.c = r.map (Value.int .i64) := fun r => flat_one _ r
  have h2 : i = 0 ∨ i = 1 := by simp at hi; omega
  rcases h2 with rfl | rfl
  ·refine ⟨⟨by simp [ha], fun e => by simp at e; rw [e] at ha; cases ha⟩, Nat.le_refl _, by simp only [next_push]; omega, ?_⟩
   rw [blk_push_ne (by simp only [next_push]; omega), blk_push_ne (by simp only [next_push]; omega), blk_push, hfl]
   rfl
  ·refine ⟨⟨by simp [hb], fun e => by simp at e; rw [e] at hb; cases hb⟩, Nat.le_succ _, by simp only [next_push]; omega, ?_⟩
   rw [blk_push_ne (by simp only [next_push]; omega), blk_push' (by simp only [next_push]), hfl]
   rfl
 ·have h2 : i = 0 ∨ i = 1 := by simp at hi; omega
  refine ⟨?_, fun j hj hjc => ?_⟩
  ·rcases h2 with rfl | rfl <;> simp at hc <;> omega
  ·have h3 : j = 0 ∨ j = 1 := by simp at hj; omega
   rcases h2 with rfl | rfl <;> rcases h3 with rfl | rfl <;> simp at hc hjc <;> omega
theorem ofI2 {a b c d : Int} : ofI [[a, b], [c, d]] = mat 2 2 fun i j => cz (en [[a, b], [c, d]] i j) := rfl
theorem ofI_two (a b c d : Int) (ha : ∀ x ∈ [a, b, c, d], -4294967296 < x ∧ x < 4294967296) : IsM [[a, b], [c, d]] ∧ Len [[a, b], [c, d]] ∧ I64 [[a, b], [c, d]] ∧ IsSq (ofI [[a, b], [c, d]]) ∧ MatK 2 (ofI [[a, b], [c, d]]) ∧ ∀ i j, i < 2 → j < 2 → fm (ofI [[a, b], [c, d]]) i j = en [[a, b], [c, d]] i j := by
 have h1 : IsM [[a, b], [c, d]] := ⟨by simp, by simp, by simp, by simp, fun i hi => by
  have : i = 0 ∨ i = 1 := by simp at hi; omega
  rcases this with rfl | rfl <;> rfl⟩
 have he : ∀ i j, -4294967296 < en [[a, b], [c, d]] i j ∧ en [[a, b], [c, d]] i j < 4294967296 := by
  intro i j
  simp only [List.forall_mem_cons, List.not_mem_nil, false_implies, implies_true, and_true] at ha
  obtain ⟨h1, h2, h3, h4⟩ := ha
  rcases i with _ | _ | i
  ·rcases j with _ | _ | j
   ·exact h1
   ·exact h2
   ·exact ⟨(by decide : (-4294967296 : Int) < 0), (by decide : (0 : Int) < 4294967296)⟩
  ·rcases j with _ | _ | j
   ·exact h3
   ·exact h4
   ·exact ⟨(by decide : (-4294967296 : Int) < 0), (by decide : (0 : Int) < 4294967296)⟩
  ·exact ⟨(by decide : (-4294967296 : Int) < 0), (by decide : (0 : Int) < 4294967296)⟩
 have hsq : IsSq (ofI [[a, b], [c, d]]) := by
  have hr : ∀ i, i < 2 → ((ofI [[a, b], [c, d]]).getD i []).length = 2 := fun i hi => by rw [ofI2, mat_row hi]; simp
  have hl : (ofI [[a, b], [c, d]]).length = 2 := mat_len
  exact ⟨⟨by omega, by omega, by rw [hr 0 (by omega)]; omega, by rw [hr 0 (by omega)]; omega, fun i hi => by rw [hr i (by omega), hr 0 (by omega)]⟩, by rw [hr 0 (by omega), hl]⟩
 refine ⟨h1, h1.len, fun i j => by have := he i j; omega, hsq, ⟨fun i j => ?_, fun i j => ?_, by rw [show (ofI [[a, b], [c, d]]).length = 2 from mat_len]; decide, fun i => ?_⟩, fun i j hi hj => ?_⟩
 ·by_cases hij : i < 2 ∧ j < 2
  ·rw [ofI2, mat_ent hij.1 hij.2]; exact Lim_dig _
  ·rw [ofI2, mat_ent0 hij]; exact Lim.nil
 ·by_cases hij : i < 2 ∧ j < 2
  ·rw [ofI2, mat_ent hij.1 hij.2]
   have := he i j
   exact Sk.small (by omega) (by omega)
  ·rw [ofI2, mat_ent0 hij]; exact Nat.zero_le _
 ·exact hsq.1.len.2 i
 ·unfold fm
  rw [ofI2, mat_ent hi hj, iz_cz]
theorem wd2 : wd 2 16 + 5 < 1099511627776 := by decide +kernel
theorem Of_two (a b c d : Int) (ha : ∀ x ∈ [a, b, c, d], -4294967296 < x ∧ x < 4294967296) {cw : Cw Q} (hq : ∀ h1, h.le h1 → Q (mV (ofI [[a, b], [c, d]])) h1) :
  Runs Try.prog cfg 54 [.slice (some ⟨((h.push ⟨2, 1, [.int .i64 a, .int .i64 b]⟩).push ⟨2, 1, [.int .i64 c, .int .i64 d]⟩).next, 0, none⟩) 2 2]
   (((h.push ⟨2, 1, [.int .i64 a, .int .i64 b]⟩).push ⟨2, 1, [.int .i64 c, .int .i64 d]⟩).push ⟨80, 1, [.slice (some ⟨h.next, 0, none⟩) 2 2, .slice (some ⟨(h.push ⟨2, 1, [.int .i64 a, .int .i64 b]⟩).next, 0, none⟩) 2 2]⟩) Q cw := by
 obtain ⟨a1, a2, a3, a4, a5, a6⟩ := ofI_two a b c d ha
 refine Runs.argM 0 rfl rfl (mm_two (h := h) [a, b] [c, d] rfl rfl) fun h' hu hn _ => ?_
 rw [mk64_fz]
 have hx : h.le h' := hu.le ((VH.le_push _ _).trans ((VH.le_push _ _).trans (VH.le_push _ _))) (Nat.le_refl _)
 exact Of_fz [[a, b], [c, d]] a2 a3 a1 fun h1 hx1 => hq h1 (hx.trans hx1)
theorem awake_ok (hq : ∀ h1, h.le h1 → Q (.bool true) h1) : Runs Try.prog cfg 14 [] h Q c := by
 obtain ⟨a1, a2, a3, a4, a5, a6⟩ := ofI_two 2 1 1 2 (by decide)
 obtain ⟨b1, b2, b3, b4, b5, b6⟩ := ofI_two 0 1 1 0 (by decide)
 have hl1 : (ofI [[2, 1], [1, 2]]).length = 2 := mat_len
 have hl2 : (ofI [[0, 1], [1, 0]]).length = 2 := mat_len
 have v00 : fm (ofI [[2, 1], [1, 2]]) 0 0 = 2 := a6 0 0 (by decide) (by decide)
 have v01 : fm (ofI [[2, 1], [1, 2]]) 0 1 = 1 := a6 0 1 (by decide) (by decide)
 have v10 : fm (ofI [[2, 1], [1, 2]]) 1 0 = 1 := a6 1 0 (by decide) (by decide)
 have v11 : fm (ofI [[2, 1], [1, 2]]) 1 1 = 2 := a6 1 1 (by decide) (by decide)
 have w00 : fm (ofI [[0, 1], [1, 0]]) 0 0 = 0 := b6 0 0 (by decide) (by decide)
 have hok : StOk (ofI [[2, 1], [1, 2]]) := ⟨a4, fun k hk => by
  obtain rfl : k = 0 := by omega
  show fm (ofI [[2, 1], [1, 2]]) 0 0 ≠ 0
  rw [v00]; decide⟩
 have hno : ¬ StOk (ofI [[0, 1], [1, 0]]) := fun hh => hh.2 0 (by omega) w00
 have hd2 : det 2 (fm (ofI [[2, 1], [1, 2]])) = 3 := by
  rw [det_congr (B := fun i j => en [[2, 1], [1, 2]] i j) a6]
  decide
 have hd1 : det 1 (fm (ofI [[2, 1], [1, 2]])) = 2 := by
  rw [det_congr (B := fun i j => en [[2, 1], [1, 2]] i j) (fun i j hi hj => a6 i j (by omega) (by omega))]
  decide
 have hdef : DefP (ofI [[2, 1], [1, 2]]) := ⟨a4, fun i hi => by
  have : i = 0 ∨ i = 1 := by omega
  rcases this with rfl | rfl
  ·exact ⟨fun j hj => by omega, by rw [hd1]; decide⟩
  ·refine ⟨fun j hj => ?_, by rw [hd2]; decide⟩
   obtain rfl : j = 0 := by omega
   rw [v10, v01]⟩
 have hst : stagesM (ofI [[2, 1], [1, 2]]) = [zmat 2 (fm (ofI [[2, 1], [1, 2]])), [[cz 3]]] := by
  unfold stagesM
  rw [hl1]
  have : nxt (fm (ofI [[2, 1], [1, 2]])) 1 0 0 = 3 := by
   unfold nxt
   rw [v00, v11, v10, v01]; decide
  simp only [List.range_succ, List.range_zero, List.nil_append, List.cons_append, List.map_cons, List.map_nil, zmat, mat, stgs, this]
 have t1 : (1 : Int).toNat = 1 := rfl
 have t0 : (0 : Int).toNat = 0 := rfl
 generalize hm1 : ofI [[2, 1], [1, 2]] = m1 at *
 generalize hm2 : ofI [[0, 1], [1, 0]] = m2 at *
 refine Runs.go Try.func14 rfl rfl (.refl _ _) ?_
 refine W.rseq ?_
 simp (disch := first | omega | (simp only [vd]; done) | (simp only [vd]; omega)) only [vs, reduceIte, Nat.reduceEqDiff]
 refine W.rseq ?_
 simp (disch := first | omega | (simp only [vd]; done) | (simp only [vd]; omega)) only [vs, reduceIte, Nat.reduceEqDiff, Nat.reduceMul, Nat.reduceAdd, Nat.reduceLeDiff]
 refine Of_two 2 1 1 2 (by decide) fun h1 hx1 => ?_
 rw [hm1]
 simp (disch := first | omega | (simp only [vd]; done) | (simp only [vd]; omega)) only [vs, reduceIte, Nat.reduceEqDiff]
 refine W.rseq ?_
 simp (disch := first | omega | (simp only [vd]; done) | (simp only [vd]; omega)) only [vs, reduceIte, Nat.reduceEqDiff]
 refine Stages_ok m1 a5 wd2 (fun _ h2 hx2 => ?_) (fun hh => absurd hok hh)
 rw [hst]
 simp (disch := first | omega | (simp only [vd]; done) | (simp only [vd]; omega)) only [vs, reduceIte, Nat.reduceEqDiff, extV]
 refine W.rseq ?_
 simp (disch := first | omega | (simp only [vd]; done) | (simp only [vd]; omega)) only [vs, reduceIte, Nat.reduceEqDiff, Nat.reduceMul, Nat.reduceAdd, Nat.reduceLeDiff]
 refine Of_two 0 1 1 0 (by decide) fun h3 hx3 => ?_
 rw [hm2]
 simp (disch := first | omega | (simp only [vd]; done) | (simp only [vd]; omega)) only [vs, reduceIte, Nat.reduceEqDiff]
 refine Stages_ok m2 b5 wd2 (fun hh => absurd hh hno) (fun _ h4 hx4 => ?_)
 simp (disch := first | omega | (simp only [vd]; done) | (simp only [vd]; omega)) only [vs, reduceIte, Nat.reduceEqDiff, extV]
 refine W.rseq ?_
 simp (disch := first | omega | (simp only [vd]; done) | (simp only [vd]; omega)) only [vs, reduceIte, Nat.reduceEqDiff]
 refine rSmall_r 1 (by decide) (by decide) fun h5 hx5 => ?_
 simp (disch := first | omega | (simp only [vd]; done) | (simp only [vd]; omega)) only [vs, reduceIte, Nat.reduceEqDiff]
 refine rSmall_r 0 (by decide) (by decide) fun h6 hx6 => ?_
 simp (disch := first | omega | (simp only [vd]; done) | (simp only [vd]; omega)) only [vs, reduceIte, Nat.reduceEqDiff, Nat.reduceMul, Nat.reduceAdd, Nat.reduceLeDiff]
 have hO : Own h6.next 39 2 (h6.push ⟨39, 2, [.bool (cz 1).1, u32S (cz 1).2, .bool (cz 0).1, u32S (cz 0).2]⟩) (.slice (some ⟨h6.next, 0, none⟩) 2 2) 2 [.bool (cz 1).1, u32S (cz 1).2, .bool (cz 0).1, u32S (cz 0).2] :=
  ⟨rfl, .inr ⟨h6.next, rfl, by decide, Nat.le_refl _, Nat.lt_succ_self _, blk_push⟩⟩
 refine Runs.argO 1 rfl rfl hO fun h7 hu7 hn7 => ?_
 have hx7 : h6.le h7 := hu7.le (VH.le_push _ _) (Nat.le_refl _)
 have hb : LisK 2 [cz 1, cz 0] := by
  refine ⟨fun i => ?_, fun i => ?_, by simp⟩
  ·rcases i with _ | _ | i
   ·exact Lim_dig _
   ·exact Lim_dig _
   ·exact Lim.nil
  ·rcases i with _ | _ | i
   ·exact Sk.small (z := 1) (by decide) (by decide)
   ·exact Sk.small (z := 0) (by decide) (by decide)
   ·exact Nat.zero_le _
 change Runs _ _ _ [mV m1, isV [cz 1, cz 0]] _ _ _
 refine Solve_ok m1 [cz 1, cz 0] a5 hb wd2 (fun _ _ _ h8 hx8 => ?_) (fun hh => absurd ⟨a4, by rw [hl1]; rfl⟩ hh) (fun _ _ hh => ?_)
 ·have hsl : (sols m1 [cz 1, cz 0]).length = 2 := by rw [sols, List.length_map, List.length_range, hl1]
  obtain ⟨S, T, U, hS, hlen2, hg1, hl3, hg2, hl4, hg3⟩ : ∃ (S : List (List (List Raw))) (T : List (List Raw)) (U : List Raw), ([zmat 2 (fm m1), [[cz 3]]] : List (List (List Raw))) = S ∧ S.length = 2 ∧ S.getD 1 [] = T ∧ T.length = 1 ∧ T.getD 0 [] = U ∧ U.length = 1 ∧ U.getD 0 raw0 = cz 3 := ⟨_, _, _, rfl, rfl, rfl, rfl, rfl, rfl, rfl⟩
  simp (disch := first | omega | (simp only [vd]; done) | (simp only [vd]; omega)) only [vs, reduceIte, Nat.reduceEqDiff, extV]
  rw [hS]
  refine W.gen [1, 2, 3, 5, 6, 7] (fun e he => ?_)
  simp only [List.forall_mem_cons, List.not_mem_nil, false_implies, implies_true, and_true, e0_zero, e0_succ, put_some, put_none, reduceIte, Nat.reduceEqDiff] at he
  obtain ⟨e1, e2, e3, e5, e6, e7⟩ := he
  refine W.dseqL (fun _ => True) [false, false, false, false, false, false, false, false, false, false, false, false, false, false, false, false, false, false, false, false, false, false, false, false, false, false, false, false, false, false, false, false, false, false, false, false, false, false, false, false, false, false, false, true, false, false, false, false, false, false, false] (by rfl) ?_
  simp (maxSteps := 3000000) (disch := first | omega | (simp only [vd]; done) | (simp only [vd]; omega)) only [vs, reduceIte, Nat.reduceEqDiff, e1, e2, e3, e5, e6, e7, Bool.not_false, t0, t1, hg1, hg2, hg3]
  refine rSmall_r 3 (by decide) (by decide) fun h9 hx9 => ?_
  simp (disch := first | omega | (simp only [vd]; done) | (simp only [vd]; omega)) only [vs, reduceIte, Nat.reduceEqDiff, gr_le hx9, gr0_le hx9]
  have hk3 := Okr.cz (Sk.small (z := 3) (by decide) (by decide)) (show 2 < 1099511627776 by decide)
  refine r_Same_ok (cz 3) (cz 3) hk3.1 hk3.1 hk3.2 hk3.2 fun h10 hx10 => ?_
  rw [decide_eq_true rfl]
  simp (disch := first | omega | (simp only [vd]; done) | (simp only [vd]; omega)) only [vs, reduceIte, Nat.reduceEqDiff, gr_le hx10, gr0_le hx10, e1]
  refine Definite_ok m1 a5 wd2 fun h11 hx11 => ?_
  rw [decide_eq_true hdef]
  simp (disch := first | omega | (simp only [vd]; done) | (simp only [vd]; omega)) only [vs, reduceIte, Nat.reduceEqDiff, gr_le hx11, gr0_le hx11]
  refine W.ret ⟨.inr rfl, ?_⟩
  change Fin cfg _ _ _ _
  exact Fin.done (ress_1 rfl rfl) (hq _ (hx1.trans (hx2.trans (hx3.trans (hx4.trans (hx5.trans (hx6.trans (hx7.trans (hx8.trans (hx9.trans (hx10.trans hx11)))))))))))
 ·rw [hl1, hd2] at hh
  cases hh
end Go.Proofs.Ytjpknabdmmkobaa
end

section
set_option maxRecDepth 20000
open Go Go.QM Go.Elim
namespace Go.Proofs.Ytjpknabdmmkobaa
variable {h : VH} {Q : Value → VH → Prop} {c : Cw Q}
variable {P : Raw → Prop} {n w i j k p : Nat} {R : List (List Raw)} {A : Fm}
def InM (a : List (List Raw)) : Prop := a.length * 24 ≤ 140737488351232 ∧ ∀ r ∈ a, r.length * 32 ≤ 140737488351232 ∧ ∀ x ∈ r, RawOk x
theorem InM.row {a : List (List Raw)} (ha : InM a) (i : Nat) : (a.getD i []).length * 32 ≤ 140737488351232 ∧ ∀ x ∈ a.getD i [], RawOk x := by
 by_cases hi : i < a.length
 ·have : a.getD i [] ∈ a := by simp [hi]
  exact ha.2 _ this
 ·have : a.getD i [] = [] := by simp [List.getElem?_eq_none (Nat.le_of_not_lt hi)]
  rw [this]
  exact ⟨by simp, fun x hx => by cases hx⟩
theorem InM.ent {a : List (List Raw)} (ha : InM a) (i j : Nat) : RawOk (ent a i j) := by
 have h1 := (ha.row i).2
 unfold Proofs.Ytjpknabdmmkobaa.ent
 generalize a.getD i [] = r at *
 by_cases hj : j < r.length
 ·exact h1 _ (by simp [hj])
 ·have : r.getD j raw0 = raw0 := by simp [List.getElem?_eq_none (Nat.le_of_not_lt hj)]
  rw [this]
  exact ⟨Lim.nil, by simp [raw0]⟩
theorem InM.large {a : List (List Raw)} (ha : InM a) {h : VH} {Q : Value → VH → Prop} {c : Cw Q} (hq : ∀ b : Bool, (b = false → MatK 120 a) → Q (.bool b) h) : Runs Try.prog cfg 13 [mV a] h Q c := by
 refine large_ok a (by have := ha.1; omega) (fun i => by have := (ha.row i).1; omega) (fun i j => by have := (ha.ent i j).2; omega) fun b hb => hq b fun hf => ?_
 have hs := hb hf
 exact ⟨fun i j => (ha.ent i j).1, hs.len, by have := hs.rows; omega, fun i => by have := hs.cols i; omega⟩
theorem wd120 : wd 120 16 + 5 < 1099511627776 := by decide +kernel
theorem sqM_matK {x : GridV} (hx : GridOk x) {most : Nat} (h0 : 0 < most) (hm : most ≤ 16) : MatK 2 (gM x most) ∧ IsM (gM x most) := by
 have h1 : x.rows.toNat % most < most := Nat.mod_lt _ h0
 have h2 : x.cols.toNat % most < most := Nat.mod_lt _ h0
 have hr : 1 ≤ gR x most ∧ gR x most ≤ 16 := by unfold gR; omega
 have hc : 1 ≤ gC x most ∧ gC x most ≤ 16 := by unfold gC; omega
 have hrow : ∀ i, i < gR x most → ((gM x most).getD i []).length = gC x most := fun i hi => by rw [gM, mat_row hi]; simp
 have hl : (gM x most).length = gR x most := mat_len
 have hM : IsM (gM x most) := ⟨by omega, by omega, by rw [hrow 0 (by omega)]; omega, by rw [hrow 0 (by omega)]; omega, fun i hi => by rw [hrow i (by omega), hrow 0 (by omega)]⟩
 refine ⟨⟨fun i j => ?_, fun i j => ?_, by omega, fun i => hM.len.2 i⟩, hM⟩
 ·by_cases hij : i < gR x most ∧ j < gC x most
  ·rw [gM, mat_ent hij.1 hij.2]; exact Lim_dig _
  ·rw [gM, mat_ent0 hij]; exact Lim.nil
 ·by_cases hij : i < gR x most ∧ j < gC x most
  ·rw [gM, mat_ent hij.1 hij.2]
   have := I8.at (fun y hy => hx.2.2.2 y hy) (i * gC x most + j)
   exact Sk.small (by omega) (by omega)
  ·rw [gM, mat_ent0 hij]; exact Nat.zero_le _
theorem leads_okl {K : Nat} {m : List (List Raw)} (hm : MatK K m) (hs : IsSq m) (hK : wd K 16 + 5 < 1099511627776) : Okl (leads m) := by
 have hl := hs.1.2.1
 refine ⟨by rw [leads_len]; omega, fun i => ?_⟩
 by_cases hi : i < m.length
 ·rw [leads_get hi]
  have h1 := det_sk (n := i + 1) (A := fm m) (fun a b _ _ => hm.sk a b)
  have h2 := wd_le K (show i + 1 ≤ 16 by omega)
  exact Okr.cz h1 (by omega)
 ·rw [List.getD_eq_getElem?_getD, List.getElem?_eq_none (by rw [leads_len]; omega)]
  exact Okr.zero
theorem okl_nil : Okl [] := ⟨by decide, fun i => by simp; exact Okr.zero⟩
theorem stages_okm {K : Nat} {m : List (List Raw)} (hm : MatK K m) (hs : IsSq m) (hK : wd K 16 + 5 < 1099511627776) : (stagesM m).length < 1099511627776 ∧ ∀ i, Okm ((stagesM m).getD i []) := by
 have hl := hs.1.2.1
 have hsl : (stagesM m).length = m.length := by simp [stagesM]
 refine ⟨by omega, fun i => ?_⟩
 by_cases hi : i < m.length
 ·have : (stagesM m).getD i [] = zmat (m.length - i) (stgs (fm m) i).1 := by simp [stagesM, hi]
  rw [this]
  have h2 := wd_le K (show i ≤ 16 by omega)
  exact (zmat_sqm (stgs_sk hm i)).okm (by omega) (by omega)
 ·rw [List.getD_eq_getElem?_getD, List.getElem?_eq_none (by omega)]
  exact ⟨by decide, fun i => by simp; exact okl_nil⟩
theorem okm_nil : ([] : List (List (List Raw))).length < 1099511627776 ∧ ∀ i, Okm (([] : List (List (List Raw))).getD i []) := ⟨by decide, fun i => ⟨by simp, fun i => by simp; exact okl_nil⟩⟩
theorem ldGrid (x : GridV) (h : VH) : loadT (some i_quadformmake_Grid) (fP 0 #[.int .u8 x.rows, .int .u8 x.cols, i8V x.nums]) h = some (gridV x) := rfl
theorem BareissLeading_runs (x : GridV) (hx : GridOk x) (a : List (List Raw)) (ha : InM a) : Runs Try.prog cfg 5 [gridV x, mV a] hp0 (fun v _ => v = .bool true) := by
 obtain ⟨hg1, hg2⟩ := sqM_matK (sqG_ok hx) (most := 6) (by decide) (by decide)
 change MatK 2 (sqM x 6) at hg1
 refine Runs.go Try.func5 rfl rfl (.refl _ _) ?_
 refine W.rseqZ ?_
 simp (disch := first | omega | (simp only [vd]; done) | (simp only [vd]; omega)) only [vs, reduceIte, Nat.reduceEqDiff, gridV, Value.cells]
 refine WF.d0 2 rfl (WF.done ?_)
 simp (disch := first | omega | (simp only [vd]; done) | (simp only [vd]; omega)) only [vs, reduceIte, Nat.reduceEqDiff]
 refine W.seq (W.rseq ?_)
 simp (disch := first | omega | (simp only [vd]; done) | (simp only [vd]; omega)) only [vs, reduceIte, Nat.reduceEqDiff]
 refine ha.large fun b hb => ?_
 cases b with
 | true =>
  simp (disch := first | omega | (simp only [vd]; done) | (simp only [vd]; omega)) only [vs, reduceIte, Nat.reduceEqDiff]
  refine W.cond true (by rfl) (fun _ => ?_) nofun
  refine W.rseq ?_
  simp (disch := first | omega | (simp only [vd]; done) | (simp only [vd]; omega)) only [vs, reduceIte, Nat.reduceEqDiff]
  refine awake_ok fun h1 hx1 => ?_
  simp (disch := first | omega | (simp only [vd]; done) | (simp only [vd]; omega)) only [vs, reduceIte, Nat.reduceEqDiff]
  refine W.ret ⟨.inr rfl, ?_⟩
  change Fin cfg _ _ _ _
  exact Fin.done (ress_1 rfl rfl) rfl
 | false =>
  have hb := hb rfl
  simp (disch := first | omega | (simp only [vd]; done) | (simp only [vd]; omega)) only [vs, reduceIte, Nat.reduceEqDiff]
  refine W.cond false (by rfl) nofun (fun _ => ?_)
  refine W.skip ?_
  simp (disch := first | omega | (simp only [vd]; done) | (simp only [vd]; omega)) only [vs, reduceIte, Nat.reduceEqDiff]
  refine W.rseq ?_
  simp (disch := first | omega | (simp only [vd]; done) | (simp only [vd]; omega)) only [vs, reduceIte, Nat.reduceEqDiff, ldGrid]
  refine Square_fz x 6 hx (by decide) (by decide) fun h1 hx1 => ?_
  simp (disch := first | omega | (simp only [vd]; done) | (simp only [vd]; omega)) only [vs, reduceIte, Nat.reduceEqDiff]
  have key : ∃ (l : List Raw) (b : Bool), Okl l ∧ ∀ (h : VH) (Q : Value → VH → Prop), (∀ h1, h.le h1 → Q (.tuple #[isV l, .bool b]) h1) → Runs Try.prog cfg 29 [mV (sqM x 6)] h Q ∧ Runs Try.prog cfg 19 [mV (sqM x 6)] h Q := by
   by_cases hs : IsSq (sqM x 6)
   ·exact ⟨leads (sqM x 6), true, leads_okl hg1 hs wd2, fun h Q hq => ⟨Leading_ok _ hg1 wd2 (fun _ => hq) (fun hh => absurd hs hh), rLeading_ok _ hg1 wd2 (fun _ => hq) (fun hh => absurd hs hh)⟩⟩
   ·exact ⟨[], false, okl_nil, fun h Q hq => ⟨Leading_ok _ hg1 wd2 (fun hh => absurd hh hs) (fun _ => hq), rLeading_ok _ hg1 wd2 (fun hh => absurd hh hs) (fun _ => hq)⟩⟩
  have key2 : ∃ (l : List Raw) (b : Bool), Okl l ∧ ∀ (h : VH) (Q : Value → VH → Prop), (∀ h1, h.le h1 → Q (.tuple #[isV l, .bool b]) h1) → Runs Try.prog cfg 29 [mV a] h Q ∧ Runs Try.prog cfg 19 [mV a] h Q := by
   by_cases hs : IsSq a
   ·exact ⟨leads a, true, leads_okl hb hs wd120, fun h Q hq => ⟨Leading_ok _ hb wd120 (fun _ => hq) (fun hh => absurd hs hh), rLeading_ok _ hb wd120 (fun _ => hq) (fun hh => absurd hs hh)⟩⟩
   ·exact ⟨[], false, okl_nil, fun h Q hq => ⟨Leading_ok _ hb wd120 (fun hh => absurd hh hs) (fun _ => hq), rLeading_ok _ hb wd120 (fun hh => absurd hh hs) (fun _ => hq)⟩⟩
  obtain ⟨l1, b1, ho1, k1⟩ := key
  obtain ⟨l2, b2, ho2, k2⟩ := key2
  refine (k1 _ _ fun h2 hx2 => ?_).1
  simp (disch := first | omega | (simp only [vd]; done) | (simp only [vd]; omega)) only [vs, reduceIte, Nat.reduceEqDiff, extV]
  refine W.rseq ?_
  simp (disch := first | omega | (simp only [vd]; done) | (simp only [vd]; omega)) only [vs, reduceIte, Nat.reduceEqDiff, ldGrid]
  refine Square_fz x 6 hx (by decide) (by decide) fun h3 hx3 => ?_
  simp (disch := first | omega | (simp only [vd]; done) | (simp only [vd]; omega)) only [vs, reduceIte, Nat.reduceEqDiff]
  refine (k1 _ _ fun h4 hx4 => ?_).2
  simp (disch := first | omega | (simp only [vd]; done) | (simp only [vd]; omega)) only [vs, reduceIte, Nat.reduceEqDiff, extV]
  refine W.rseq ?_
  simp (disch := first | omega | (simp only [vd]; done) | (simp only [vd]; omega)) only [vs, reduceIte, Nat.reduceEqDiff]
  refine (k2 _ _ fun h5 hx5 => ?_).1
  simp (disch := first | omega | (simp only [vd]; done) | (simp only [vd]; omega)) only [vs, reduceIte, Nat.reduceEqDiff, extV]
  refine W.rseq ?_
  simp (disch := first | omega | (simp only [vd]; done) | (simp only [vd]; omega)) only [vs, reduceIte, Nat.reduceEqDiff]
  refine (k2 _ _ fun h6 hx6 => ?_).2
  simp (disch := first | omega | (simp only [vd]; done) | (simp only [vd]; omega)) only [vs, reduceIte, Nat.reduceEqDiff, extV]
  refine W.gen [5, 6, 7, 8, 9, 10, 11, 12] (fun e he => ?_)
  simp only [List.forall_mem_cons, List.not_mem_nil, false_implies, implies_true, and_true, e0_zero, e0_succ, put_some, put_none, reduceIte, Nat.reduceEqDiff] at he
  obtain ⟨e5, e6, e7, e8, e9, e10, e11, e12⟩ := he
  refine W.rseq ?_
  simp (maxSteps := 3000000) (disch := first | omega | (simp only [vd]; done) | (simp only [vd]; omega)) only [vs, reduceIte, Nat.reduceEqDiff, e5, e6, e7, e8, e9, e10, e11, e12, beq_self_eq_true]
  refine r_SameList_ok l1 l1 ho1 ho1 fun h7 hx7 => ?_
  rw [decide_eq_true rfl]
  simp (maxSteps := 3000000) (disch := first | omega | (simp only [vd]; done) | (simp only [vd]; omega)) only [vs, reduceIte, Nat.reduceEqDiff, e9, e10, e11, e12, beq_self_eq_true]
  refine r_SameList_ok l2 l2 ho2 ho2 fun h8 hx8 => ?_
  rw [decide_eq_true rfl]
  simp (disch := first | omega | (simp only [vd]; done) | (simp only [vd]; omega)) only [vs, reduceIte, Nat.reduceEqDiff]
  refine awake_ok fun h9 hx9 => ?_
  simp (disch := first | omega | (simp only [vd]; done) | (simp only [vd]; omega)) only [vs, reduceIte, Nat.reduceEqDiff]
  refine W.ret ⟨.inr rfl, ?_⟩
  change Fin cfg _ _ _ _
  exact Fin.done (ress_1 rfl rfl) rfl
theorem BareissStages_runs (x : GridV) (hx : GridOk x) (a : List (List Raw)) (ha : InM a) : Runs Try.prog cfg 3 [gridV x, mV a] hp0 (fun v _ => v = .bool true) := by
 obtain ⟨hg1, hg2⟩ := sqM_matK (sqG_ok hx) (most := 5) (by decide) (by decide)
 change MatK 2 (sqM x 5) at hg1
 refine Runs.go Try.func3 rfl rfl (.refl _ _) ?_
 refine W.rseqZ ?_
 simp (disch := first | omega | (simp only [vd]; done) | (simp only [vd]; omega)) only [vs, reduceIte, Nat.reduceEqDiff, gridV, Value.cells]
 refine WF.d0 2 rfl (WF.done ?_)
 simp (disch := first | omega | (simp only [vd]; done) | (simp only [vd]; omega)) only [vs, reduceIte, Nat.reduceEqDiff]
 refine W.seq (W.rseq ?_)
 simp (disch := first | omega | (simp only [vd]; done) | (simp only [vd]; omega)) only [vs, reduceIte, Nat.reduceEqDiff]
 refine ha.large fun b hb => ?_
 cases b with
 | true =>
  simp (disch := first | omega | (simp only [vd]; done) | (simp only [vd]; omega)) only [vs, reduceIte, Nat.reduceEqDiff]
  refine W.cond true (by rfl) (fun _ => ?_) nofun
  refine W.rseq ?_
  simp (disch := first | omega | (simp only [vd]; done) | (simp only [vd]; omega)) only [vs, reduceIte, Nat.reduceEqDiff]
  refine awake_ok fun h1 hx1 => ?_
  simp (disch := first | omega | (simp only [vd]; done) | (simp only [vd]; omega)) only [vs, reduceIte, Nat.reduceEqDiff]
  refine W.ret ⟨.inr rfl, ?_⟩
  change Fin cfg _ _ _ _
  exact Fin.done (ress_1 rfl rfl) rfl
 | false =>
  have hb := hb rfl
  simp (disch := first | omega | (simp only [vd]; done) | (simp only [vd]; omega)) only [vs, reduceIte, Nat.reduceEqDiff]
  refine W.cond false (by rfl) nofun (fun _ => ?_)
  refine W.skip ?_
  simp (disch := first | omega | (simp only [vd]; done) | (simp only [vd]; omega)) only [vs, reduceIte, Nat.reduceEqDiff]
  refine W.rseq ?_
  simp (disch := first | omega | (simp only [vd]; done) | (simp only [vd]; omega)) only [vs, reduceIte, Nat.reduceEqDiff, ldGrid]
  refine Square_fz x 5 hx (by decide) (by decide) fun h1 hx1 => ?_
  simp (disch := first | omega | (simp only [vd]; done) | (simp only [vd]; omega)) only [vs, reduceIte, Nat.reduceEqDiff]
  have key : ∀ {K : Nat} (a : List (List Raw)), MatK K a → wd K 16 + 5 < 1099511627776 → ∃ (l : List (List (List Raw))) (b : Bool), (l.length < 1099511627776 ∧ ∀ i, Okm (l.getD i [])) ∧ ∀ (h : VH) (Q : Value → VH → Prop), (∀ h1, h.le h1 → Q (.tuple #[m3V l, .bool b]) h1) → Runs Try.prog cfg 15 [mV a] h Q ∧ Runs Try.prog cfg 17 [mV a] h Q := by
   intro K a hb hK
   by_cases hs : StOk a
   ·exact ⟨stagesM a, true, stages_okm hb hs.1 hK, fun h Q hq => ⟨Stages_ok _ hb hK (fun _ => hq) (fun hh => absurd hs hh), rStages_ok _ hb hK (fun _ => hq) (fun hh => absurd hs hh)⟩⟩
   ·exact ⟨[], false, okm_nil, fun h Q hq => ⟨Stages_ok _ hb hK (fun hh => absurd hh hs) (fun _ => hq), rStages_ok _ hb hK (fun hh => absurd hh hs) (fun _ => hq)⟩⟩
  obtain ⟨l1, b1, ho1, k1⟩ := key _ hg1 wd2
  obtain ⟨l2, b2, ho2, k2⟩ := key _ hb wd120
  refine (k1 _ _ fun h2 hx2 => ?_).1
  simp (disch := first | omega | (simp only [vd]; done) | (simp only [vd]; omega)) only [vs, reduceIte, Nat.reduceEqDiff, extV]
  refine W.rseq ?_
  simp (disch := first | omega | (simp only [vd]; done) | (simp only [vd]; omega)) only [vs, reduceIte, Nat.reduceEqDiff, ldGrid]
  refine Square_fz x 5 hx (by decide) (by decide) fun h3 hx3 => ?_
  simp (disch := first | omega | (simp only [vd]; done) | (simp only [vd]; omega)) only [vs, reduceIte, Nat.reduceEqDiff]
  refine (k1 _ _ fun h4 hx4 => ?_).2
  simp (disch := first | omega | (simp only [vd]; done) | (simp only [vd]; omega)) only [vs, reduceIte, Nat.reduceEqDiff, extV]
  refine W.rseq ?_
  simp (disch := first | omega | (simp only [vd]; done) | (simp only [vd]; omega)) only [vs, reduceIte, Nat.reduceEqDiff]
  refine (k2 _ _ fun h5 hx5 => ?_).1
  simp (disch := first | omega | (simp only [vd]; done) | (simp only [vd]; omega)) only [vs, reduceIte, Nat.reduceEqDiff, extV]
  refine W.rseq ?_
  simp (disch := first | omega | (simp only [vd]; done) | (simp only [vd]; omega)) only [vs, reduceIte, Nat.reduceEqDiff]
  refine (k2 _ _ fun h6 hx6 => ?_).2
  simp (disch := first | omega | (simp only [vd]; done) | (simp only [vd]; omega)) only [vs, reduceIte, Nat.reduceEqDiff, extV]
  refine W.gen [5, 6, 7, 8, 9, 10, 11, 12] (fun e he => ?_)
  simp only [List.forall_mem_cons, List.not_mem_nil, false_implies, implies_true, and_true, e0_zero, e0_succ, put_some, put_none, reduceIte, Nat.reduceEqDiff] at he
  obtain ⟨e5, e6, e7, e8, e9, e10, e11, e12⟩ := he
  refine W.rseq ?_
  simp (maxSteps := 3000000) (disch := first | omega | (simp only [vd]; done) | (simp only [vd]; omega)) only [vs, reduceIte, Nat.reduceEqDiff, e5, e6, e7, e8, e9, e10, e11, e12, beq_self_eq_true]
  refine sameStages_ok l1 l1 ho1 ho1 fun h7 hx7 => ?_
  rw [decide_eq_true rfl]
  simp (maxSteps := 3000000) (disch := first | omega | (simp only [vd]; done) | (simp only [vd]; omega)) only [vs, reduceIte, Nat.reduceEqDiff, e9, e10, e11, e12, beq_self_eq_true]
  refine sameStages_ok l2 l2 ho2 ho2 fun h8 hx8 => ?_
  rw [decide_eq_true rfl]
  simp (disch := first | omega | (simp only [vd]; done) | (simp only [vd]; omega)) only [vs, reduceIte, Nat.reduceEqDiff]
  refine awake_ok fun h9 hx9 => ?_
  simp (disch := first | omega | (simp only [vd]; done) | (simp only [vd]; omega)) only [vs, reduceIte, Nat.reduceEqDiff]
  refine W.ret ⟨.inr rfl, ?_⟩
  change Fin cfg _ _ _ _
  exact Fin.done (ress_1 rfl rfl) rfl
end Go.Proofs.Ytjpknabdmmkobaa
end

section
set_option maxRecDepth 20000
open Go Go.QM Go.Elim
namespace Go.Proofs.Ytjpknabdmmkobaa
variable {h : VH} {Q : Value → VH → Prop} {c : Cw Q}
variable {P : Raw → Prop} {n w i j k p : Nat} {R : List (List Raw)} {A : Fm}
def vecI (l : List Int) (n : Nat) : List Int := (List.range n).map fun i => l.getD i 0
theorem Vector_ok (l : List Int) (n : Nat) (hl : l.length < 4611686018427387904) (h8 : I8 l) (hn : n < 1099511627776) (hq : ∀ h1, h.le h1 → Q (nsV (vecI l n)) h1) : Runs Try.prog cfg 71 [i8V l, .int .i64 (n : Int)] h Q c := by
 have hbt : buildV cfg 117 [(0, i8V l)] = some (.agg #[i8V l, .int .i64 0]) := rfl
 refine Runs.go Try.func71 rfl rfl (.refl _ _) ?_
 refine W.rseq ?_
 simp (disch := first | omega | (simp only [vd]; done) | (simp only [vd]; omega)) only [vs, reduceIte, Nat.reduceEqDiff]
 refine W.rseq ?_
 simp (disch := first | omega | (simp only [vd]; done) | (simp only [vd]; omega)) only [vs, reduceIte, Nat.reduceEqDiff, hbt, Value.cells]
 have hcT := Cell.new (h := h) (t := 117) (cs := [i8V l, .int .i64 0])
 have hlT := VH.le_push h ⟨117, 0, [i8V l, .int .i64 0]⟩
 have hnT := next_push (h := h) (B := ⟨117, 0, [i8V l, .int .i64 0]⟩)
 generalize h.push ⟨117, 0, [i8V l, .int .i64 0]⟩ = G at *
 refine W.rseq ?_
 simp (disch := first | omega | (simp only [vd]; done) | (simp only [vd]; omega)) only [vs, reduceIte, Nat.reduceEqDiff, mkE_ok, Int.toNat_natCast]
 have hB0 := blk_push (h := G) (B := ⟨2, 1, zC (.int .i64 0) n⟩)
 have hlB := VH.le_push G ⟨2, 1, zC (.int .i64 0) n⟩
 have hcT2 := hcT.mono hlB
 have hbn : G.next < (G.push ⟨2, 1, zC (.int .i64 0) n⟩).next := Nat.lt_succ_self _
 generalize G.push ⟨2, 1, zC (.int .i64 0) n⟩ = H at *
 have hne : G.next ≠ h.next := by omega
 refine W.then (fun e' h' => e' 6 = slc G.next n ∧ Up h.next h h' ∧ ∃ cs, h'.blk G.next = some ⟨2, 1, cs⟩ ∧ cs = (vecI l n).map (Value.int .i64)) ?_ ?_
 ·skip
  refine W.rseq ?_
  simp (disch := first | omega | (simp only [vd]; done) | (simp only [vd]; omega)) only [vs, reduceIte, Nat.reduceEqDiff]
  refine W.gen [5, 6, 13, 14, 15] (fun e he => ?_)
  simp only [List.forall_mem_cons, List.not_mem_nil, false_implies, implies_true, and_true, e0_zero, e0_succ, put_some, put_none, reduceIte, Nat.reduceEqDiff] at he
  obtain ⟨e5, e6, e13, e14, e15⟩ := he
  refine W.range (fun i e h' => e 5 = .pointer (some ⟨h.next, 0, none⟩) ∧ e 6 = slc G.next n ∧ Up h.next h h' ∧ Cell h' h.next 117 [i8V l, .int .i64 ((min i l.length : Nat) : Int)] ∧ ∃ cs, h'.blk G.next = some ⟨2, 1, cs⟩ ∧ cs.length = n ∧ ∀ j, j < i → cs[j]? = some (.int .i64 (l.getD j 0))) n (by omega) rfl e15 e14
   ⟨e5, e6, .of_le (hlT.trans hlB) (Nat.le_refl _), by rw [Nat.zero_min]; exact hcT2, _, hB0, by rw [zC_len], fun j hj => by omega⟩ ?_ ?_
  ·rintro i e h' hi ei en' ⟨e5, e6, hu, hc, cs, hB, hcl, hcs⟩
   have hval : l.getD (min i l.length) 0 = l.getD i 0 := by
    by_cases hlt : i < l.length
    ·rw [Nat.min_eq_left (Nat.le_of_lt hlt)]
    ·rw [Nat.min_eq_right (Nat.le_of_not_lt hlt)]
     simp [List.getElem?_eq_none (Nat.le_of_not_lt hlt)]
   have hmm : min (min i l.length + 1) l.length = min (i + 1) l.length := by omega
   refine W.block ?_
   refine W.rseq ?_
   simp (disch := first | omega | (simp only [vd]; done) | (simp only [vd]; omega)) only [vs, reduceIte, Nat.reduceEqDiff, ei]
   refine W.reg ?_
   simp (disch := first | omega | (simp only [vd]; done) | (simp only [vd]; omega)) only [vs, reduceIte, Nat.reduceEqDiff, ei, e5, e6]
   refine Next_ok l h.next (min i l.length) hl h8 hc (by omega) ?_
   rw [hval, hmm]
   have hc2 := hc.set (cs' := [i8V l, .int .i64 ((min (i + 1) l.length : Nat) : Int)])
   have hB2 : (h'.set h.next (some ⟨117, 0, [i8V l, .int .i64 ((min (i + 1) l.length : Nat) : Int)]⟩)).blk G.next = some ⟨2, 1, cs⟩ := by rw [blk_set_ne hne]; exact hB
   have hu2 : Up h.next h (h'.set h.next (some ⟨117, 0, [i8V l, .int .i64 ((min (i + 1) l.length : Nat) : Int)]⟩)) := hu.trans (.set (Nat.le_refl _))
   generalize h'.set h.next (some ⟨117, 0, [i8V l, .int .i64 ((min (i + 1) l.length : Nat) : Int)]⟩) = G4 at *
   have hw := wr1_of (off := i) (v := .int .i64 (l.getD i 0)) hB2 (by show i < cs.length; omega)
   simp (disch := first | omega | (simp only [vd]; done) | (simp only [vd]; omega)) only [vs, reduceIte, Nat.reduceEqDiff, hw, Int.toNat_natCast, e5, e6, ei, en']
   refine ⟨hu2.trans (.set (by omega)), hc2.set_ne (Ne.symm hne), _, blk_set, by simp [hcl], fun j hj => ?_⟩
   by_cases hji : j = i
   ·subst hji; simp [hcl, hi]
   ·rw [List.getElem?_set_ne (Ne.symm hji)]; exact hcs j (by omega)
  ·rintro e h' ei ⟨e5, e6, hu, hc, cs, hB, hcl, hcs⟩
   simp (disch := first | omega | (simp only [vd]; done) | (simp only [vd]; omega)) only [vs, reduceIte, Nat.reduceEqDiff, e6]
   refine ⟨hu, cs, hB, List.ext_getElem? fun j => ?_⟩
   by_cases hj : j < n
   ·rw [hcs j hj]; simp [vecI, hj]
   ·rw [List.getElem?_eq_none (by omega), List.getElem?_eq_none (by simp [vecI]; omega)]
 ·rintro e h' ⟨e6, hu, cs, hB, rfl⟩
  refine W.rseq ?_
  simp (disch := first | omega | (simp only [vd]; done) | (simp only [vd]; omega)) only [vs, reduceIte, Nat.reduceEqDiff, e6]
  refine W.ret ⟨.inr rfl, ?_⟩
  change Fin cfg _ _ _ _
  refine Fin.one 4 G.next rfl hB ?_
  have hvl : (vecI l n).length = n := by simp [vecI]
  refine Fin.done (ress_1 (v1 := nsV (vecI l n)) rfl ?_) (hq _ ((hu.trans (.set (by omega))).le (VH.le_refl _) (Nat.le_refl _)))
  simp (disch := first | omega | (simp only [vd]; done) | (simp only [vd]; omega)) only [vs, reduceIte, Nat.reduceEqDiff]
  rw [fzT_sl rfl (by simp only [List.length_map, hvl, Nat.mul_one, Nat.zero_add]; exact Nat.le_refl _)]
  simp only [Nat.mul_one, List.drop_zero]
  rw [List.take_of_length_le (by simp [hvl])]
  unfold nsV vlV
  rw [hvl]
  rfl
def colI (l : List Int) (n : Nat) : List Raw := (List.range n).map fun i => cz (l.getD i 0)
theorem Column_ok (l : List Int) (n : Nat) (hl : l.length < 4611686018427387904) (h8 : I8 l) (hn : n < 1099511627776) (hq : ∀ h1, h.le h1 → Q (isV (colI l n)) h1) : Runs Try.prog cfg 31 [i8V l, .int .i64 (n : Int)] h Q c := by
 have hvl : (vecI l n).length = n := by simp [vecI]
 refine Runs.go Try.func31 rfl rfl (.refl _ _) ?_
 refine W.rseq ?_
 simp (disch := first | omega | (simp only [vd]; done) | (simp only [vd]; omega)) only [vs, reduceIte, Nat.reduceEqDiff]
 refine W.rseq ?_
 simp (disch := first | omega | (simp only [vd]; done) | (simp only [vd]; omega)) only [vs, reduceIte, Nat.reduceEqDiff]
 refine W.then (fun e' h' => OI h.next h' (e' 5) (colI l n) ∧ Up h.next h h') ?_ ?_
 ·skip
  refine W.rseq ?_
  simp (disch := first | omega | (simp only [vd]; done) | (simp only [vd]; omega)) only [vs, reduceIte, Nat.reduceEqDiff]
  refine Vector_ok l n hl h8 hn fun h1 hx1 => ?_
  simp (disch := first | omega | (simp only [vd]; done) | (simp only [vd]; omega)) only [vs, reduceIte, Nat.reduceEqDiff, hvl]
  refine W.gen [5, 10, 11, 12] (fun e he => ?_)
  simp only [List.forall_mem_cons, List.not_mem_nil, false_implies, implies_true, and_true, e0_zero, e0_succ, put_some, put_none, reduceIte, Nat.reduceEqDiff] at he
  obtain ⟨e5, e10, e11, e12⟩ := he
  refine W.range (fun i e h' => e 10 = nsV (vecI l n) ∧ OI h.next h' (e 5) ((List.range i).map fun i => cz (l.getD i 0)) ∧ Up h.next h h') n (by omega) rfl e12 e11 ⟨e10, by rw [e5]; exact OI.nil, .of_le hx1 (Nat.le_refl _)⟩ ?_ ?_
  ·rintro i e h2 hi ei en' ⟨e10, hO, hu⟩
   have hi' : i < (vecI l n).length := by omega
   have hg : (vecI l n).getD i 0 = l.getD i 0 := by simp [vecI, hi]
   have h8i := h8.at i
   refine W.block ?_
   refine W.rseq ?_
   simp (disch := first | omega | (simp only [vd]; done) | (simp only [vd]; omega)) only [vs, reduceIte, Nat.reduceEqDiff, ei, e10, Int.toNat_natCast, hg]
   refine W.reg ?_
   simp (disch := first | omega | (simp only [vd]; done) | (simp only [vd]; omega)) only [vs, reduceIte, Nat.reduceEqDiff, ei, e10]
   refine rSmall_r _ (by omega) (by omega) fun h3 hx3 => ?_
   obtain ⟨v', h4, k1, k2, k3, k4⟩ := (hO.mono hx3).app (cz (l.getD i 0)) (by simp; omega) (Nat.le_trans hu.1 hx3.1)
   simp (disch := first | omega | (simp only [vd]; done) | (simp only [vd]; omega)) only [vs, reduceIte, Nat.reduceEqDiff, hO.seen, k1, ei, en', e10]
   rw [k2.seen, range_map_succ]
   exact ⟨k2, (hu.trans (.of_le hx3 hu.1)).trans (.of_app (Nat.le_of_lt k4) (Nat.le_trans hu.1 hx3.1) k3)⟩
  ·rintro e h2 ei ⟨e10, hO, hu⟩
   simp (disch := first | omega | (simp only [vd]; done) | (simp only [vd]; omega)) only [vs, reduceIte, Nat.reduceEqDiff]
   exact ⟨hO, hu⟩
 ·rintro e h2 ⟨hO, hu⟩
  refine W.rseq ?_
  simp (disch := first | omega | (simp only [vd]; done) | (simp only [vd]; omega)) only [vs, reduceIte, Nat.reduceEqDiff, hO.seen]
  refine W.ret ⟨.inr rfl, ?_⟩
  change Fin cfg _ _ _ _
  refine Fin.own 4 rfl hO fun h3 hx3 _ => ?_
  exact Fin.done (ress_1 rfl rfl) (hq _ (hx3 _ (hu.le (VH.le_refl _) (Nat.le_refl _)) (Nat.le_refl _)))
theorem colI_lisK {l : List Int} {n : Nat} (h8 : I8 l) (hn : n < 1099511627776) : LisK 2 (colI l n) := by
 have hc : ∀ i, (colI l n).getD i raw0 = if i < n then cz (l.getD i 0) else raw0 := by
  intro i
  by_cases hi : i < n
  ·simp [colI, hi]
  ·rw [if_neg hi]; simp [colI, List.getElem?_eq_none (show (List.range n).length ≤ i by simp; omega)]
 refine ⟨fun i => ?_, fun i => ?_, by simp [colI]; exact hn⟩
 ·rw [hc]; split
  ·exact Lim_dig _
  ·exact Lim.nil
 ·rw [hc]; split
  ·have := h8.at i
   exact Sk.small (by omega) (by omega)
  ·exact Nat.zero_le _
end Go.Proofs.Ytjpknabdmmkobaa
end
