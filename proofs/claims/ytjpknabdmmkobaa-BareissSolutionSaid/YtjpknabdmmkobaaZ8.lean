/- Part 8 of the proof: Ma1, Ma2, Ma3, Zi, Ma4, Elim, Ma5, Ma6. -/
import Derived.Test.YtjpknabdmmkobaaZ7
set_option linter.unusedVariables false
set_option linter.unusedSimpArgs false
section
open Go Go.QM
namespace Go.Proofs.Ytjpknabdmmkobaa
variable {h : VH} {Q : Value → VH → Prop} {c : Cw Q}
def IsM {α : Type} (m : List (List α)) : Prop := 1 ≤ m.length ∧ m.length ≤ 16 ∧ 1 ≤ (m.getD 0 []).length ∧ (m.getD 0 []).length ≤ 16 ∧ ∀ i, i < m.length → (m.getD i []).length = (m.getD 0 []).length
instance {α : Type} (m : List (List α)) : Decidable (IsM m) := by unfold IsM; infer_instance
def Len {α : Type} (m : List (List α)) : Prop := m.length < 1099511627776 ∧ ∀ i, (m.getD i []).length < 1099511627776
theorem shape_ok (m : List (List Raw)) (hl : Len m) (hm : IsM m → Q (.tuple #[.int .i64 (m.length : Int), .int .i64 ((m.getD 0 []).length : Int), .bool true]) h) (hn : ¬ IsM m → Q (.tuple #[.int .i64 0, .int .i64 0, .bool false]) h) :
  Runs Try.prog cfg 98 [mV m] h Q c := by
 have z0 : (0 : Int).toNat = 0 := rfl
 have hl0 := hl.2 0
 refine Runs.go Try.func98 rfl rfl (.refl _ _) ?_
 refine W.rseq ?_
 simp (disch := first | omega | (simp only [vd]; done) | (simp only [vd]; omega)) only [vs, reduceIte, Nat.reduceEqDiff]
 by_cases h1 : 1 ≤ m.length ∧ m.length ≤ 16 ∧ 1 ≤ (m.getD 0 []).length ∧ (m.getD 0 []).length ≤ 16
 ·obtain ⟨a1, a2, a3, a4⟩ := h1
  refine W.seq (W.rseq ?_)
  simp (disch := first | omega | (simp only [vd]; done) | (simp only [vd]; omega)) only [vs, reduceIte, Nat.reduceEqDiff, z0]
  refine W.cond false (by rfl) nofun (fun _ => ?_)
  refine W.skip ?_
  simp (disch := first | omega | (simp only [vd]; done) | (simp only [vd]; omega)) only [vs, reduceIte, Nat.reduceEqDiff]
  refine W.seq (W.rseq ?_)
  simp (disch := first | omega | (simp only [vd]; done) | (simp only [vd]; omega)) only [vs, reduceIte, Nat.reduceEqDiff]
  refine W.gen [0, 29, 30, 31] (fun e he => ?_)
  simp only [List.forall_mem_cons, List.not_mem_nil, false_implies, implies_true, and_true, e0_zero, e0_succ, put_some, put_none, reduceIte, Nat.reduceEqDiff] at he
  obtain ⟨e0, e29, e30, e31⟩ := he
  refine W.range (fun i e h' => h' = h ∧ e 0 = mV m ∧ e 29 = mV m ∧ ∀ j, j < i → (m.getD j []).length = (m.getD 0 []).length) m.length (by omega) rfl e31 e30 ⟨rfl, e0, e29, fun j hj => by omega⟩ ?_ ?_
  ·rintro i e h' hi ei en ⟨rfl, e0, e29, hj⟩
   have hli := hl.2 i
   refine W.block ?_
   refine W.rseq ?_
   simp (disch := first | omega | (simp only [vd]; done) | (simp only [vd]; omega)) only [vs, reduceIte, Nat.reduceEqDiff, ei, e29, Int.toNat_natCast]
   by_cases he : (m.getD i []).length = (m.getD 0 []).length
   ·skip
    refine W.rseq ?_
    simp (disch := first | omega | (simp only [vd]; done) | (simp only [vd]; omega)) only [vs, reduceIte, Nat.reduceEqDiff, e0, z0]
    refine W.cond false (by rfl) nofun (fun _ => ?_)
    refine W.skip ?_
    simp (disch := first | omega | (simp only [vd]; done) | (simp only [vd]; omega)) only [vs, reduceIte, Nat.reduceEqDiff, ei, en, e0, e29]
    intro j hj2
    by_cases hji : j = i
    ·rw [hji]; exact he
    ·exact hj j (by omega)
   ·skip
    refine W.rseq ?_
    simp (disch := first | omega | (simp only [vd]; done) | (simp only [vd]; omega)) only [vs, reduceIte, Nat.reduceEqDiff, e0, z0]
    refine W.cond true (by rfl) (fun _ => ?_) nofun
    refine W.rseq ?_
    simp (disch := first | omega | (simp only [vd]; done) | (simp only [vd]; omega)) only [vs, reduceIte, Nat.reduceEqDiff]
    refine W.ret ⟨.inr rfl, ?_⟩
    change Fin cfg _ _ _ _
    exact Fin.done (ress_ttt rfl rfl rfl rfl) (hn (fun hh => he (hh.2.2.2.2 i hi)))
  ·rintro e h' ei ⟨rfl, e0, e29, hj⟩
   simp (disch := first | omega | (simp only [vd]; done) | (simp only [vd]; omega)) only [vs, reduceIte, Nat.reduceEqDiff]
   refine W.dseq (fun _ => True) (by rfl) ?_
   simp (disch := first | omega | (simp only [vd]; done) | (simp only [vd]; omega)) only [vs, reduceIte, Nat.reduceEqDiff, e0, z0]
   refine W.ret ⟨.inr rfl, ?_⟩
   change Fin cfg _ _ _ _
   exact Fin.done (ress_ttt rfl rfl rfl rfl) (hm ⟨a1, a2, a3, a4, hj⟩)
 ·have hno : ¬ IsM m := fun hh => h1 ⟨hh.1, hh.2.1, hh.2.2.1, hh.2.2.2.1⟩
  by_cases b1 : m.length < 1
  ·skip
   refine W.seq (W.rseq ?_)
   simp (disch := first | omega | (simp only [vd]; done) | (simp only [vd]; omega)) only [vs, reduceIte, Nat.reduceEqDiff, z0]
   refine W.cond true (by rfl) (fun _ => ?_) nofun
   refine W.rseq ?_
   simp (disch := first | omega | (simp only [vd]; done) | (simp only [vd]; omega)) only [vs, reduceIte, Nat.reduceEqDiff]
   refine W.ret ⟨.inr rfl, ?_⟩
   change Fin cfg _ _ _ _
   exact Fin.done (ress_ttt rfl rfl rfl rfl) (hn hno)
  by_cases b2 : 16 < m.length
  ·skip
   refine W.seq (W.rseq ?_)
   simp (disch := first | omega | (simp only [vd]; done) | (simp only [vd]; omega)) only [vs, reduceIte, Nat.reduceEqDiff, z0]
   refine W.cond true (by rfl) (fun _ => ?_) nofun
   refine W.rseq ?_
   simp (disch := first | omega | (simp only [vd]; done) | (simp only [vd]; omega)) only [vs, reduceIte, Nat.reduceEqDiff]
   refine W.ret ⟨.inr rfl, ?_⟩
   change Fin cfg _ _ _ _
   exact Fin.done (ress_ttt rfl rfl rfl rfl) (hn hno)
  by_cases b3 : (m.getD 0 []).length < 1
  ·skip
   refine W.seq (W.rseq ?_)
   simp (disch := first | omega | (simp only [vd]; done) | (simp only [vd]; omega)) only [vs, reduceIte, Nat.reduceEqDiff, z0]
   refine W.cond true (by rfl) (fun _ => ?_) nofun
   refine W.rseq ?_
   simp (disch := first | omega | (simp only [vd]; done) | (simp only [vd]; omega)) only [vs, reduceIte, Nat.reduceEqDiff]
   refine W.ret ⟨.inr rfl, ?_⟩
   change Fin cfg _ _ _ _
   exact Fin.done (ress_ttt rfl rfl rfl rfl) (hn hno)
  have b4 : 16 < (m.getD 0 []).length := by
   rcases Nat.lt_or_ge 16 (m.getD 0 []).length with h2 | h2
   ·exact h2
   ·exact absurd ⟨by omega, by omega, by omega, h2⟩ h1
  refine W.seq (W.rseq ?_)
  simp (disch := first | omega | (simp only [vd]; done) | (simp only [vd]; omega)) only [vs, reduceIte, Nat.reduceEqDiff, z0]
  refine W.cond true (by rfl) (fun _ => ?_) nofun
  refine W.rseq ?_
  simp (disch := first | omega | (simp only [vd]; done) | (simp only [vd]; omega)) only [vs, reduceIte, Nat.reduceEqDiff]
  refine W.ret ⟨.inr rfl, ?_⟩
  change Fin cfg _ _ _ _
  exact Fin.done (ress_ttt rfl rfl rfl rfl) (hn hno)
theorem Shape_ok (m : List (List Raw)) (hl : Len m) (hm : IsM m → Q (.tuple #[.int .i64 (m.length : Int), .int .i64 ((m.getD 0 []).length : Int), .bool true]) h) (hn : ¬ IsM m → Q (.tuple #[.int .i64 0, .int .i64 0, .bool false]) h) :
  Runs Try.prog cfg 86 [mV m] h Q c := by
 refine Runs.go Try.func86 rfl rfl (.refl _ _) ?_
 refine W.rseq ?_
 simp (disch := first | omega | (simp only [vd]; done) | (simp only [vd]; omega)) only [vs, reduceIte, Nat.reduceEqDiff]
 refine W.rseq ?_
 simp (disch := first | omega | (simp only [vd]; done) | (simp only [vd]; omega)) only [vs, reduceIte, Nat.reduceEqDiff]
 refine shape_ok m hl (fun hh => ?_) (fun hh => ?_)
 ·simp (disch := first | omega | (simp only [vd]; done) | (simp only [vd]; omega)) only [vs, reduceIte, Nat.reduceEqDiff, extV]
  refine W.ret ⟨.inr rfl, ?_⟩
  change Fin cfg _ _ _ _
  exact Fin.done (ress_ttt rfl rfl rfl rfl) (hm hh)
 ·simp (disch := first | omega | (simp only [vd]; done) | (simp only [vd]; omega)) only [vs, reduceIte, Nat.reduceEqDiff, extV]
  refine W.ret ⟨.inr rfl, ?_⟩
  change Fin cfg _ _ _ _
  exact Fin.done (ress_ttt rfl rfl rfl rfl) (hn hh)
theorem square_ok (m : List (List Raw)) (hl : Len m) (hm : IsM m → (m.getD 0 []).length = m.length → Q (.tuple #[.int .i64 (m.length : Int), .bool true]) h) (hn : ¬ (IsM m ∧ (m.getD 0 []).length = m.length) → ∀ n : Int, Q (.tuple #[.int .i64 n, .bool false]) h) :
  Runs Try.prog cfg 104 [mV m] h Q c := by
 refine Runs.go Try.func104 rfl rfl (.refl _ _) ?_
 refine W.rseq ?_
 simp (disch := first | omega | (simp only [vd]; done) | (simp only [vd]; omega)) only [vs, reduceIte, Nat.reduceEqDiff]
 refine W.rseq ?_
 simp (disch := first | omega | (simp only [vd]; done) | (simp only [vd]; omega)) only [vs, reduceIte, Nat.reduceEqDiff]
 refine shape_ok m hl (fun hh => ?_) (fun hh => ?_)
 ·simp (disch := first | omega | (simp only [vd]; done) | (simp only [vd]; omega)) only [vs, reduceIte, Nat.reduceEqDiff, extV]
  by_cases he : (m.getD 0 []).length = m.length
  ·have he2 : ((m.getD 0 []).length : Int) = m.length := by omega
   refine W.rseq ?_
   simp (disch := first | omega | (simp only [vd]; done) | (simp only [vd]; omega)) only [vs, reduceIte, Nat.reduceEqDiff, he2]
   refine W.ret ⟨.inr rfl, ?_⟩
   change Fin cfg _ _ _ _
   exact Fin.done (ress_tt rfl rfl rfl) (hm hh he)
  ·skip
   refine W.rseq ?_
   simp (disch := first | omega | (simp only [vd]; done) | (simp only [vd]; omega)) only [vs, reduceIte, Nat.reduceEqDiff]
   refine W.ret ⟨.inr rfl, ?_⟩
   change Fin cfg _ _ _ _
   exact Fin.done (ress_tt rfl rfl rfl) (hn (fun h2 => he h2.2) _)
 ·simp (disch := first | omega | (simp only [vd]; done) | (simp only [vd]; omega)) only [vs, reduceIte, Nat.reduceEqDiff, extV]
  refine W.rseq ?_
  simp (disch := first | omega | (simp only [vd]; done) | (simp only [vd]; omega)) only [vs, reduceIte, Nat.reduceEqDiff]
  refine W.ret ⟨.inr rfl, ?_⟩
  change Fin cfg _ _ _ _
  exact Fin.done (ress_tt rfl rfl rfl) (hn (fun h2 => hh h2.1) _)
theorem b_square_ok (m : List (List Raw)) (hl : Len m) (hm : IsM m → (m.getD 0 []).length = m.length → Q (.tuple #[.int .i64 (m.length : Int), .bool true]) h) (hn : ¬ (IsM m ∧ (m.getD 0 []).length = m.length) → ∀ n : Int, Q (.tuple #[.int .i64 n, .bool false]) h) :
  Runs Try.prog cfg 55 [mV m] h Q c := by
 refine Runs.go Try.func55 rfl rfl (.refl _ _) ?_
 refine W.rseq ?_
 simp (disch := first | omega | (simp only [vd]; done) | (simp only [vd]; omega)) only [vs, reduceIte, Nat.reduceEqDiff]
 refine W.rseq ?_
 simp (disch := first | omega | (simp only [vd]; done) | (simp only [vd]; omega)) only [vs, reduceIte, Nat.reduceEqDiff]
 refine Shape_ok m hl (fun hh => ?_) (fun hh => ?_)
 ·simp (disch := first | omega | (simp only [vd]; done) | (simp only [vd]; omega)) only [vs, reduceIte, Nat.reduceEqDiff, extV]
  by_cases he : (m.getD 0 []).length = m.length
  ·have he2 : ((m.getD 0 []).length : Int) = m.length := by omega
   refine W.rseq ?_
   simp (disch := first | omega | (simp only [vd]; done) | (simp only [vd]; omega)) only [vs, reduceIte, Nat.reduceEqDiff, he2]
   refine W.ret ⟨.inr rfl, ?_⟩
   change Fin cfg _ _ _ _
   exact Fin.done (ress_tt rfl rfl rfl) (hm hh he)
  ·skip
   refine W.rseq ?_
   simp (disch := first | omega | (simp only [vd]; done) | (simp only [vd]; omega)) only [vs, reduceIte, Nat.reduceEqDiff]
   refine W.ret ⟨.inr rfl, ?_⟩
   change Fin cfg _ _ _ _
   exact Fin.done (ress_tt rfl rfl rfl) (hn (fun h2 => he h2.2) _)
 ·simp (disch := first | omega | (simp only [vd]; done) | (simp only [vd]; omega)) only [vs, reduceIte, Nat.reduceEqDiff, extV]
  refine W.rseq ?_
  simp (disch := first | omega | (simp only [vd]; done) | (simp only [vd]; omega)) only [vs, reduceIte, Nat.reduceEqDiff]
  refine W.ret ⟨.inr rfl, ?_⟩
  change Fin cfg _ _ _ _
  exact Fin.done (ress_tt rfl rfl rfl) (hn (fun h2 => hh h2.1) _)
end Go.Proofs.Ytjpknabdmmkobaa
end

section
open Go Go.QM
namespace Go.Proofs.Ytjpknabdmmkobaa
variable {h : VH} {Q : Value → VH → Prop} {c : Cw Q}
theorem r_Shape_ok (m : List (List Raw)) (hl : Len m) (hm : IsM m → Q (.tuple #[.int .i64 (m.length : Int), .int .i64 ((m.getD 0 []).length : Int), .bool true]) h) (hn : ¬ IsM m → Q (.tuple #[.int .i64 0, .int .i64 0, .bool false]) h) :
  Runs Try.prog cfg 83 [mV m] h Q c := by
 have z0 : (0 : Int).toNat = 0 := rfl
 have hl0 := hl.2 0
 have hlm := hl.1
 refine Runs.go Try.func83 rfl rfl (.refl _ _) ?_
 refine W.rseq ?_
 simp (disch := first | omega | (simp only [vd]; done) | (simp only [vd]; omega)) only [vs, reduceIte, Nat.reduceEqDiff]
 by_cases h1 : 1 ≤ m.length ∧ m.length ≤ 16
 ·obtain ⟨a1, a2⟩ := h1
  refine W.seq (W.rseq ?_)
  simp (disch := first | omega | (simp only [vd]; done) | (simp only [vd]; omega)) only [vs, reduceIte, Nat.reduceEqDiff]
  refine W.cond false (by rfl) nofun (fun _ => ?_)
  refine W.skip ?_
  simp (disch := first | omega | (simp only [vd]; done) | (simp only [vd]; omega)) only [vs, reduceIte, Nat.reduceEqDiff]
  refine W.seq (W.rseq ?_)
  simp (disch := first | omega | (simp only [vd]; done) | (simp only [vd]; omega)) only [vs, reduceIte, Nat.reduceEqDiff]
  refine W.gen [0, 15, 16, 17] (fun e he => ?_)
  simp only [List.forall_mem_cons, List.not_mem_nil, false_implies, implies_true, and_true, e0_zero, e0_succ, put_some, put_none, reduceIte, Nat.reduceEqDiff] at he
  obtain ⟨e0, e15, e16, e17⟩ := he
  refine W.range (fun i e h' => h' = h ∧ e 0 = mV m ∧ e 15 = mV m ∧ ∀ j, j < i → 1 ≤ (m.getD j []).length ∧ (m.getD j []).length ≤ 16 ∧ (m.getD j []).length = (m.getD 0 []).length) m.length (by omega) rfl e17 e16 ⟨rfl, e0, e15, fun j hj => by omega⟩ ?_ ?_
  ·rintro i e h' hi ei en ⟨rfl, e0, e15, hj⟩
   have hli := hl.2 i
   refine W.block ?_
   refine W.rseq ?_
   simp (disch := first | omega | (simp only [vd]; done) | (simp only [vd]; omega)) only [vs, reduceIte, Nat.reduceEqDiff, ei, e15, Int.toNat_natCast]
   by_cases b1 : (m.getD i []).length < 1
   ·skip
    refine W.rseq ?_
    simp (disch := first | omega | (simp only [vd]; done) | (simp only [vd]; omega)) only [vs, reduceIte, Nat.reduceEqDiff, e0, z0]
    refine W.cond true (by rfl) (fun _ => ?_) nofun
    refine W.rseq ?_
    simp (disch := first | omega | (simp only [vd]; done) | (simp only [vd]; omega)) only [vs, reduceIte, Nat.reduceEqDiff]
    refine W.ret ⟨.inr rfl, ?_⟩
    change Fin cfg _ _ _ _
    exact Fin.done (ress_ttt rfl rfl rfl rfl) (hn (fun hh => by have := hh.2.2.2.2 i hi; have := hh.2.2.1; omega))
   by_cases b2 : 16 < (m.getD i []).length
   ·skip
    refine W.rseq ?_
    simp (disch := first | omega | (simp only [vd]; done) | (simp only [vd]; omega)) only [vs, reduceIte, Nat.reduceEqDiff, e0, z0]
    refine W.cond true (by rfl) (fun _ => ?_) nofun
    refine W.rseq ?_
    simp (disch := first | omega | (simp only [vd]; done) | (simp only [vd]; omega)) only [vs, reduceIte, Nat.reduceEqDiff]
    refine W.ret ⟨.inr rfl, ?_⟩
    change Fin cfg _ _ _ _
    exact Fin.done (ress_ttt rfl rfl rfl rfl) (hn (fun hh => by have := hh.2.2.2.2 i hi; have := hh.2.2.2.1; omega))
   by_cases he : (m.getD i []).length = (m.getD 0 []).length
   ·skip
    refine W.rseq ?_
    simp (disch := first | omega | (simp only [vd]; done) | (simp only [vd]; omega)) only [vs, reduceIte, Nat.reduceEqDiff, e0, z0]
    refine W.cond false (by rfl) nofun (fun _ => ?_)
    refine W.skip ?_
    simp (disch := first | omega | (simp only [vd]; done) | (simp only [vd]; omega)) only [vs, reduceIte, Nat.reduceEqDiff, ei, en, e0, e15]
    intro j hj2
    by_cases hji : j = i
    ·rw [hji]; exact ⟨by omega, by omega, he⟩
    ·exact hj j (by omega)
   ·skip
    refine W.rseq ?_
    simp (disch := first | omega | (simp only [vd]; done) | (simp only [vd]; omega)) only [vs, reduceIte, Nat.reduceEqDiff, e0, z0]
    refine W.cond true (by rfl) (fun _ => ?_) nofun
    refine W.rseq ?_
    simp (disch := first | omega | (simp only [vd]; done) | (simp only [vd]; omega)) only [vs, reduceIte, Nat.reduceEqDiff]
    refine W.ret ⟨.inr rfl, ?_⟩
    change Fin cfg _ _ _ _
    exact Fin.done (ress_ttt rfl rfl rfl rfl) (hn (fun hh => he (hh.2.2.2.2 i hi)))
  ·rintro e h' ei ⟨rfl, e0, e15, hj⟩
   simp (disch := first | omega | (simp only [vd]; done) | (simp only [vd]; omega)) only [vs, reduceIte, Nat.reduceEqDiff]
   refine W.dseq (fun _ => True) (by rfl) ?_
   simp (disch := first | omega | (simp only [vd]; done) | (simp only [vd]; omega)) only [vs, reduceIte, Nat.reduceEqDiff, e0, z0]
   refine W.ret ⟨.inr rfl, ?_⟩
   change Fin cfg _ _ _ _
   have h0 := hj 0 (by omega)
   exact Fin.done (ress_ttt rfl rfl rfl rfl) (hm ⟨a1, a2, h0.1, h0.2.1, fun i hi => (hj i hi).2.2⟩)
 ·have hno : ¬ IsM m := fun hh => h1 ⟨hh.1, hh.2.1⟩
  by_cases b1 : m.length < 1
  ·refine W.seq (W.rseq ?_)
   simp (disch := first | omega | (simp only [vd]; done) | (simp only [vd]; omega)) only [vs, reduceIte, Nat.reduceEqDiff]
   refine W.cond true (by rfl) (fun _ => ?_) nofun
   refine W.rseq ?_
   simp (disch := first | omega | (simp only [vd]; done) | (simp only [vd]; omega)) only [vs, reduceIte, Nat.reduceEqDiff]
   refine W.ret ⟨.inr rfl, ?_⟩
   change Fin cfg _ _ _ _
   exact Fin.done (ress_ttt rfl rfl rfl rfl) (hn hno)
  ·refine W.seq (W.rseq ?_)
   simp (disch := first | omega | (simp only [vd]; done) | (simp only [vd]; omega)) only [vs, reduceIte, Nat.reduceEqDiff]
   refine W.cond true (by rfl) (fun _ => ?_) nofun
   refine W.rseq ?_
   simp (disch := first | omega | (simp only [vd]; done) | (simp only [vd]; omega)) only [vs, reduceIte, Nat.reduceEqDiff]
   refine W.ret ⟨.inr rfl, ?_⟩
   change Fin cfg _ _ _ _
   exact Fin.done (ress_ttt rfl rfl rfl rfl) (hn hno)
theorem r_Square_ok (m : List (List Raw)) (hl : Len m) (hm : IsM m → (m.getD 0 []).length = m.length → Q (.tuple #[.int .i64 (m.length : Int), .bool true]) h) (hn : ¬ (IsM m ∧ (m.getD 0 []).length = m.length) → Q (.tuple #[.int .i64 0, .bool false]) h) :
  Runs Try.prog cfg 61 [mV m] h Q c := by
 refine Runs.go Try.func61 rfl rfl (.refl _ _) ?_
 refine W.rseq ?_
 simp (disch := first | omega | (simp only [vd]; done) | (simp only [vd]; omega)) only [vs, reduceIte, Nat.reduceEqDiff]
 refine W.rseq ?_
 simp (disch := first | omega | (simp only [vd]; done) | (simp only [vd]; omega)) only [vs, reduceIte, Nat.reduceEqDiff]
 refine r_Shape_ok m hl (fun hh => ?_) (fun hh => ?_)
 ·simp (disch := first | omega | (simp only [vd]; done) | (simp only [vd]; omega)) only [vs, reduceIte, Nat.reduceEqDiff, extV]
  by_cases he : (m.getD 0 []).length = m.length
  ·refine W.seq (W.rseq ?_)
   simp (disch := first | omega | (simp only [vd]; done) | (simp only [vd]; omega)) only [vs, reduceIte, Nat.reduceEqDiff, Bool.not_true, Bool.not_false]
   refine W.cond false (by rfl) nofun (fun _ => ?_)
   refine W.skip ?_
   simp (disch := first | omega | (simp only [vd]; done) | (simp only [vd]; omega)) only [vs, reduceIte, Nat.reduceEqDiff]
   refine W.rseq ?_
   simp (disch := first | omega | (simp only [vd]; done) | (simp only [vd]; omega)) only [vs, reduceIte, Nat.reduceEqDiff]
   refine W.ret ⟨.inr rfl, ?_⟩
   change Fin cfg _ _ _ _
   exact Fin.done (ress_tt rfl rfl rfl) (hm hh he)
  ·refine W.seq (W.rseq ?_)
   simp (disch := first | omega | (simp only [vd]; done) | (simp only [vd]; omega)) only [vs, reduceIte, Nat.reduceEqDiff, Bool.not_true, Bool.not_false]
   refine W.cond true (by rfl) (fun _ => ?_) nofun
   refine W.rseq ?_
   simp (disch := first | omega | (simp only [vd]; done) | (simp only [vd]; omega)) only [vs, reduceIte, Nat.reduceEqDiff]
   refine W.ret ⟨.inr rfl, ?_⟩
   change Fin cfg _ _ _ _
   exact Fin.done (ress_tt rfl rfl rfl) (hn (fun h2 => he h2.2))
 ·simp (disch := first | omega | (simp only [vd]; done) | (simp only [vd]; omega)) only [vs, reduceIte, Nat.reduceEqDiff, extV]
  refine W.seq (W.rseq ?_)
  simp (disch := first | omega | (simp only [vd]; done) | (simp only [vd]; omega)) only [vs, reduceIte, Nat.reduceEqDiff, Bool.not_true, Bool.not_false]
  refine W.cond true (by rfl) (fun _ => ?_) nofun
  refine W.rseq ?_
  simp (disch := first | omega | (simp only [vd]; done) | (simp only [vd]; omega)) only [vs, reduceIte, Nat.reduceEqDiff]
  refine W.ret ⟨.inr rfl, ?_⟩
  change Fin cfg _ _ _ _
  exact Fin.done (ress_tt rfl rfl rfl) (hn (fun h2 => hh h2.1))
end Go.Proofs.Ytjpknabdmmkobaa
end

section
open Go Go.QM
namespace Go.Proofs.Ytjpknabdmmkobaa
variable {h : VH} {Q : Value → VH → Prop} {c : Cw Q}
def Okl (a : List Raw) : Prop := a.length < 1099511627776 ∧ ∀ i, (a.getD i raw0).2.length < 1099511627776 ∧ Lim (a.getD i raw0).2
theorem ext_getD {α : Type} {a b : List α} (d : α) (hl : a.length = b.length) (h : ∀ j, j < a.length → a.getD j d = b.getD j d) : a = b := by
 refine List.ext_getElem hl fun i h1 h2 => ?_
 have := h i h1
 simpa [h1, h2] using this
theorem r_SameList_ok (a b : List Raw) (ha : Okl a) (hb : Okl b) (hq : ∀ h1, h.le h1 → Q (.bool (decide (a = b))) h1) : Runs Try.prog cfg 30 [isV a, isV b] h Q c := by
 obtain ⟨la, ha⟩ := ha
 obtain ⟨lb, hb⟩ := hb
 refine Runs.go Try.func30 rfl rfl (.refl _ _) ?_
 refine W.rseq ?_
 simp (disch := first | omega | (simp only [vd]; done) | (simp only [vd]; omega)) only [vs, reduceIte, Nat.reduceEqDiff]
 by_cases hl : a.length = b.length
 ·refine W.seq (W.rseq ?_)
  simp (disch := first | omega | (simp only [vd]; done) | (simp only [vd]; omega)) only [vs, reduceIte, Nat.reduceEqDiff]
  refine W.cond false (by rfl) nofun (fun _ => ?_)
  refine W.skip ?_
  simp (disch := first | omega | (simp only [vd]; done) | (simp only [vd]; omega)) only [vs, reduceIte, Nat.reduceEqDiff]
  refine W.seq (W.rseq ?_)
  simp (disch := first | omega | (simp only [vd]; done) | (simp only [vd]; omega)) only [vs, reduceIte, Nat.reduceEqDiff]
  refine W.gen [0, 1, 12, 13] (fun e he => ?_)
  simp only [List.forall_mem_cons, List.not_mem_nil, false_implies, implies_true, and_true, e0_zero, e0_succ, put_some, put_none, reduceIte, Nat.reduceEqDiff] at he
  obtain ⟨e0, e1, e12, e13⟩ := he
  refine W.range (fun i e h' => h.le h' ∧ e 0 = isV a ∧ e 1 = isV b ∧ ∀ j, j < i → a.getD j raw0 = b.getD j raw0) a.length (by omega) rfl e13 e12 ⟨VH.le_refl _, e0, e1, fun j hj => by omega⟩ ?_ ?_
  ·rintro i e h' hi ei en ⟨hle, e0, e1, hj⟩
   refine W.block ?_
   refine W.rseq ?_
   simp (disch := first | omega | (simp only [vd]; done) | (simp only [vd]; omega)) only [vs, reduceIte, Nat.reduceEqDiff, ei]
   refine W.dseq (fun _ => True) (by rfl) ?_
   simp (disch := first | omega | (simp only [vd]; done) | (simp only [vd]; omega)) only [vs, reduceIte, Nat.reduceEqDiff, e0, e1, Int.toNat_natCast]
   refine r_Same_ok (a.getD i raw0) (b.getD i raw0) (ha i).1 (hb i).1 (ha i).2 (hb i).2 fun h2 hx2 => ?_
   by_cases he : a.getD i raw0 = b.getD i raw0
   ·rw [decide_eq_true he]
    simp (disch := first | omega | (simp only [vd]; done) | (simp only [vd]; omega)) only [vs, reduceIte, Nat.reduceEqDiff, gr_le hx2, Bool.not_true]
    refine W.cond false (by rfl) nofun (fun _ => ?_)
    refine W.skip ?_
    simp (disch := first | omega | (simp only [vd]; done) | (simp only [vd]; omega)) only [vs, reduceIte, Nat.reduceEqDiff, ei, en, e0, e1]
    refine ⟨hle.trans hx2, fun j hj2 => ?_⟩
    by_cases hji : j = i
    ·rw [hji]; exact he
    ·exact hj j (by omega)
   ·rw [decide_eq_false he]
    simp (disch := first | omega | (simp only [vd]; done) | (simp only [vd]; omega)) only [vs, reduceIte, Nat.reduceEqDiff, gr_le hx2, Bool.not_false]
    refine W.cond true (by rfl) (fun _ => ?_) nofun
    refine W.rseq ?_
    simp (disch := first | omega | (simp only [vd]; done) | (simp only [vd]; omega)) only [vs, reduceIte, Nat.reduceEqDiff]
    rw [decide_eq_false (by rintro rfl; exact he rfl)] at hq
    exact W.ret ⟨.inr rfl, _, _, _, .refl _ _, ress_t rfl, hq _ (hle.trans hx2)⟩
  ·rintro e h' ei ⟨hle, e0, e1, hj⟩
   simp (disch := first | omega | (simp only [vd]; done) | (simp only [vd]; omega)) only [vs, reduceIte, Nat.reduceEqDiff]
   refine W.rseq ?_
   simp (disch := first | omega | (simp only [vd]; done) | (simp only [vd]; omega)) only [vs, reduceIte, Nat.reduceEqDiff]
   rw [decide_eq_true (ext_getD raw0 hl hj)] at hq
   exact W.ret ⟨.inr rfl, _, _, _, .refl _ _, ress_t rfl, hq _ hle⟩
 ·refine W.seq (W.rseq ?_)
  simp (disch := first | omega | (simp only [vd]; done) | (simp only [vd]; omega)) only [vs, reduceIte, Nat.reduceEqDiff]
  refine W.cond true (by rfl) (fun _ => ?_) nofun
  refine W.rseq ?_
  simp (disch := first | omega | (simp only [vd]; done) | (simp only [vd]; omega)) only [vs, reduceIte, Nat.reduceEqDiff]
  rw [decide_eq_false (by rintro rfl; exact hl rfl)] at hq
  exact W.ret ⟨.inr rfl, _, _, _, .refl _ _, ress_t rfl, hq _ (VH.le_refl _)⟩
def Okm (a : List (List Raw)) : Prop := a.length < 1099511627776 ∧ ∀ i, Okl (a.getD i [])
theorem Okm.len {a : List (List Raw)} (h : Okm a) : Len a := ⟨h.1, fun i => (h.2 i).1⟩
theorem r_SameM_ok (a b : List (List Raw)) (ha : Okm a) (hb : Okm b) (hq : ∀ h1, h.le h1 → Q (.bool (decide (a = b))) h1) : Runs Try.prog cfg 21 [mV a, mV b] h Q c := by
 obtain ⟨la, ha⟩ := ha
 obtain ⟨lb, hb⟩ := hb
 refine Runs.go Try.func21 rfl rfl (.refl _ _) ?_
 refine W.rseq ?_
 simp (disch := first | omega | (simp only [vd]; done) | (simp only [vd]; omega)) only [vs, reduceIte, Nat.reduceEqDiff]
 by_cases hl : a.length = b.length
 ·refine W.seq (W.rseq ?_)
  simp (disch := first | omega | (simp only [vd]; done) | (simp only [vd]; omega)) only [vs, reduceIte, Nat.reduceEqDiff]
  refine W.cond false (by rfl) nofun (fun _ => ?_)
  refine W.skip ?_
  simp (disch := first | omega | (simp only [vd]; done) | (simp only [vd]; omega)) only [vs, reduceIte, Nat.reduceEqDiff]
  refine W.seq (W.rseq ?_)
  simp (disch := first | omega | (simp only [vd]; done) | (simp only [vd]; omega)) only [vs, reduceIte, Nat.reduceEqDiff]
  refine W.gen [0, 1, 12, 13] (fun e he => ?_)
  simp only [List.forall_mem_cons, List.not_mem_nil, false_implies, implies_true, and_true, e0_zero, e0_succ, put_some, put_none, reduceIte, Nat.reduceEqDiff] at he
  obtain ⟨e0, e1, e12, e13⟩ := he
  refine W.range (fun i e h' => h.le h' ∧ e 0 = mV a ∧ e 1 = mV b ∧ ∀ j, j < i → a.getD j [] = b.getD j []) a.length (by omega) rfl e13 e12 ⟨VH.le_refl _, e0, e1, fun j hj => by omega⟩ ?_ ?_
  ·rintro i e h' hi ei en ⟨hle, e0, e1, hj⟩
   refine W.block ?_
   refine W.rseq ?_
   simp (disch := first | omega | (simp only [vd]; done) | (simp only [vd]; omega)) only [vs, reduceIte, Nat.reduceEqDiff, ei]
   refine W.dseq (fun _ => True) (by rfl) ?_
   simp (disch := first | omega | (simp only [vd]; done) | (simp only [vd]; omega)) only [vs, reduceIte, Nat.reduceEqDiff, e0, e1, Int.toNat_natCast]
   refine r_SameList_ok (a.getD i []) (b.getD i []) (ha i) (hb i) fun h2 hx2 => ?_
   by_cases he : a.getD i [] = b.getD i []
   ·rw [decide_eq_true he]
    simp (disch := first | omega | (simp only [vd]; done) | (simp only [vd]; omega)) only [vs, reduceIte, Nat.reduceEqDiff, gr_le hx2, Bool.not_true]
    refine W.cond false (by rfl) nofun (fun _ => ?_)
    refine W.skip ?_
    simp (disch := first | omega | (simp only [vd]; done) | (simp only [vd]; omega)) only [vs, reduceIte, Nat.reduceEqDiff, ei, en, e0, e1]
    refine ⟨hle.trans hx2, fun j hj2 => ?_⟩
    by_cases hji : j = i
    ·rw [hji]; exact he
    ·exact hj j (by omega)
   ·rw [decide_eq_false he]
    simp (disch := first | omega | (simp only [vd]; done) | (simp only [vd]; omega)) only [vs, reduceIte, Nat.reduceEqDiff, gr_le hx2, Bool.not_false]
    refine W.cond true (by rfl) (fun _ => ?_) nofun
    refine W.rseq ?_
    simp (disch := first | omega | (simp only [vd]; done) | (simp only [vd]; omega)) only [vs, reduceIte, Nat.reduceEqDiff]
    rw [decide_eq_false (by rintro rfl; exact he rfl)] at hq
    exact W.ret ⟨.inr rfl, _, _, _, .refl _ _, ress_t rfl, hq _ (hle.trans hx2)⟩
  ·rintro e h' ei ⟨hle, e0, e1, hj⟩
   simp (disch := first | omega | (simp only [vd]; done) | (simp only [vd]; omega)) only [vs, reduceIte, Nat.reduceEqDiff]
   refine W.rseq ?_
   simp (disch := first | omega | (simp only [vd]; done) | (simp only [vd]; omega)) only [vs, reduceIte, Nat.reduceEqDiff]
   rw [decide_eq_true (ext_getD [] hl hj)] at hq
   exact W.ret ⟨.inr rfl, _, _, _, .refl _ _, ress_t rfl, hq _ hle⟩
 ·refine W.seq (W.rseq ?_)
  simp (disch := first | omega | (simp only [vd]; done) | (simp only [vd]; omega)) only [vs, reduceIte, Nat.reduceEqDiff]
  refine W.cond true (by rfl) (fun _ => ?_) nofun
  refine W.rseq ?_
  simp (disch := first | omega | (simp only [vd]; done) | (simp only [vd]; omega)) only [vs, reduceIte, Nat.reduceEqDiff]
  rw [decide_eq_false (by rintro rfl; exact hl rfl)] at hq
  exact W.ret ⟨.inr rfl, _, _, _, .refl _ _, ress_t rfl, hq _ (VH.le_refl _)⟩
end Go.Proofs.Ytjpknabdmmkobaa
end

section
open Go Go.QM
namespace Go.Proofs.Ytjpknabdmmkobaa
variable {h : VH} {Q : Value → VH → Prop} {c : Cw Q}
def Okr (x : Raw) : Prop := x.2.length < 1099511627776 ∧ Lim x.2
def Sk (k : Nat) (z : Int) : Prop := (dig z.natAbs).length ≤ k
theorem Okr.cz {k : Nat} {z : Int} (hz : Sk k z) (hk : k < 1099511627776) : Okr (cz z) := ⟨Nat.lt_of_le_of_lt hz hk, Lim_dig _⟩
theorem Okr.zero : Okr raw0 := ⟨by decide, Lim.nil⟩
theorem iz_cz (z : Int) : iz (cz z) = z := by
 unfold iz cz sg
 simp only [nv_dig]
 split <;> rename_i h
 ·have := of_decide_eq_true h; omega
 ·have := of_decide_eq_false (Bool.not_eq_true _ ▸ h); omega
theorem cz_zero : cz 0 = raw0 := by
 unfold cz raw0
 simp [dig_zero]
theorem iz_zero : iz raw0 = 0 := rfl
theorem cz_inj {a b : Int} (h : cz a = cz b) : a = b := by rw [← iz_cz a, h, iz_cz]
theorem sg_natAbs (n : Bool) (x : Nat) : (sg n x).natAbs = x := sg_nat n x
theorem Sk.of_raw {x : Raw} {k : Nat} (hx : Lim x.2) (hk : x.2.length ≤ k) : Sk k (iz x) := by
 unfold Sk iz
 rw [sg_nat, ← trimL_dig hx]
 exact Nat.le_trans (trimL_len _) hk
theorem Sk.mono {k l : Nat} {z : Int} (h : Sk k z) (hkl : k ≤ l) : Sk l z := Nat.le_trans h hkl
theorem Sk.zero (k : Nat) : Sk k 0 := by unfold Sk; simp [dig_zero]
theorem Sk.mul {k l : Nat} {x y : Int} (hx : Sk k x) (hy : Sk l y) : Sk (k + l) (x * y) := by
 unfold Sk
 rw [Int.natAbs_mul]
 exact Nat.le_trans (dig_mul_le _ _) (Nat.add_le_add hx hy)
theorem Sk.add {k : Nat} {x y : Int} (hx : Sk k x) (hy : Sk k y) : Sk (k + 1) (x + y) := Nat.le_trans (dig_mono (Int.natAbs_add_le x y)) (dig_add_le hx hy)
theorem Sk.neg {k : Nat} {x : Int} (hx : Sk k x) : Sk k (-x) := by
 unfold Sk
 rw [Int.natAbs_neg]
 exact hx
theorem Sk.sub {k : Nat} {x y : Int} (hx : Sk k x) (hy : Sk k y) : Sk (k + 1) (x - y) := by
 rw [Int.sub_eq_add_neg]
 exact hx.add hy.neg
theorem Sk.le {k : Nat} {x y : Int} (hx : Sk k x) (h : y.natAbs ≤ x.natAbs) : Sk k y := Nat.le_trans (dig_mono h) hx
theorem natAbs_ediv_le' (x y : Int) : (x / y).natAbs ≤ x.natAbs := Int.natAbs_ediv_le_natAbs x y
theorem Sk.div {k : Nat} {x : Int} (hx : Sk k x) (y : Int) : Sk k (x / y) := hx.le (natAbs_ediv_le' x y)
theorem Sk.small {z : Int} (h1 : -18446744073709551616 < z) (h2 : z < 18446744073709551616) : Sk 2 z := dig_len.2 (by show z.natAbs < 4294967296 ^ 2; omega)
theorem Sk.rem {k : Nat} {x y : Int} (hx : Sk k x) (hy : Sk k y) : Sk k (remZ x y) := by
 unfold remZ
 split
 ·exact Sk.zero k
 ·rename_i h0
  refine hy.le ?_
  have h1 := Int.emod_nonneg x h0
  have h2 := Int.emod_lt x h0
  omega
section
variable (x y : Raw) (hx : Okr x) (hy : Okr y)
theorem big_of {n : Nat} (h : n < 1099511627776) : n < 4611686018427387904 := by omega
include hx
theorem Normalize_r (hq : ∀ h1, h.le h1 → Q (iV (cz (iz x))) h1) : Runs Try.prog cfg 93 [iV x] h Q c := Normalize_ok x.1 x.2 hx.1 hx.2 hq
theorem Sign_r (hq : ∀ h1, h.le h1 → Q (.int .i64 (iz x).sign) h1) : Runs Try.prog cfg 58 [iV x] h Q c := Sign_ok x.1 x.2 (big_of hx.1) hx.2 hq
theorem Neg_r (hq : ∀ h1, h.le h1 → Q (iV (cz (- iz x))) h1) : Runs Try.prog cfg 116 [iV x] h Q c := Neg_ok x.1 x.2 hx.1 hx.2 hq
theorem rNormalize_r (hq : ∀ h1, h.le h1 → Q (iV (cz (iz x))) h1) : Runs Try.prog cfg 64 [iV x] h Q c := r_Normalize_ok x.1 x.2 hx.1 hx.2 hq
theorem rSign_r (hq : ∀ h1, h.le h1 → Q (.int .i64 (iz x).sign) h1) : Runs Try.prog cfg 20 [iV x] h Q c := r_Sign_ok x.1 x.2 hx.1 hx.2 hq
theorem rNeg_r (hq : ∀ h1, h.le h1 → Q (iV (cz (- iz x))) h1) : Runs Try.prog cfg 47 [iV x] h Q c := r_Neg_ok x.1 x.2 hx.1 hx.2 hq
omit hx
theorem iz_nat : (iz x).natAbs = nv x.2 := by rw [iz, sg_nat]
include hx
theorem rAbs_r (hq : ∀ h1, h.le h1 → Q (iV (cz ((iz x).natAbs : Int))) h1) : Runs Try.prog cfg 119 [iV x] h Q c := r_Abs_ok x.1 x.2 hx.1 hx.2 (by rw [iz_nat] at hq; exact hq)
include hy
theorem Add_r (hq : ∀ h1, h.le h1 → Q (iV (cz (iz x + iz y))) h1) : Runs Try.prog cfg 109 [iV x, iV y] h Q c := Add_ok x.1 y.1 x.2 y.2 hx.1 hy.1 hx.2 hy.2 hq
theorem Sub_r (hq : ∀ h1, h.le h1 → Q (iV (cz (iz x - iz y))) h1) : Runs Try.prog cfg 87 [iV x, iV y] h Q c := Sub_ok x.1 y.1 x.2 y.2 hx.1 hy.1 hx.2 hy.2 hq
theorem Mul_r (hq : ∀ h1, h.le h1 → Q (iV (cz (iz x * iz y))) h1) : Runs Try.prog cfg 88 [iV x, iV y] h Q c := Mul_ok x.1 y.1 x.2 y.2 hx.1 hy.1 hx.2 hy.2 hq
theorem Cmp_r (hq : ∀ h1, h.le h1 → Q (.int .i64 (iz x - iz y).sign) h1) : Runs Try.prog cfg 81 [iV x, iV y] h Q c := Cmp_ok x.1 y.1 x.2 y.2 hx.1 hy.1 hx.2 hy.2 hq
theorem DivMod_r (hq : ∀ (ok : Bool) h1, h.le h1 → Q (.tuple #[iV (cz (iz x / iz y)), iV (cz (remZ (iz x) (iz y))), .bool ok]) h1) : Runs Try.prog cfg 89 [iV x, iV y] h Q c := DivMod_all x.1 y.1 x.2 y.2 hx.1 hy.1 hx.2 hy.2 hq
theorem Gcd_r (hq : ∀ h1, h.le h1 → Q (iV (cz (Int.gcd (iz x) (iz y) : Int))) h1) : Runs Try.prog cfg 129 [iV x, iV y] h Q c := Gcd_ok x.1 y.1 x.2 y.2 hx.1 hy.1 hx.2 hy.2 (by simp only [Int.gcd, iz_nat] at hq; exact hq)
theorem rAdd_r (hq : ∀ h1, h.le h1 → Q (iV (cz (iz x + iz y))) h1) : Runs Try.prog cfg 40 [iV x, iV y] h Q c := r_Add_ok x.1 y.1 x.2 y.2 hx.1 hy.1 hx.2 hy.2 hq
theorem rSub_r (hq : ∀ h1, h.le h1 → Q (iV (cz (iz x - iz y))) h1) : Runs Try.prog cfg 26 [iV x, iV y] h Q c := r_Sub_ok x.1 y.1 x.2 y.2 hx.1 hy.1 hx.2 hy.2 hq
theorem rMul_r (hq : ∀ h1, h.le h1 → Q (iV (cz (iz x * iz y))) h1) : Runs Try.prog cfg 25 [iV x, iV y] h Q c := r_Mul_ok x.1 y.1 x.2 y.2 hx.1 hy.1 hx.2 hy.2 hq
theorem rCmp_r (hq : ∀ h1, h.le h1 → Q (.int .i64 (iz x - iz y).sign) h1) : Runs Try.prog cfg 24 [iV x, iV y] h Q c := r_Cmp_ok x.1 y.1 x.2 y.2 hx.1 hy.1 hx.2 hy.2 hq
theorem rDivMod_r (hq : ∀ (ok : Bool) h1, h.le h1 → Q (.tuple #[iV (cz (iz x / iz y)), iV (cz (remZ (iz x) (iz y))), .bool ok]) h1) : Runs Try.prog cfg 97 [iV x, iV y] h Q c := r_DivMod_all x.1 y.1 x.2 y.2 hx.1 hy.1 hx.2 hy.2 hq
theorem rQuo_r (hq : ∀ h1, h.le h1 → Q (iV (cz (iz x / iz y))) h1) : Runs Try.prog cfg 68 [iV x, iV y] h Q c := r_Quo_ok x.1 y.1 x.2 y.2 hx.1 hy.1 hx.2 hy.2 hq
theorem rRem_r (hq : ∀ h1, h.le h1 → Q (iV (cz (remZ (iz x) (iz y)))) h1) : Runs Try.prog cfg 120 [iV x, iV y] h Q c := r_Rem_ok x.1 y.1 x.2 y.2 hx.1 hy.1 hx.2 hy.2 hq
theorem rGcd_r (hq : ∀ h1, h.le h1 → Q (iV (cz (Int.gcd (iz x) (iz y) : Int))) h1) : Runs Try.prog cfg 106 [iV x, iV y] h Q c := r_Gcd_ok x.1 y.1 x.2 y.2 hx.1 hy.1 hx.2 hy.2 (by simp only [Int.gcd, iz_nat] at hq; exact hq)
end
theorem Small_r (n : Int) (h1 : -9223372036854775808 ≤ n) (h2 : n < 9223372036854775808) (hq : ∀ h1, h.le h1 → Q (iV (cz n)) h1) : Runs Try.prog cfg 57 [.int .i64 n] h Q c := Small_ok n h1 h2 hq
theorem rSmall_r (n : Int) (h1 : -9223372036854775808 ≤ n) (h2 : n < 9223372036854775808) (hq : ∀ h1, h.le h1 → Q (iV (cz n)) h1) : Runs Try.prog cfg 23 [.int .i64 n] h Q c := r_Small_ok n h1 h2 hq
def OI (n0 : Nat) (h : VH) (v : Value) (l : List Raw) : Prop := Own n0 39 2 h v l.length (l.flatMap iC)
def OR (n0 : Nat) (h : VH) (v : Value) (l : List (List Raw)) : Prop := Own n0 34 1 h v l.length (l.map isV)
def ON (n0 : Nat) (h : VH) (v : Value) (l : List Int) : Prop := Own n0 3 1 h v l.length (l.map (Value.int .i64))
def OM (n0 : Nat) (h : VH) (v : Value) (l : List (List (List Raw))) : Prop := Own n0 25 1 h v l.length (l.map mV)
theorem own_app {t ty sz s' b' bb : Nat} {z z' : Value} {kk : TK} {α : Type} {cl : α → List Value} {h : VH} {n0 : Nat} {v : Value} {l : List α} {x : α} (hcl : ∀ x, (cl x).length = sz) (ho : Own n0 ty sz h v l.length (l.flatMap cl)) (ht : cfg.T t = some ⟨.slice ty, s', b', z⟩) (he : cfg.T ty = some ⟨kk, sz, bb, z'⟩)
  (hsz : 0 < sz) (hbb : bb ≤ 64) (hl : l.length < 1099511627776) (hn0 : n0 ≤ h.next) (xs : List Value) (hxs : xs = cl x) :
  ∃ v' h', appV cfg t v (.slice (some ⟨h.next, 0, none⟩) 1 1) (h.push ⟨ty, sz, xs⟩) = some (v', h') ∧ Own n0 ty sz h' v' (l ++ [x]).length ((l ++ [x]).flatMap cl) ∧ (∀ g : VH, g.le h → g.next ≤ n0 → g.le h') ∧ h.next < h'.next := by
 subst hxs
 obtain ⟨v', h', h1, h2, h3, h4, _⟩ := (ho.mono (VH.le_push h ⟨ty, sz, cl x⟩)).app (C := cfg) (t := t) (m := 1) rfl ht he (rdS_p rfl (by rw [hcl, Nat.one_mul])) (by decide) (by rw [hcl, Nat.one_mul]) hsz (Nat.le_trans (Nat.mul_le_mul (show _ ≤ 1099511627776 by omega) hbb) (by decide)) (by omega) (by simp only [next_push]; omega)
 refine ⟨v', h', h1, ?_, fun g hg hg2 => h3 g (hg.trans (VH.le_push _ _)) hg2, by rw [h4, next_push]; omega⟩
 rw [List.flatMap_append, List.length_append]
 simpa using h2
theorem OI.app {h : VH} {n0 : Nat} {v : Value} {l : List Raw} (x : Raw) (ho : OI n0 h v l) (hl : l.length < 1099511627776) (hn0 : n0 ≤ h.next) :
  ∃ v' h', appV cfg 34 v (.slice (some ⟨h.next, 0, none⟩) 1 1) (h.push ⟨39, 2, [.bool x.1, u32S x.2]⟩) = some (v', h') ∧ OI n0 h' v' (l ++ [x]) ∧ (∀ g : VH, g.le h → g.next ≤ n0 → g.le h') ∧ h.next < h'.next :=
 own_app iC_len ho t_Sapi_Int t_api_Int (by decide) (by decide) hl hn0 _ rfl
theorem OR.app {h : VH} {n0 : Nat} {v : Value} {l : List (List Raw)} (x : List Raw) (ho : OR n0 h v l) (hl : l.length < 1099511627776) (hn0 : n0 ≤ h.next) :
  ∃ v' h', appV cfg 25 v (.slice (some ⟨h.next, 0, none⟩) 1 1) (h.push ⟨34, 1, [isV x]⟩) = some (v', h') ∧ OR n0 h' v' (l ++ [x]) ∧ (∀ g : VH, g.le h → g.next ≤ n0 → g.le h') ∧ h.next < h'.next := by
 unfold OR at *
 rw [← flat_one] at *
 exact own_app (sz := 1) (fun _ => rfl) ho t_SSapi_Int t_Sapi_Int (by decide) (by decide) hl hn0 _ rfl
theorem ON.app {h : VH} {n0 : Nat} {v : Value} {l : List Int} (x : Int) (ho : ON n0 h v l) (hl : l.length < 1099511627776) (hn0 : n0 ≤ h.next) :
  ∃ v' h', appV cfg 72 v (.slice (some ⟨h.next, 0, none⟩) 1 1) (h.push ⟨3, 1, [.int .i64 x]⟩) = some (v', h') ∧ ON n0 h' v' (l ++ [x]) ∧ (∀ g : VH, g.le h → g.next ≤ n0 → g.le h') ∧ h.next < h'.next := by
 unfold ON at *
 rw [← flat_one] at *
 exact own_app (sz := 1) (fun _ => rfl) ho t_Sint t_int (by decide) (by decide) hl hn0 _ rfl
theorem OM.app {h : VH} {n0 : Nat} {v : Value} {l : List (List (List Raw))} (x : List (List Raw)) (ho : OM n0 h v l) (hl : l.length < 1099511627776) (hn0 : n0 ≤ h.next) :
  ∃ v' h', appV cfg 28 v (.slice (some ⟨h.next, 0, none⟩) 1 1) (h.push ⟨25, 1, [mV x]⟩) = some (v', h') ∧ OM n0 h' v' (l ++ [x]) ∧ (∀ g : VH, g.le h → g.next ≤ n0 → g.le h') ∧ h.next < h'.next := by
 unfold OM at *
 rw [← flat_one] at *
 exact own_app (sz := 1) (fun _ => rfl) ho t_SSSapi_Int t_SSapi_Int (by decide) (by decide) hl hn0 _ rfl
theorem OI.nil {n0 : Nat} : OI n0 h (.slice none 0 0) [] := Own.nil
theorem OR.nil {n0 : Nat} : OR n0 h (.slice none 0 0) [] := Own.nil
theorem ON.nil {n0 : Nat} : ON n0 h (.slice none 0 0) [] := Own.nil
theorem OM.nil {n0 : Nat} : OM n0 h (.slice none 0 0) [] := Own.nil
end Go.Proofs.Ytjpknabdmmkobaa
end

section
open Go Go.QM
namespace Go.Proofs.Ytjpknabdmmkobaa
variable {h : VH} {Q : Value → VH → Prop} {c : Cw Q}
def mkI : MK Raw := ⟨34, 39, 2, iC, iC_len, by decide⟩
abbrev slc (b n : Nat) : Value := .slice (some ⟨b, 0, none⟩) n n
abbrev norm (x : Raw) : Raw := cz (iz x)
def normM (m : List (List Raw)) : List (List Raw) := m.map (·.map norm)
theorem iz_norm (x : Raw) : iz (norm x) = iz x := iz_cz _
theorem Okl.at {l : List Raw} (h : Okl l) (i : Nat) : Okr (l.getD i raw0) := h.2 i
theorem Okm.at {m : List (List Raw)} (h : Okm m) (i j : Nat) : Okr ((m.getD i []).getD j raw0) := (h.2 i).at j
theorem take_map_succ {α β : Type} {l : List α} {j : Nat} {d : α} {f : α → β} (hj : j < l.length) : (l.take (j + 1)).map f = (l.take j).map f ++ [f (l.getD j d)] := by
 rw [List.take_add_one, List.map_append]
 simp [hj]
theorem mkI_app {h h1 : VH} {n0 b i : Nat} {R : List (List Raw)} {w : Value} (x : Raw) (hm : MM mkI n0 h b R) (hi : i < R.length) (hn : n0 ≤ h.next) (hlen : (R.getD i []).length < 1099511627776) (hl : h.le h1) (hw : rd1 h b i = some w) :
  ∃ w' h2 h3, appV cfg 34 w (.slice (some ⟨h1.next, 0, none⟩) 1 1) (h1.push ⟨39, 2, [.bool x.1, u32S x.2]⟩) = some (w', h2) ∧ QM.seen w' = w' ∧ cellsV w' = some [w'] ∧ wr1 h2 b i w' = some h3 ∧ MM mkI n0 h3 b (R.set i (R.getD i [] ++ [x])) ∧ Up n0 h1 h3 ∧ Grow0 (h1.push ⟨39, 2, [.bool x.1, u32S x.2]⟩) h2 ∧ Grow0 h2 h3 ∧ h1.next < h3.next ∧
   (∀ r t cs, Cell h1 r t cs → Cell h3 r t cs) := by
 obtain ⟨w', h2, h3, k1, k2, k3, k4, k5, k6, k7, k8, k9, k10, k11, k12⟩ := hm.appRow (C := cfg) (t := 34) (x := x) hi hn rfl t_Sapi_Int t_api_Int (by decide) hlen hl rfl hw
 exact ⟨w', h2, h3, k1, k2, k3, k4, k5, k6.trans k7, k9, k10, k11, k12⟩
theorem rCopy_ok (m : List (List Raw)) (hm : Okm m) (hq : ∀ b h1, h.le h1 → MM mkI h.next h1 b (normM m) → Q (.slice (some ⟨b, 0, none⟩) m.length m.length) h1) :
  Runs Try.prog cfg 22 [mV m] h Q c := by
 have hml := hm.1
 refine Runs.go Try.func22 rfl rfl (.refl _ _) ?_
 refine W.rseq ?_
 simp (disch := first | omega | (simp only [vd]; done) | (simp only [vd]; omega)) only [vs, reduceIte, Nat.reduceEqDiff]
 refine W.rseq ?_
 simp (disch := first | omega | (simp only [vd]; done) | (simp only [vd]; omega)) only [vs, reduceIte, Nat.reduceEqDiff, mkE_ok, Int.toNat_natCast]
 have h0 : MM mkI h.next (h.push ⟨34, 1, zC (.slice none 0 0) m.length⟩) h.next (List.replicate m.length []) := MM.new (zC_one rfl m.length) (Nat.le_refl _)
 have hle := VH.le_push h ⟨34, 1, zC (.slice none 0 0) m.length⟩
 generalize h.push ⟨34, 1, zC (.slice none 0 0) m.length⟩ = H at *
 refine W.then (fun e' h' => e' 3 = slc h.next m.length ∧ MM mkI h.next h' h.next (normM m) ∧ h.le h') ?_ ?_
 ·skip
  refine W.rseq ?_
  simp (disch := first | omega | (simp only [vd]; done) | (simp only [vd]; omega)) only [vs, reduceIte, Nat.reduceEqDiff]
  refine W.gen [0, 3, 10, 11, 12] (fun e he => ?_)
  simp only [List.forall_mem_cons, List.not_mem_nil, false_implies, implies_true, and_true, e0_zero, e0_succ, put_some, put_none, reduceIte, Nat.reduceEqDiff] at he
  obtain ⟨e0, e3, e10, e11, e12⟩ := he
  refine W.range (fun i e h' => e 0 = mV m ∧ e 10 = mV m ∧ e 3 = slc h.next m.length ∧ ∃ R, MM mkI h.next h' h.next R ∧ h.le h' ∧ R.length = m.length ∧ (∀ j, j < i → R.getD j [] = (m.getD j []).map norm) ∧ ∀ j, i ≤ j → R.getD j [] = []) m.length (by omega) rfl e12 e11
   ⟨e0, e10, e3, _, h0, hle, by simp, fun j hj => by omega, fun j _ => by simp [List.getElem?_replicate]; split <;> rfl⟩ ?_ ?_
  ·rintro i e h' hi ei en ⟨e0, e10, e3, R, hR, hle, hRl, hRi, hRj⟩
   have hrl := (hm.2 i).1
   refine W.block ?_
   refine W.rseq ?_
   simp (disch := first | omega | (simp only [vd]; done) | (simp only [vd]; omega)) only [vs, reduceIte, Nat.reduceEqDiff, ei]
   refine W.rseq ?_
   simp (disch := first | omega | (simp only [vd]; done) | (simp only [vd]; omega)) only [vs, reduceIte, Nat.reduceEqDiff, e0, Int.toNat_natCast]
   refine W.gen [0, 3, 4, 10, 11, 12, 18, 19, 20] (fun e he => ?_)
   simp only [List.forall_mem_cons, List.not_mem_nil, false_implies, implies_true, and_true, e0_zero, e0_succ, put_some, put_none, reduceIte, Nat.reduceEqDiff, ei, en, e0, e3, e10] at he
   obtain ⟨e0, e3, e4, e10, e11, e12, e18, e19, e20⟩ := he
   refine W.range (fun j e h' => e 0 = mV m ∧ e 3 = slc h.next m.length ∧ e 4 = .int .i64 (i : Int) ∧ e 10 = mV m ∧ e 11 = .int .i64 (m.length : Int) ∧ e 12 = .int .i64 (i : Int) ∧ e 18 = isV (m.getD i []) ∧ ∃ R, MM mkI h.next h' h.next R ∧ h.le h' ∧ R.length = m.length ∧ (∀ j, j < i → R.getD j [] = (m.getD j []).map norm) ∧ (∀ j, i < j → R.getD j [] = []) ∧ R.getD i [] = ((m.getD i []).take j).map norm) (m.getD i []).length (by omega) rfl e20 e19
    ⟨e0, e3, e4, e10, e11, e12, e18, R, hR, hle, hRl, hRi, fun j hj => hRj j (by omega), by rw [hRj i (Nat.le_refl _)]; simp⟩ ?_ ?_
   ·rintro j e h' hj ej en ⟨e0, e3, e4, e10, e11, e12, e18, R, hR, hle, hRl, hRi, hRj, hRk⟩
    refine W.block ?_
    refine W.rseq ?_
    simp (disch := first | omega | (simp only [vd]; done) | (simp only [vd]; omega)) only [vs, reduceIte, Nat.reduceEqDiff, ej, e18, Int.toNat_natCast, Value.cells]
    have hcG : Cell (h'.push ⟨39, 0, [.bool ((m.getD i []).getD j raw0).1, u32S ((m.getD i []).getD j raw0).2]⟩) h'.next 39 [.bool ((m.getD i []).getD j raw0).1, u32S ((m.getD i []).getD j raw0).2] := Cell.new
    have hlG := VH.le_push h' ⟨39, 0, [.bool ((m.getD i []).getD j raw0).1, u32S ((m.getD i []).getD j raw0).2]⟩
    have hnG := next_push (h := h') (B := ⟨39, 0, [.bool ((m.getD i []).getD j raw0).1, u32S ((m.getD i []).getD j raw0).2]⟩)
    generalize h'.push ⟨39, 0, [.bool ((m.getD i []).getD j raw0).1, u32S ((m.getD i []).getD j raw0).2]⟩ = G at *
    have hiR : i < R.length := by omega
    obtain ⟨w, hw, hws, hbn, hwl⟩ := (hR.mono hlG).head hiR
    refine W.drawL (fun _ => True) [false, false, false, false, false, false, false, true, false, false, false, false] (by rfl) ?_
    simp (disch := first | omega | (simp only [vd]; done) | (simp only [vd]; omega)) only [vs, reduceIte, Nat.reduceEqDiff, e3, e4, Int.toNat_natCast, hw, hws, hcG.rd2]
    refine rNormalize_r _ (hm.at i j) fun h1 hx1 => ?_
    obtain ⟨w', h2, h3, k1, k2, kc, k3, k4, k5, k6, k7, k8, k9⟩ := mkI_app (norm ((m.getD i []).getD j raw0)) (hR.mono hlG) hiR (by have := hle.1; omega) (by rw [hRk]; simp; omega) hx1 hw
    have hg1 : Grow0 G h1 := ⟨hx1.1, fun y hy hn => by rw [hx1.2 y hy]; exact hn⟩
    have hk := fun (B : Blk) => gr0_push (h := h1) (B := B)
    simp (disch := first | omega | (simp only [vd]; done) | (simp only [vd]; omega)) only [vs, reduceIte, Nat.reduceEqDiff, gr_le hx1, k1, k2, k3, hws, st_one kc, Int.toNat_natCast]
    refine ⟨k6, ?_⟩
    refine ⟨k7, ?_⟩
    simp (disch := first | omega | (simp only [vd]; done) | (simp only [vd]; omega)) only [vs, reduceIte, Nat.reduceEqDiff, ej, en, e0, e3, e4, e10, e11, e12, e18]
    refine ⟨_, k4, (k5.le (hle.trans (hlG.trans hx1)) (Nat.le_refl _)), by simpa using hRl, fun j' hj' => ?_, fun j' hj' => ?_, ?_⟩
    ·rw [List.getD_eq_getElem?_getD, List.getElem?_set_ne (by omega), ← List.getD_eq_getElem?_getD]
     exact hRi j' hj'
    ·rw [List.getD_eq_getElem?_getD, List.getElem?_set_ne (by omega), ← List.getD_eq_getElem?_getD]
     exact hRj j' hj'
    ·rw [getD_set hiR, if_pos rfl, hRk, take_map_succ hj]
   ·rintro e h' ej ⟨e0, e3, e4, e10, e11, e12, e18, R, hR, hle, hRl, hRi, hRj, hRk⟩
    simp (disch := first | omega | (simp only [vd]; done) | (simp only [vd]; omega)) only [vs, reduceIte, Nat.reduceEqDiff, e11, e12, e0, e3, e10]
    refine ⟨R, hR, hle, hRl, fun j hj => ?_, fun j hj => hRj j (by omega)⟩
    by_cases hji : j = i
    ·rw [hji, hRk, List.take_length]
    ·exact hRi j (by omega)
  ·rintro e h' ei ⟨e0, e10, e3, R, hR, hle, hRl, hRi, hRj⟩
   have : R = normM m := ext_getD [] (by simpa [normM] using hRl) (fun j hj => by
    rw [hRi j (by omega)]
    simp [normM, show j < m.length by omega])
   subst this
   simp (disch := first | omega | (simp only [vd]; done) | (simp only [vd]; omega)) only [vs, reduceIte, Nat.reduceEqDiff, e3]
   exact ⟨hR, hle⟩
 ·rintro e h' ⟨e3, hR, hle⟩
  refine W.rseq ?_
  simp (disch := first | omega | (simp only [vd]; done) | (simp only [vd]; omega)) only [vs, reduceIte, Nat.reduceEqDiff, e3]
  refine W.ret ⟨.inr rfl, ?_⟩
  change Fin cfg _ _ _ _
  exact Fin.done (ress_1 rfl rfl) (hq _ _ hle hR)
end Go.Proofs.Ytjpknabdmmkobaa
end

section
namespace Go.Elim
abbrev Fm := Nat → Nat → Int
def stp (A : Fm) (last : Int) (k i j : Nat) : Fm := fun i' j' => if k < i' ∧ k < j' ∧ (i' < i ∨ (i' = i ∧ j' < j)) then (A k k * A i' j' - A i' k * A k j') / last else A i' j'
def step (A : Fm) (last : Int) (k : Nat) : Fm := fun i' j' => if k < i' ∧ k < j' then (A k k * A i' j' - A i' k * A k j') / last else A i' j'
def swp (A : Fm) (p k : Nat) : Fm := fun i j => A (if i = p then k else if i = k then p else i) j
def piv (A : Fm) (k : Nat) : Nat → Nat → Option Nat
 | 0, p => none
 | m + 1, p => if A p k = 0 then piv A k m (p + 1) else some p
def elim : Nat → Nat → Fm → Int → Bool → Int
 | 0, k, A, last, neg => if neg then -last else last
 | m + 1, k, A, last, neg => match piv A k (m + 1) k with
  | none => 0
  | some p => if p = k then elim m (k + 1) (step A last k) (A k k) neg else elim m (k + 1) (step (swp A p k) last k) (swp A p k k k) (!neg)
def det (n : Nat) (A : Fm) : Int := elim n 0 A 1 false
theorem stp_zero (A : Fm) (last : Int) (k j : Nat) : stp A last k (k + 1) j = stp A last k (k + 1) (k + 1) ∨ k + 1 < j := by
 rcases Nat.lt_or_ge (k + 1) j with h | h
 ·exact .inr h
 ·refine .inl ?_
  funext i' j'
  unfold stp
  have h1 : (k < i' ∧ k < j' ∧ (i' < k + 1 ∨ (i' = k + 1 ∧ j' < j))) ↔ (k < i' ∧ k < j' ∧ (i' < k + 1 ∨ (i' = k + 1 ∧ j' < k + 1))) := by omega
  simp only [h1]
theorem stp_start (A : Fm) (last : Int) (k : Nat) : stp A last k (k + 1) (k + 1) = A := by
 funext i' j'
 unfold stp
 rw [if_neg (by omega)]
theorem stp_at {A : Fm} {last : Int} {k i j i' j' : Nat} (h : i' ≤ k ∨ j' ≤ k ∨ i < i' ∨ (i' = i ∧ j ≤ j')) : stp A last k i j i' j' = A i' j' := by
 unfold stp
 rw [if_neg (by omega)]
theorem stp_next {A : Fm} {last : Int} {k i j i' j' : Nat} (hi : k < i) (hj : k < j) :
  stp A last k i (j + 1) i' j' = if i' = i ∧ j' = j then (stp A last k i j k k * stp A last k i j i j - stp A last k i j i k * stp A last k i j k j) / last else stp A last k i j i' j' := by
 rw [stp_at (i' := k) (j' := k) (by omega), stp_at (i' := i) (j' := j) (by omega), stp_at (i' := i) (j' := k) (by omega), stp_at (i' := k) (j' := j) (by omega)]
 by_cases h : i' = i ∧ j' = j
 ·obtain ⟨rfl, rfl⟩ := h
  rw [if_pos ⟨rfl, rfl⟩, stp, if_pos (by omega)]
 ·rw [if_neg h]
  unfold stp
  have h1 : (k < i' ∧ k < j' ∧ (i' < i ∨ (i' = i ∧ j' < j + 1))) ↔ (k < i' ∧ k < j' ∧ (i' < i ∨ (i' = i ∧ j' < j))) := by omega
  simp only [h1]
theorem stp_row {A : Fm} {last : Int} {k i n i' j' : Nat} (hj : j' < n) : stp A last k i n i' j' = stp A last k (i + 1) (k + 1) i' j' := by
 unfold stp
 have h1 : (k < i' ∧ k < j' ∧ (i' < i ∨ (i' = i ∧ j' < n))) ↔ (k < i' ∧ k < j' ∧ (i' < i + 1 ∨ (i' = i + 1 ∧ j' < k + 1))) := by omega
 simp only [h1]
theorem stp_end {A : Fm} {last : Int} {k n i' j' : Nat} (hi : i' < n) : stp A last k n (k + 1) i' j' = step A last k i' j' := by
 unfold stp step
 have h1 : (k < i' ∧ k < j' ∧ (i' < n ∨ (i' = n ∧ j' < k + 1))) ↔ (k < i' ∧ k < j') := by omega
 simp only [h1]
theorem piv_none {A : Fm} {k : Nat} : ∀ {m p : Nat}, (∀ q, p ≤ q → q < p + m → A q k = 0) → piv A k m p = none
 | 0, p, h => rfl
 | m + 1, p, h => by
  unfold piv
  rw [if_pos (h p (Nat.le_refl _) (by omega))]
  exact piv_none (fun q h1 h2 => h q (by omega) (by omega))
theorem piv_some {A : Fm} {k : Nat} : ∀ {m p q : Nat}, p ≤ q → q < p + m → (∀ r, p ≤ r → r < q → A r k = 0) → A q k ≠ 0 → piv A k m p = some q
 | 0, p, q, h1, h2, h3, h4 => by omega
 | m + 1, p, q, h1, h2, h3, h4 => by
  unfold piv
  by_cases hpq : p = q
  ·subst hpq
   rw [if_neg h4]
  ·rw [if_pos (h3 p (Nat.le_refl _) (by omega))]
   exact piv_some (by omega) (by omega) (fun r h5 h6 => h3 r (by omega) h6) h4
def Eqm (n : Nat) (A B : Fm) : Prop := ∀ i j, i < n → j < n → A i j = B i j
theorem piv_congr {n k : Nat} {A B : Fm} (h : Eqm n A B) (hk : k < n) : ∀ {m p : Nat}, p + m ≤ n → piv A k m p = piv B k m p
 | 0, p, _ => rfl
 | m + 1, p, hp => by
  unfold piv
  rw [h p k (by omega) hk, piv_congr h hk (m := m) (p := p + 1) (by omega)]
theorem piv_lt {A : Fm} {k : Nat} : ∀ {m p q : Nat}, piv A k m p = some q → p ≤ q ∧ q < p + m ∧ A q k ≠ 0
 | 0, p, q, h => by cases h
 | m + 1, p, q, h => by
  unfold piv at h
  split at h
  ·have := piv_lt h
   exact ⟨by omega, by omega, this.2.2⟩
  ·rename_i h0
   injection h with h
   subst h
   exact ⟨Nat.le_refl _, by omega, h0⟩
theorem step_congr {n k : Nat} {A B : Fm} (h : Eqm n A B) (hk : k < n) (last : Int) : Eqm n (step A last k) (step B last k) := by
 intro i j hi hj
 unfold step
 rw [h k k hk hk, h i j hi hj, h i k hi hk, h k j hk hj]
theorem swp_congr {n k p : Nat} {A B : Fm} (h : Eqm n A B) (hk : k < n) (hp : p < n) : Eqm n (swp A p k) (swp B p k) := by
 intro i j hi hj
 unfold swp
 exact h _ _ (by split <;> (try split) <;> omega) hj
theorem elim_congr {n : Nat} : ∀ {m k : Nat} {A B : Fm} {last : Int} {neg : Bool}, Eqm n A B → k + m ≤ n → elim m k A last neg = elim m k B last neg
 | 0, k, A, B, last, neg, h, hk => rfl
 | m + 1, k, A, B, last, neg, h, hk => by
  unfold elim
  rw [piv_congr h (by omega) (by omega)]
  cases hp : piv B k (m + 1) k with
  | none => rfl
  | some p =>
   have hpl := piv_lt hp
   simp only
   have hs := swp_congr h (show k < n by omega) (show p < n by omega)
   rw [h k k (by omega) (by omega), hs k k (by omega) (by omega), elim_congr (step_congr h (by omega) last) (by omega), elim_congr (step_congr hs (by omega) last) (by omega)]
theorem det_congr {n : Nat} {A B : Fm} (h : Eqm n A B) : det n A = det n B := elim_congr h (by omega)
def wd (K : Nat) : Nat → Nat
 | 0 => K
 | k + 1 => 2 * wd K k + 1
theorem wd_le (K : Nat) {k l : Nat} (h : k ≤ l) : wd K k ≤ wd K l := by
 induction h with
 | refl => exact Nat.le_refl _
 | step _ ih => exact Nat.le_trans ih (by show _ ≤ 2 * wd K _ + 1; omega)
theorem wd_mono {K L : Nat} (h : K ≤ L) : ∀ k, wd K k ≤ wd L k
 | 0 => h
 | k + 1 => by have := wd_mono h k; show 2 * wd K k + 1 ≤ 2 * wd L k + 1; omega
end Go.Elim
end

section
set_option maxRecDepth 20000
open Go Go.QM Go.Elim
namespace Go.Proofs.Ytjpknabdmmkobaa
variable {h : VH} {Q : Value → VH → Prop} {c : Cw Q}
abbrev ent (R : List (List Raw)) (i j : Nat) : Raw := (R.getD i []).getD j raw0
structure Rel (P : Raw → Prop) (n : Nat) (R : List (List Raw)) (A : Fm) (w : Nat) : Prop where
 rows : R.length = n
 cols : ∀ i, i < n → (R.getD i []).length = n
 lim : ∀ i j, i < n → j < n → Lim (ent R i j).2
 len : ∀ i j, i < n → j < n → (ent R i j).2.length ≤ w
 val : ∀ i j, i < n → j < n → iz (ent R i j) = A i j
 pr : ∀ i j, i < n → j < n → P (ent R i j)
variable {P : Raw → Prop} {n w i j k p : Nat} {R : List (List Raw)} {A : Fm}
theorem Rel.okr (hr : Rel P n R A w) (hi : i < n) (hj : j < n) (hw : w < 1099511627776) : Okr (ent R i j) := ⟨Nat.lt_of_le_of_lt (hr.len i j hi hj) hw, hr.lim i j hi hj⟩
theorem Rel.sk (hr : Rel P n R A w) (hi : i < n) (hj : j < n) : Sk w (A i j) := by rw [← hr.val i j hi hj]; exact Sk.of_raw (hr.lim i j hi hj) (hr.len i j hi hj)
theorem Rel.congr {B : Fm} (hr : Rel P n R A w) (h : Eqm n A B) : Rel P n R B w := ⟨hr.rows, hr.cols, hr.lim, hr.len, fun i j hi hj => (hr.val i j hi hj).trans (h i j hi hj), hr.pr⟩
theorem Rel.up {w' : Nat} (hr : Rel P n R A w) (h : w ≤ w') : Rel P n R A w' := ⟨hr.rows, hr.cols, hr.lim, fun i j hi hj => Nat.le_trans (hr.len i j hi hj) h, hr.val, hr.pr⟩
theorem getD_set' {α : Type} {l : List α} {i j : Nat} {x d : α} : (l.set i x).getD j d = if j = i ∧ i < l.length then x else l.getD j d := by
 by_cases hj : j < l.length
 ·rw [QM.getD_set hj]
  by_cases hji : j = i
  ·rw [if_pos hji, if_pos ⟨hji, by omega⟩]
  ·rw [if_neg hji, if_neg (fun hh => hji hh.1)]
 ·rw [if_neg (by omega)]
  simp [List.getElem?_eq_none (show l.length ≤ j by omega), List.getElem?_eq_none (show (l.set i x).length ≤ j by simp; omega)]
theorem Rel.set {x : Raw} {v : Int} {B : Fm} (hr : Rel P n R A w) (hi : i < n) (hj : j < n) (hx : Lim x.2) (hl : x.2.length ≤ w) (hv : iz x = v) (hp : P x) (hB : ∀ i' j', i' < n → j' < n → B i' j' = if i' = i ∧ j' = j then v else A i' j') :
  Rel P n (R.set i ((R.getD i []).set j x)) B w := by
 have hrow : ∀ i', i' < n → (R.set i ((R.getD i []).set j x)).getD i' [] = if i' = i then (R.getD i []).set j x else R.getD i' [] := fun i' hi' => QM.getD_set (by rw [hr.rows]; exact hi')
 have he : ∀ i' j', i' < n → j' < n → ent (R.set i ((R.getD i []).set j x)) i' j' = if i' = i ∧ j' = j then x else ent R i' j' := by
  intro i' j' hi' hj'
  unfold ent
  rw [hrow i' hi']
  by_cases h1 : i' = i
  ·subst h1
   rw [if_pos rfl, QM.getD_set (by rw [hr.cols i' hi']; exact hj')]
   by_cases h2 : j' = j
   ·rw [if_pos h2, if_pos ⟨rfl, h2⟩]
   ·rw [if_neg h2, if_neg (fun hh => h2 hh.2)]
  ·rw [if_neg h1, if_neg (fun hh => h1 hh.1)]
 refine ⟨by rw [List.length_set]; exact hr.rows, fun i' hi' => ?_, fun i' j' hi' hj' => ?_, fun i' j' hi' hj' => ?_, fun i' j' hi' hj' => ?_, fun i' j' hi' hj' => ?_⟩
 ·rw [hrow i' hi']
  split
  ·rw [List.length_set]; exact hr.cols i hi
  ·exact hr.cols i' hi'
 ·rw [he i' j' hi' hj']
  split
  ·exact hx
  ·exact hr.lim i' j' hi' hj'
 ·rw [he i' j' hi' hj']
  split
  ·exact hl
  ·exact hr.len i' j' hi' hj'
 ·rw [he i' j' hi' hj', hB i' j' hi' hj']
  split
  ·exact hv
  ·exact hr.val i' j' hi' hj'
 ·rw [he i' j' hi' hj']
  split
  ·exact hp
  ·exact hr.pr i' j' hi' hj'
theorem Rel.swap (hr : Rel P n R A w) (hp : p < n) (hk : k < n) : Rel P n ((R.set p (R.getD k [])).set k (R.getD p [])) (swp A p k) w := by
 have hrow : ∀ i', i' < n → ((R.set p (R.getD k [])).set k (R.getD p [])).getD i' [] = R.getD (if i' = p then k else if i' = k then p else i') [] := by
  intro i' hi'
  rw [QM.getD_set (by rw [List.length_set, hr.rows]; exact hi'), QM.getD_set (by rw [hr.rows]; exact hi')]
  by_cases h1 : i' = k
  ·subst h1
   rw [if_pos rfl]
   by_cases h2 : i' = p
   ·rw [if_pos h2, h2]
   ·rw [if_neg h2, if_pos rfl]
  ·rw [if_neg h1]
   by_cases h2 : i' = p
   ·rw [if_pos h2, if_pos h2]
   ·rw [if_neg h2, if_neg h2, if_neg h1]
 have hlt : ∀ i', i' < n → (if i' = p then k else if i' = k then p else i') < n := by
  intro i' hi'
  split
  ·exact hk
  ·split
   ·exact hp
   ·exact hi'
 refine ⟨by simp [hr.rows], fun i' hi' => ?_, fun i' j' hi' hj' => ?_, fun i' j' hi' hj' => ?_, fun i' j' hi' hj' => ?_, fun i' j' hi' hj' => ?_⟩
 ·rw [hrow i' hi']; exact hr.cols _ (hlt i' hi')
 ·unfold ent; rw [hrow i' hi']; exact hr.lim _ _ (hlt i' hi') hj'
 ·unfold ent; rw [hrow i' hi']; exact hr.len _ _ (hlt i' hi') hj'
 ·unfold ent; rw [hrow i' hi']; exact hr.val _ _ (hlt i' hi') hj'
 ·unfold ent; rw [hrow i' hi']; exact hr.pr _ _ (hlt i' hi') hj'
theorem mkI_make {n0 b : Nat} (hm : MM mkI n0 h b R) (hi : i < R.length) (hn : n0 ≤ h.next) (hw : 0 < w) :
  ∃ h2, wr1 (h.push ⟨39, 2, zC (.agg #[.bool false, .slice none 0 0]) (w * 2)⟩) b i (.slice (some ⟨h.next, 0, none⟩) w w) = some h2 ∧ h2.blk h.next = some ⟨39, 2, zC (.agg #[.bool false, .slice none 0 0]) (w * 2)⟩ ∧ MM mkI n0 (h2.set h.next (some ⟨39, 2, (zC (.agg #[.bool false, .slice none 0 0]) (w * 2)).map nil1⟩)) b (R.set i (List.replicate w raw0)) ∧ Up n0 h (h2.set h.next (some ⟨39, 2, (zC (.agg #[.bool false, .slice none 0 0]) (w * 2)).map nil1⟩)) ∧ h2.next = h.next + 1 ∧
   ∀ r t cs, Cell h r t cs → Cell (h2.set h.next (some ⟨39, 2, (zC (.agg #[.bool false, .slice none 0 0]) (w * 2)).map nil1⟩)) r t cs := by
 have h1 := hm.make (l := List.replicate w raw0) (zs := zC (.agg #[.bool false, .slice none 0 0]) (w * 2)) hi hn (fun e => by have := congrArg List.length e; simp at this; omega) (by rw [zC_two, nil1_zero]; rfl)
 simp only [List.length_replicate] at h1
 exact h1
theorem mkI_row {n0 b : Nat} (hm : MM mkI n0 h b R) (hi : i < R.length) (hr : 0 < (R.getD i []).length) :
  ∃ c, rd1 h b i = some (slc c (R.getD i []).length) ∧ h.blk c = some ⟨39, 2, (R.getD i []).flatMap iC⟩ ∧ n0 ≤ c ∧ c < h.next ∧ b < h.next ∧ n0 ≤ b ∧
   ∀ h2, h.le h2 → ∀ r, r.length = (R.getD i []).length → MM mkI n0 (h2.set c (some ⟨39, 2, r.flatMap iC⟩)) b (R.set i r) := by
 obtain ⟨c, h1, h2, h3, h4, h5, h6, h7⟩ := hm.row hi hr
 refine ⟨c, h1, h2, h3, h4, h5, h6, fun g hg r hrl => ?_⟩
 obtain ⟨c', k1, k2, k3, k4, k5, k6, k7⟩ := (hm.mono hg).row hi hr
 rw [rd1_le hg h5, h1] at k1
 simp only [Option.some.injEq, Value.slice.injEq, Addr.mk.injEq, and_true] at k1
 subst k1
 exact k7 r hrl
def fm (m : List (List Raw)) : Fm := fun i j => iz (ent m i j)
structure Sqm (n K : Nat) (m : List (List Raw)) : Prop where
 rows : m.length = n
 cols : ∀ i, i < n → (m.getD i []).length = n
 lim : ∀ i j, Lim (ent m i j).2
 len : ∀ i j, (ent m i j).2.length ≤ K
theorem Sqm.rel {K : Nat} {m : List (List Raw)} (h : Sqm n K m) : Rel (fun _ => True) n m (fm m) K := ⟨h.rows, h.cols, fun i j _ _ => h.lim i j, fun i j _ _ => h.len i j, fun _ _ _ _ => rfl, fun _ _ _ _ => trivial⟩
theorem normM_get {m : List (List Raw)} : (normM m).getD i [] = (m.getD i []).map norm := by
 by_cases hi : i < m.length
 ·simp [normM, hi]
 ·simp [normM, List.getElem?_eq_none (Nat.le_of_not_lt hi)]
theorem normM_ent {m : List (List Raw)} : ent (normM m) i j = norm (ent m i j) := by
 unfold ent
 rw [normM_get]
 generalize m.getD i [] = r
 by_cases hj : j < r.length
 ·simp [hj]
 ·simp [List.getElem?_eq_none (Nat.le_of_not_lt hj)]
  exact cz_zero.symm
def Can (x : Raw) : Prop := x = norm x
theorem Can.cz (z : Int) : Can (cz z) := by unfold Can Proofs.Ytjpknabdmmkobaa.norm; rw [iz_cz]
theorem Sqm.norm {K : Nat} {m : List (List Raw)} (h : Sqm n K m) : Rel Can n (normM m) (fm m) K :=
 ⟨by simp [normM, h.rows], fun i hi => by rw [normM_get]; simpa using h.cols i hi, fun i j hi hj => by rw [normM_ent]; exact Lim_dig _, fun i j hi hj => by rw [normM_ent]; exact Sk.of_raw (h.lim i j) (h.len i j), fun i j hi hj => by rw [normM_ent]; exact iz_norm _, fun i j hi hj => by rw [normM_ent]; exact Can.cz _⟩
theorem Sqm.okm {K : Nat} {m : List (List Raw)} (h : Sqm n K m) (hn : n < 1099511627776) (hK : K < 1099511627776) : Okm m := by
 have hl := h.rows
 refine ⟨by omega, fun i => ⟨?_, fun j => ⟨Nat.lt_of_le_of_lt (h.len i j) hK, h.lim i j⟩⟩⟩
 by_cases hi : i < n
 ·rw [h.cols i hi]; exact hn
 ·rw [List.getD_eq_getElem?_getD, List.getElem?_eq_none (by omega)]
  decide
theorem fin_i {H h3 : VH} {r : Nat} {x : Raw} (hle : h.le H) (hR : H.blk r = some ⟨39, 0, [.bool false, .slice none 0 0]⟩) (hn : r < H.next) (hhr : h.next ≤ r) (h23 : H.le h3) :
  ∃ h4, wrN 0 h3 r 0 [.bool x.1, u32S x.2] = some h4 ∧ (∀ n0, H.next ≤ n0 → Grow (fun x => x ≠ r) n0 h3 h4) ∧ (rdN h4 r 0 2).map (fun l => Value.agg l.toArray) = some (iV x) ∧ h.le h4 := by
 have hR3 : h3.blk r = some ⟨39, 0, [.bool false, .slice none 0 0]⟩ := by rw [h23.2 r hn]; exact hR
 refine ⟨_, wr_s2 hR3, fun n0 hn0 => gr_set hR3 (fun e => e rfl) (by omega), ?_, VH.le_set (hle.trans h23) hhr _⟩
 rw [rdN_set]
 rfl
theorem fin_0 {H h3 : VH} {r : Nat} {fn : Func} {t : Tmp} (hle : h.le H) (hR : H.blk r = some ⟨39, 0, [.bool false, .slice none 0 0]⟩) (hn : r < H.next) (hhr : h.next ≤ r) (h23 : H.le h3) (hf : fn.results = #[.cell t 39]) (hq : ∀ h1, h.le h1 → Q (iV (cz 0)) h1) :
  ∃ h4, wrN 0 h3 r 0 [.bool false, .slice none 0 0] = some h4 ∧ ∀ e : Env, e t = .pointer (some ⟨r, 0, none⟩) → Fin cfg fn e h4 Q := by
 have hR3 : h3.blk r = some ⟨39, 0, [.bool false, .slice none 0 0]⟩ := by rw [h23.2 r hn]; exact hR
 refine ⟨_, wr_s2 hR3, fun e he => Fin.nilc r 1 rfl blk_set ?_⟩
 refine Fin.done (ress_c hf ?_) (hq _ (VH.le_set (VH.le_set (hle.trans h23) hhr _) hhr _))
 simp (disch := first | omega | (simp only [vd]; done) | (simp only [vd]; omega)) only [vs, reduceIte, Nat.reduceEqDiff, he]
 rw [cz_zero, rdN_set]
 rfl
abbrev DE (n b r r5 : Nat) (neg : Bool) (e : Env) : Prop := e 2 = .pointer (some ⟨r, 0, none⟩) ∧ e 3 = slc b n ∧ e 4 = .int .i64 (n : Int) ∧ e 5 = .pointer (some ⟨r5, 0, none⟩) ∧ e 6 = .bool neg
def DI (n K b r r5 : Nat) (H : VH) (D : Int) (k : Nat) (e : Env) (h' : VH) : Prop := ∃ R A lx neg, DE n b r r5 neg e ∧
 MM mkI H.next h' b R ∧ Rel Can n R A (wd K k) ∧ Cell h' r5 39 [.bool lx.1, u32S lx.2] ∧ Can lx ∧ Lim lx.2 ∧ lx.2.length ≤ wd K k + 1 ∧ Up H.next H h' ∧ elim (n - k) k A (iz lx) neg = D
theorem rDet_ok {K : Nat} (m : List (List Raw)) (hm : Sqm n K m) (hn9 : n < 1000000) (hK : wd K n + 5 < 1099511627776) (hq : ∀ h1, h.le h1 → Q (iV (cz (det n (fm m)))) h1) : Runs Try.prog cfg 28 [mV m] h Q c := by
 have hK0 : K ≤ wd K n := wd_le K (Nat.zero_le n)
 have hml := hm.rows
 refine Runs.go Try.func28 rfl rfl (.refl _ _) ?_
 refine W.rseqZ ?_
 simp (disch := first | omega | (simp only [vd]; done) | (simp only [vd]; omega)) only [vs, reduceIte, Nat.reduceEqDiff, Value.cells]
 refine WF.done ?_
 try simp (disch := first | omega | (simp only [vd]; done) | (simp only [vd]; omega)) only [vs, reduceIte, Nat.reduceEqDiff, next_push, next_skip]
 have hle : h.le (h.push ⟨39, 0, [.bool false, .slice none 0 0]⟩) := VH.le_push _ _
 have hR : (h.push ⟨39, 0, [.bool false, .slice none 0 0]⟩).blk (h.next) = some ⟨39, 0, [.bool false, .slice none 0 0]⟩ := blk_push
 have hn : h.next < (h.push ⟨39, 0, [.bool false, .slice none 0 0]⟩).next := Nat.lt_succ_self _
 have hhr : h.next ≤ h.next := by omega
 generalize h.push ⟨39, 0, [.bool false, .slice none 0 0]⟩ = H at *
 refine W.rseq ?_
 simp (disch := first | omega | (simp only [vd]; done) | (simp only [vd]; omega)) only [vs, reduceIte, Nat.reduceEqDiff]
 refine rCopy_ok m (hm.okm (by omega) (by omega)) fun b h1 hx1 hM => ?_
 rw [hml]
 simp (disch := first | omega | (simp only [vd]; done) | (simp only [vd]; omega)) only [vs, reduceIte, Nat.reduceEqDiff]
 refine W.rseq ?_
 simp (disch := first | omega | (simp only [vd]; done) | (simp only [vd]; omega)) only [vs, reduceIte, Nat.reduceEqDiff]
 refine W.rseq ?_
 simp (disch := first | omega | (simp only [vd]; done) | (simp only [vd]; omega)) only [vs, reduceIte, Nat.reduceEqDiff]
 refine rSmall_r 1 (by decide) (by decide) fun h2 hx2 => ?_
 simp (disch := first | omega | (simp only [vd]; done) | (simp only [vd]; omega)) only [vs, reduceIte, Nat.reduceEqDiff, Value.cells]
 have hcG : Cell (h2.push ⟨39, 0, [.bool (cz 1).1, u32S (cz 1).2]⟩) h2.next 39 [.bool (cz 1).1, u32S (cz 1).2] := Cell.new
 have hlG := VH.le_push h2 ⟨39, 0, [.bool (cz 1).1, u32S (cz 1).2]⟩
 have hnG := next_push (h := h2) (B := ⟨39, 0, [.bool (cz 1).1, u32S (cz 1).2]⟩)
 generalize h2.push ⟨39, 0, [.bool (cz 1).1, u32S (cz 1).2]⟩ = G at *
 refine W.gen [2, 3, 4, 5, 6] (fun e he => ?_)
 simp only [List.forall_mem_cons, List.not_mem_nil, false_implies, implies_true, and_true, e0_zero, e0_succ, put_some, put_none, reduceIte, Nat.reduceEqDiff] at he
 obtain ⟨e2, e3, e4, e5, e6⟩ := he
 have hr5 : H.next ≤ h2.next := (hx1.trans hx2).1
 have hHG : H.le G := (hx1.trans hx2).trans hlG
 refine W.then (DI n K b h.next h2.next H (det n (fm m)) n) ?_ ?_
 ·skip
  refine W.rseq ?_
  simp (disch := first | omega | (simp only [vd]; done) | (simp only [vd]; omega)) only [vs, reduceIte, Nat.reduceEqDiff]
  refine W.for (DI n K b h.next h2.next H (det n (fm m))) 0 n (by omega) rfl (Nat.zero_le _) rfl ?_ ?_
  ·refine ⟨normM m, fm m, cz 1, false, ⟨e2, e3, e4, e5, e6⟩, hM.mono (hx2.trans hlG), hm.norm, hcG, Can.cz _, Lim_dig _, Nat.le_trans (show (dig 1).length ≤ 1 from dig_len.2 (by decide)) (by omega), .of_le hHG (Nat.le_refl _), by rw [iz_cz]; rfl⟩
  ·rintro k e h' hk ei ⟨R, A, lx, neg, ⟨e2, e3, e4, e5, e6⟩, hM, hr, hc5, hcx, hlx, hll, hu, hD⟩
   by_cases hkn : k < n
   ·skip
    refine W.rseq ?_
    simp (disch := first | omega | (simp only [vd]; done) | (simp only [vd]; omega)) only [vs, reduceIte, Nat.reduceEqDiff, ei, e4]
    refine W.cond true (by rfl) (fun _ => ?_) nofun
    refine W.skip ?_
    simp (disch := first | omega | (simp only [vd]; done) | (simp only [vd]; omega)) only [vs, reduceIte, Nat.reduceEqDiff]
    refine ⟨hkn, ?_⟩
    refine W.rseq ?_
    simp (disch := first | omega | (simp only [vd]; done) | (simp only [vd]; omega)) only [vs, reduceIte, Nat.reduceEqDiff, ei]
    refine W.gen [2, 3, 4, 5, 6, 7, 8] (fun e he => ?_)
    simp only [List.forall_mem_cons, List.not_mem_nil, false_implies, implies_true, and_true, e0_zero, e0_succ, put_some, put_none, reduceIte, Nat.reduceEqDiff, e2, e3, e4, e5, e6, ei] at he
    obtain ⟨e2, e3, e4, e5, e6, e7, e8⟩ := he
    refine W.then (fun e1 h1 => ∃ p : Nat, DE n b h.next h2.next neg e1 ∧ e1 7 = .int .i64 (k : Int) ∧ e1 8 = .int .i64 (p : Int) ∧ h'.le h1 ∧ k ≤ p ∧ p ≤ n ∧ (∀ q, k ≤ q → q < p → A q k = 0) ∧ (p < n → A p k ≠ 0)) ?_ ?_
    ·refine W.while (fun x e1 h1 => ∃ p : Nat, x = n - p ∧ DE n b h.next h2.next neg e1 ∧ e1 7 = .int .i64 (k : Int) ∧ e1 8 = .int .i64 (p : Int) ∧ h'.le h1 ∧ k ≤ p ∧ p ≤ n ∧ (∀ q, k ≤ q → q < p → A q k = 0)) (n - k) ⟨k, rfl, ⟨e2, e3, e4, e5, e6⟩, e7, e8, VH.le_refl _, Nat.le_refl _, hk, fun q h1 h2 => by omega⟩ ?_
     rintro x e h3 ⟨p, rfl, ⟨e2, e3, e4, e5, e6⟩, e7, e8, hx3, hkp, hpn, hz⟩
     by_cases hp : p < n
     ·obtain ⟨cp, r1, r2, r3, r4, r5, r6, r7⟩ := mkI_row (hM.mono hx3) (i := p) (by rw [hr.rows]; exact hp) (by rw [hr.cols p hp]; omega)
      rw [hr.cols p hp] at r1
      have r8 := rd_iC r2 (n := k) (by rw [hr.cols p hp]; exact hkn)
      refine W.rseq ?_
      simp (disch := first | omega | (simp only [vd]; done) | (simp only [vd]; omega)) only [vs, reduceIte, Nat.reduceEqDiff, e3, e4, e7, e8, r1, r8, Int.toNat_natCast]
      refine rSign_r (ent R p k) (hr.okr hp hkn (by have := wd_le K hk; omega)) fun h4 hx4 => ?_
      rw [hr.val p k hp hkn]
      by_cases h0 : A p k = 0
      ·have hs : (A p k).sign = 0 := by rw [h0]; rfl
       simp (disch := first | omega | (simp only [vd]; done) | (simp only [vd]; omega)) only [vs, reduceIte, Nat.reduceEqDiff, hs]
       refine W.cond true (by rfl) (fun _ => ?_) nofun
       refine W.skip ?_
       simp (disch := first | omega | (simp only [vd]; done) | (simp only [vd]; omega)) only [vs, reduceIte, Nat.reduceEqDiff]
       refine W.reg ?_
       simp (disch := first | omega | (simp only [vd]; done) | (simp only [vd]; omega)) only [vs, reduceIte, Nat.reduceEqDiff, e8]
       refine ⟨n - (p + 1), by omega, p + 1, rfl, ?_⟩
       simp (disch := first | omega | (simp only [vd]; done) | (simp only [vd]; omega)) only [vs, reduceIte, Nat.reduceEqDiff, DE, e2, e3, e4, e5, e6, e7, e8, Int.natCast_add, Int.cast_ofNat_Int]
       refine ⟨hx3.trans hx4, by omega, by omega, fun q h1 h2 => ?_⟩
       by_cases hqp : q = p
       ·rw [hqp]; exact h0
       ·exact hz q h1 (by omega)
      ·have hs : (A p k).sign ≠ 0 := fun e0 => h0 (Int.sign_eq_zero_iff_zero.1 e0)
       simp (disch := first | omega | (simp only [vd]; done) | (simp only [vd]; omega)) only [vs, reduceIte, Nat.reduceEqDiff]
       refine W.cond false (by rfl) nofun (fun _ => W.exit ?_)
       simp (disch := first | omega | (simp only [vd]; done) | (simp only [vd]; omega)) only [vs, reduceIte, Nat.reduceEqDiff]
       exact ⟨p, ⟨e2, e3, e4, e5, e6⟩, e7, e8, hx3.trans hx4, hkp, hpn, hz, fun _ => h0⟩
     ·obtain rfl : p = n := by omega
      refine W.rseq ?_
      simp (disch := first | omega | (simp only [vd]; done) | (simp only [vd]; omega)) only [vs, reduceIte, Nat.reduceEqDiff, e4, e8]
      refine W.cond false (by rfl) nofun (fun _ => W.exit ?_)
      simp (disch := first | omega | (simp only [vd]; done) | (simp only [vd]; omega)) only [vs, reduceIte, Nat.reduceEqDiff]
      exact ⟨p, ⟨e2, e3, e4, e5, e6⟩, e7, e8, hx3, hkp, hpn, hz, fun hh => absurd hh hp⟩
    ·rintro e h3 ⟨p, ⟨e2, e3, e4, e5, e6⟩, e7, e8, hx3, hkp, hpn, hz, hpz⟩
     have hD1 : elim (n - k) k A (iz lx) neg = elim (n - k - 1 + 1) k A (iz lx) neg := by congr 1; omega
     rw [hD1] at hD
     unfold elim at hD
     have hH3 : H.le h3 := (hu.le (VH.le_refl _) (Nat.le_refl _)).trans hx3
     have hM3 := hM.mono hx3
     have hc3 := hc5.mono hx3
     have hu3 := hu.trans (Up.of_le hx3 hu.1)
     by_cases hp : p < n
     ·rw [piv_some hkp (by omega) hz (hpz hp)] at hD
      simp only at hD
      refine W.seq (W.rseq ?_)
      simp (disch := first | omega | (simp only [vd]; done) | (simp only [vd]; omega)) only [vs, reduceIte, Nat.reduceEqDiff, e4, e8]
      refine W.cond false (by rfl) nofun (fun _ => ?_)
      refine W.skip ?_
      simp (disch := first | omega | (simp only [vd]; done) | (simp only [vd]; omega)) only [vs, reduceIte, Nat.reduceEqDiff]
      refine W.gen [2, 3, 4, 5, 6, 7, 8] (fun e he => ?_)
      simp only [List.forall_mem_cons, List.not_mem_nil, false_implies, implies_true, and_true, e0_zero, e0_succ, put_some, put_none, reduceIte, Nat.reduceEqDiff, e2, e3, e4, e5, e6, e7, e8] at he
      obtain ⟨e2, e3, e4, e5, e6, e7, e8⟩ := he
      refine W.then (fun e1 h4 => ∃ R A neg, DE n b h.next h2.next neg e1 ∧ e1 7 = .int .i64 (k : Int) ∧ MM mkI H.next h4 b R ∧ Rel Can n R A (wd K k) ∧ Cell h4 h2.next 39 [.bool lx.1, u32S lx.2] ∧ Up H.next H h4 ∧ elim (n - k - 1) (k + 1) (Elim.step A (iz lx) k) (A k k) neg = det n (fm m)) ?_ ?_
      ·by_cases hpk : p = k
       ·rw [if_pos hpk] at hD
        refine W.rseq ?_
        simp (disch := first | omega | (simp only [vd]; done) | (simp only [vd]; omega)) only [vs, reduceIte, Nat.reduceEqDiff, e7, e8]
        refine W.cond false (by rfl) nofun (fun _ => ?_)
        refine W.skip ?_
        simp (disch := first | omega | (simp only [vd]; done) | (simp only [vd]; omega)) only [vs, reduceIte, Nat.reduceEqDiff, DE, e2, e3, e4, e5, e6, e7, e8]
        refine ⟨R, A, neg, ?_⟩
        simp (disch := first | omega | (simp only [vd]; done) | (simp only [vd]; omega)) only [vs, reduceIte, Nat.reduceEqDiff]
        exact ⟨hM3, hr, hc3, hu3, hD⟩
       ·rw [if_neg hpk] at hD
        obtain ⟨wp, wk, h4, h5, k1, k2, k3, k4, k5, k6, k7, k8, k9, k10, k11, k12, k13, k14⟩ := hM3.swap (i := p) (j := k) (by rw [hr.rows]; exact hp) (by rw [hr.rows]; exact hkn)
        refine W.rseq ?_
        simp (disch := first | omega | (simp only [vd]; done) | (simp only [vd]; omega)) only [vs, reduceIte, Nat.reduceEqDiff, e7, e8]
        refine W.cond true (by rfl) (fun _ => ?_) nofun
        refine W.dseqL (fun _ => True) [false, false, false, false, false, false, false, false, false, false, false, false, false, false, false, false] (by rfl) ?_
        simp (disch := first | omega | (simp only [vd]; done) | (simp only [vd]; omega)) only [vs, reduceIte, Nat.reduceEqDiff, e3, e7, e8, Int.toNat_natCast, k1, k2, k3, k4, st_one k5, st_one k6, k7, k8]
        refine ⟨k12, k13, W.reg ?_⟩
        simp (disch := first | omega | (simp only [vd]; done) | (simp only [vd]; omega)) only [vs, reduceIte, Nat.reduceEqDiff, DE, e2, e3, e4, e5, e6, e7, e8]
        exact ⟨_, _, !neg, rfl, k11, hr.swap hp hkn, k14 _ _ _ hc3, hu3.trans k9, hD⟩
      ·rintro e h4 ⟨R, A, neg, ⟨e2, e3, e4, e5, e6⟩, e7, hM, hr, hc, hu, hD⟩
       have hwk : wd K (k + 1) ≤ wd K n := wd_le K hkn
       have hw1 : wd K (k + 1) = 2 * wd K k + 1 := rfl
       have hsk : ∀ i j, i < n → j < n → Sk (wd K k) (A i j) := fun i j hi hj => hr.sk hi hj
       refine W.then (fun e1 h5 => ∃ R, DE n b h.next h2.next neg e1 ∧ e1 7 = .int .i64 (k : Int) ∧ MM mkI H.next h5 b R ∧ Rel Can n R (Elim.step A (iz lx) k) (wd K (k + 1)) ∧ Cell h5 h2.next 39 [.bool lx.1, u32S lx.2] ∧ Up H.next H h5) ?_ ?_
       ·skip
        refine W.rseq ?_
        simp (disch := first | omega | (simp only [vd]; done) | (simp only [vd]; omega)) only [vs, reduceIte, Nat.reduceEqDiff, e7]
        refine W.gen [2, 3, 4, 5, 6, 7, 9] (fun e he => ?_)
        simp only [List.forall_mem_cons, List.not_mem_nil, false_implies, implies_true, and_true, e0_zero, e0_succ, put_some, put_none, reduceIte, Nat.reduceEqDiff, e2, e3, e4, e5, e6, e7] at he
        obtain ⟨e2, e3, e4, e5, e6, e7, e9⟩ := he
        refine W.for (fun i e1 h5 => ∃ R, DE n b h.next h2.next neg e1 ∧ e1 7 = .int .i64 (k : Int) ∧ MM mkI H.next h5 b R ∧ k < i ∧ Rel Can n R (stp A (iz lx) k i (k + 1)) (wd K (k + 1)) ∧ Cell h5 h2.next 39 [.bool lx.1, u32S lx.2] ∧ Up H.next H h5) (k + 1) n (by omega) rfl hkn e9
         ⟨R, ⟨e2, e3, e4, e5, e6⟩, e7, hM, Nat.lt_succ_self _, by rw [stp_start]; exact hr.up (by omega), hc, hu⟩ ?_
        rintro i e h5 hin ei ⟨R, ⟨e2, e3, e4, e5, e6⟩, e7, hM, hki, hr, hc, hu⟩
        by_cases hlt : i < n
        ·skip
         refine W.rseq ?_
         simp (disch := first | omega | (simp only [vd]; done) | (simp only [vd]; omega)) only [vs, reduceIte, Nat.reduceEqDiff, ei, e4]
         refine W.cond true (by rfl) (fun _ => ?_) nofun
         refine W.skip ?_
         simp (disch := first | omega | (simp only [vd]; done) | (simp only [vd]; omega)) only [vs, reduceIte, Nat.reduceEqDiff]
         refine ⟨hlt, ?_⟩
         refine W.rseq ?_
         simp (disch := first | omega | (simp only [vd]; done) | (simp only [vd]; omega)) only [vs, reduceIte, Nat.reduceEqDiff, e7]
         refine W.gen [2, 3, 4, 5, 6, 7, 9, 10] (fun e he => ?_)
         simp only [List.forall_mem_cons, List.not_mem_nil, false_implies, implies_true, and_true, e0_zero, e0_succ, put_some, put_none, reduceIte, Nat.reduceEqDiff, e2, e3, e4, e5, e6, e7, ei] at he
         obtain ⟨e2, e3, e4, e5, e6, e7, e9, e10⟩ := he
         refine W.mono (Q := fun x e1 h5 => x = .normal ∧ ∃ R, DE n b h.next h2.next neg e1 ∧ e1 7 = .int .i64 (k : Int) ∧ e1 9 = .int .i64 (i : Int) ∧ MM mkI H.next h5 b R ∧ Rel Can n R (stp A (iz lx) k i n) (wd K (k + 1)) ∧ Cell h5 h2.next 39 [.bool lx.1, u32S lx.2] ∧ Up H.next H h5)
          (W.for (fun j e1 h5 => ∃ R, DE n b h.next h2.next neg e1 ∧ e1 7 = .int .i64 (k : Int) ∧ e1 9 = .int .i64 (i : Int) ∧ k < i ∧ k < j ∧ MM mkI H.next h5 b R ∧ Rel Can n R (stp A (iz lx) k i j) (wd K (k + 1)) ∧ Cell h5 h2.next 39 [.bool lx.1, u32S lx.2] ∧ Up H.next H h5) (k + 1) n (by omega) rfl hkn e10
          ⟨R, ⟨e2, e3, e4, e5, e6⟩, e7, e9, hki, Nat.lt_succ_self _, hM, hr, hc, hu⟩ ?_) ?_
         ·rintro j e h5 hjn ej ⟨R, ⟨e2, e3, e4, e5, e6⟩, e7, e9, _, hkj, hM, hr, hc, hu⟩
          by_cases hlj : j < n
          ·have hwl : wd K (k + 1) < 1099511627776 := by omega
           obtain ⟨ci, i1, i2, i3, i4, i5, i6, i7⟩ := mkI_row hM (i := i) (by rw [hr.rows]; exact hlt) (by rw [hr.cols i hlt]; omega)
           obtain ⟨ck, k1, k2, k3, k4, k5, k6, k7⟩ := mkI_row hM (i := k) (by rw [hr.rows]; exact hkn) (by rw [hr.cols k hkn]; omega)
           rw [hr.cols i hlt] at i1
           rw [hr.cols k hkn] at k1
           have d1 := rd_iC k2 (n := k) (by rw [hr.cols k hkn]; exact hkn)
           have d2 := rd_iC k2 (n := j) (by rw [hr.cols k hkn]; exact hlj)
           have d3 := rd_iC i2 (n := k) (by rw [hr.cols i hlt]; exact hkn)
           have d4 := rd_iC i2 (n := j) (by rw [hr.cols i hlt]; exact hlj)
           refine W.rseq ?_
           simp (disch := first | omega | (simp only [vd]; done) | (simp only [vd]; omega)) only [vs, reduceIte, Nat.reduceEqDiff, ej, e4]
           refine W.cond true (by rfl) (fun _ => ?_) nofun
           refine W.skip ?_
           simp (disch := first | omega | (simp only [vd]; done) | (simp only [vd]; omega)) only [vs, reduceIte, Nat.reduceEqDiff]
           refine ⟨hlj, ?_⟩
           refine W.drawL (fun _ => True) [false, false, false, false, false, false, false, false, false, false, false, false, false, false, false, false, false, false, false, true, false, false, false, false, false, false, false, false, false, false, false, false, false, false, true, true, false, true, false, false] (by rfl) ?_
           simp (disch := first | omega | (simp only [vd]; done) | (simp only [vd]; omega)) only [vs, reduceIte, Nat.reduceEqDiff, e3, e7, e9, ej, Int.toNat_natCast, k1, i1, d1, d4]
           refine rMul_r (ent R k k) (ent R i j) (hr.okr hkn hkn hwl) (hr.okr hlt hlj hwl) fun g1 hg1 => ?_
           simp (disch := first | omega | (simp only [vd]; done) | (simp only [vd]; omega)) only [vs, reduceIte, Nat.reduceEqDiff, gr_le hg1, gr0_le hg1, rd1_le hg1, rdN_le hg1, e3, e7, e9, ej, k1, i1, d2, d3, Int.toNat_natCast]
           refine rMul_r (ent R i k) (ent R k j) (hr.okr hlt hkn hwl) (hr.okr hkn hlj hwl) fun g2 hg2 => ?_
           simp (disch := first | omega | (simp only [vd]; done) | (simp only [vd]; omega)) only [vs, reduceIte, Nat.reduceEqDiff, gr_le hg2, gr0_le hg2]
           have v1 := hr.val k k hkn hkn
           have v2 := hr.val i j hlt hlj
           have v3 := hr.val i k hlt hkn
           have v4 := hr.val k j hkn hlj
           rw [stp_at (by omega)] at v1 v2 v3 v4
           rw [v1, v2, v3, v4]
           have s1 := (hsk k k hkn hkn).mul (hsk i j hlt hlj)
           have s2 := (hsk i k hlt hkn).mul (hsk k j hkn hlj)
           have s3 := s1.sub s2
           refine rSub_r (cz _) (cz _) (Okr.cz s1 (by omega)) (Okr.cz s2 (by omega)) fun g3 hg3 => ?_
           rw [iz_cz, iz_cz]
           have hcc := (hc.mono (hg1.trans (hg2.trans hg3))).rd2
           simp (disch := first | omega | (simp only [vd]; done) | (simp only [vd]; omega)) only [vs, reduceIte, Nat.reduceEqDiff, gr_le hg3, gr0_le hg3, e5, hcc]
           refine rQuo_r (cz _) lx (Okr.cz s3 (by omega)) ⟨by omega, hlx⟩ fun g4 hg4 => ?_
           rw [iz_cz]
           have s4 := s3.div (iz lx)
           have hnx : ∀ i' j', i' < n → j' < n → stp A (iz lx) k i (j + 1) i' j' = if i' = i ∧ j' = j then (A k k * A i j - A i k * A k j) / iz lx else stp A (iz lx) k i j i' j' := by
            intro i' j' _ _
            rw [stp_next hki hkj, stp_at (i' := k) (j' := k) (by omega), stp_at (i' := i) (j' := j) (by omega), stp_at (i' := i) (j' := k) (by omega), stp_at (i' := k) (j' := j) (by omega)]
           generalize (A k k * A i j - A i k * A k j) / iz lx = v at *
           have hg : h5.le g4 := hg1.trans (hg2.trans (hg3.trans hg4))
           have hB := hg.2 ci i4
           rw [i2] at hB
           have hw := wr_iC (n := j) (x0 := (cz v).1) (x1 := (cz v).2) hB (by rw [hr.cols i hlt]; exact hlj)
           simp (disch := first | omega | (simp only [vd]; done) | (simp only [vd]; omega)) only [vs, reduceIte, Nat.reduceEqDiff, gr_le hg4, gr0_le hg4, hw, Int.toNat_natCast]
           refine ⟨gr0_set hB, ?_⟩
           simp (disch := first | omega | (simp only [vd]; done) | (simp only [vd]; omega)) only [vs, reduceIte, Nat.reduceEqDiff, DE, e2, e3, e4, e5, e6, e7, e9, ej]
           have hc4 := (hc.mono hg)
           exact ⟨_, hki, by omega, i7 g4 hg ((R.getD i []).set j (cz v)) (by rw [List.length_set]), hr.set hlt hlj (Lim_dig _) (Nat.le_trans s4 (by omega)) (iz_cz v) (Can.cz v) hnx, hc4.set_ne (hc4.ne hB (by decide)), hu.trans ((Up.of_le hg hu.1).trans (.set i3))⟩
          ·obtain rfl : j = n := by omega
           refine W.rseq ?_
           simp (disch := first | omega | (simp only [vd]; done) | (simp only [vd]; omega)) only [vs, reduceIte, Nat.reduceEqDiff, ej, e4]
           refine W.cond false (by rfl) nofun (fun _ => W.exit ?_)
           simp (disch := first | omega | (simp only [vd]; done) | (simp only [vd]; omega)) only [vs, reduceIte, Nat.reduceEqDiff, DE, e2, e3, e4, e5, e6, e7, e9]
           exact ⟨R, hM, hr, hc, hu⟩
         ·rintro x e h6 ⟨rfl, R, ⟨e2, e3, e4, e5, e6⟩, e7, e9, hM, hr, hc, hu⟩
          simp (disch := first | omega | (simp only [vd]; done) | (simp only [vd]; omega)) only [vs, reduceIte, Nat.reduceEqDiff, DE, e2, e3, e4, e5, e6, e7, e9]
          exact ⟨R, hM, by omega, hr.congr (fun i' j' _ hj => stp_row hj), hc, hu⟩
        ·obtain rfl : i = n := by omega
         refine W.rseq ?_
         simp (disch := first | omega | (simp only [vd]; done) | (simp only [vd]; omega)) only [vs, reduceIte, Nat.reduceEqDiff, ei, e4]
         refine W.cond false (by rfl) nofun (fun _ => W.exit ?_)
         simp (disch := first | omega | (simp only [vd]; done) | (simp only [vd]; omega)) only [vs, reduceIte, Nat.reduceEqDiff, DE, e2, e3, e4, e5, e6, e7]
         exact ⟨R, hM, hr.congr (fun i j hi hj => stp_end hi), hc, hu⟩
       ·rintro e h5 ⟨R, ⟨e2, e3, e4, e5, e6⟩, e7, hM, hr, hc, hu⟩
        obtain ⟨ck, k1, k2, k3, k4, k5, k6, k7⟩ := mkI_row hM (i := k) (by rw [hr.rows]; exact hkn) (by rw [hr.cols k hkn]; omega)
        rw [hr.cols k hkn] at k1
        have d1 := rd_iC k2 (n := k) (by rw [hr.cols k hkn]; exact hkn)
        have hw := hc.wr2 (y0 := .bool (ent R k k).1) (y1 := u32S (ent R k k).2)
        refine W.reg ?_
        simp (disch := first | omega | (simp only [vd]; done) | (simp only [vd]; omega)) only [vs, reduceIte, Nat.reduceEqDiff, e3, e5, e7, k1, d1, hw, Int.toNat_natCast]
        refine ⟨R, Elim.step A (iz lx) k, ent R k k, neg, ?_⟩
        simp (disch := first | omega | (simp only [vd]; done) | (simp only [vd]; omega)) only [vs, reduceIte, Nat.reduceEqDiff, DE, e2, e3, e4, e5, e6, e7]
        refine ⟨hM.cell hc, hr, hc.set, hr.pr k k hkn hkn, hr.lim k k hkn hkn, Nat.le_trans (hr.len k k hkn hkn) (by omega), hu.trans (.set ?_), ?_⟩
        ·exact hr5
        ·rw [hr.val k k hkn hkn, ← Nat.sub_sub]
         unfold Elim.step at hD ⊢
         rw [if_neg (by omega)]
         exact hD
     ·obtain rfl : p = n := by omega
      rw [piv_none (fun q h1 h2 => hz q h1 (by omega))] at hD
      simp only at hD
      refine W.seq (W.rseq ?_)
      simp (disch := first | omega | (simp only [vd]; done) | (simp only [vd]; omega)) only [vs, reduceIte, Nat.reduceEqDiff, e4, e8]
      refine W.cond true (by rfl) (fun _ => ?_) nofun
      rw [← hD] at hq
      obtain ⟨h4, k1, k2⟩ := fin_0 (fn := Try.f28) hle hR hn (Nat.le_refl _) hH3 rfl hq
      refine W.rseq ?_
      simp (disch := first | omega | (simp only [vd]; done) | (simp only [vd]; omega)) only [vs, reduceIte, Nat.reduceEqDiff, e2, k1]
      refine W.ret ⟨.inr rfl, ?_⟩
      change Fin cfg _ _ _ _
      exact k2 _ (by simp (disch := first | omega | (simp only [vd]; done) | (simp only [vd]; omega)) only [vs, reduceIte, Nat.reduceEqDiff, e2])
   ·obtain rfl : k = n := by omega
    refine W.rseq ?_
    simp (disch := first | omega | (simp only [vd]; done) | (simp only [vd]; omega)) only [vs, reduceIte, Nat.reduceEqDiff, ei, e4]
    refine W.cond false (by rfl) nofun (fun _ => W.exit ?_)
    simp (disch := first | omega | (simp only [vd]; done) | (simp only [vd]; omega)) only [vs, reduceIte, Nat.reduceEqDiff]
    exact ⟨R, A, lx, neg, ⟨e2, e3, e4, e5, e6⟩, hM, hr, hc5, hcx, hlx, hll, hu, hD⟩
 ·rintro e h' ⟨R, A, lx, neg, ⟨e2, e3, e4, e5, e6⟩, hM, hr, hc5, hcx, hlx, hll, hu, hD⟩
  rw [Nat.sub_self, elim] at hD
  have hH : H.le h' := hu.le (VH.le_refl _) (Nat.le_refl _)
  have hwn : wd K n < 1099511627776 := by omega
  cases neg with
  | true =>
   skip
   refine W.seq (W.rseq ?_)
   simp (disch := first | omega | (simp only [vd]; done) | (simp only [vd]; omega)) only [vs, reduceIte, Nat.reduceEqDiff, e6]
   refine W.cond true (by rfl) (fun _ => ?_) nofun
   refine W.rseq ?_
   simp (disch := first | omega | (simp only [vd]; done) | (simp only [vd]; omega)) only [vs, reduceIte, Nat.reduceEqDiff, e5, hc5.rd2]
   refine rNeg_r lx ⟨by omega, hlx⟩ fun h6 hx6 => ?_
   rw [if_pos rfl] at hD
   rw [hD]
   obtain ⟨h7, k1, k2, k3, k4⟩ := fin_i (x := cz (det n (fm m))) hle hR hn (Nat.le_refl _) (hH.trans hx6)
   simp (disch := first | omega | (simp only [vd]; done) | (simp only [vd]; omega)) only [vs, reduceIte, Nat.reduceEqDiff, e2, k1]
   refine W.ret ⟨.inr rfl, _, _, _, .refl _ _, ress_c rfl ?_, hq _ k4⟩
   simp (disch := first | omega | (simp only [vd]; done) | (simp only [vd]; omega)) only [vs, reduceIte, Nat.reduceEqDiff, e2, k3]
  | false =>
   skip
   refine W.seq (W.rseq ?_)
   simp (disch := first | omega | (simp only [vd]; done) | (simp only [vd]; omega)) only [vs, reduceIte, Nat.reduceEqDiff, e6]
   refine W.cond false (by rfl) nofun (fun _ => ?_)
   refine W.skip ?_
   simp (disch := first | omega | (simp only [vd]; done) | (simp only [vd]; omega)) only [vs, reduceIte, Nat.reduceEqDiff]
   rw [if_neg (by decide)] at hD
   have hlx2 : lx = cz (det n (fm m)) := by rw [← hD]; exact hcx
   obtain ⟨h7, k1, k2, k3, k4⟩ := fin_i (x := lx) hle hR hn (Nat.le_refl _) hH
   refine W.rseq ?_
   simp (disch := first | omega | (simp only [vd]; done) | (simp only [vd]; omega)) only [vs, reduceIte, Nat.reduceEqDiff, e2, e5, hc5.rd2, k1]
   refine W.ret ⟨.inr rfl, _, _, _, .refl _ _, ress_c rfl ?_, hq _ k4⟩
   rw [← hlx2]
   simp (disch := first | omega | (simp only [vd]; done) | (simp only [vd]; omega)) only [vs, reduceIte, Nat.reduceEqDiff, e2, k3]
end Go.Proofs.Ytjpknabdmmkobaa
end

section
set_option maxRecDepth 20000
open Go Go.QM Go.Elim
namespace Go.Proofs.Ytjpknabdmmkobaa
variable {h : VH} {Q : Value → VH → Prop} {c : Cw Q}
variable {P : Raw → Prop} {n w i j k p : Nat} {R : List (List Raw)} {A : Fm}
abbrev PE (n b r r7 : Nat) (neg : Bool) (e : Env) : Prop := e 2 = .pointer (some ⟨r, 0, none⟩) ∧ e 3 = .int .i64 (n : Int) ∧ e 4 = slc b n ∧ e 6 = .bool neg ∧ e 7 = .pointer (some ⟨r7, 0, none⟩)
theorem gr0_p1 {h : VH} {B B' : Blk} : Grow0 (h.push B) (h.push B') := ⟨Nat.le_refl _, fun b hb hn => by
 by_cases he : b = h.next
 ·subst he; rw [blk_push] at hn; cases hn
 ·rw [blk_push_ne he] at hn ⊢; exact hn⟩
def PI (n K b r r7 : Nat) (H : VH) (D : Int) (k : Nat) (e : Env) (h' : VH) : Prop := ∃ R A lx neg, PE n b r r7 neg e ∧
 MM mkI H.next h' b R ∧ Rel (fun _ => True) n R A (wd K k) ∧ Cell h' r7 39 [.bool lx.1, u32S lx.2] ∧ Lim lx.2 ∧ lx.2.length ≤ wd K k + 1 ∧ Up H.next H h' ∧ elim (n - k) k A (iz lx) neg = D
theorem det_ok {K : Nat} (m : List (List Raw)) (hm : Sqm n K m) (hn9 : n < 1000000) (hK : wd K n + 5 < 1099511627776) (hq : ∀ h1, h.le h1 → Q (iV (cz (det n (fm m)))) h1) : Runs Try.prog cfg 100 [mV m] h Q c := by
 have hK0 : K ≤ wd K n := wd_le K (Nat.zero_le n)
 have hml := hm.rows
 refine Runs.go Try.func100 rfl rfl (.refl _ _) ?_
 refine W.rseqZ ?_
 simp (disch := first | omega | (simp only [vd]; done) | (simp only [vd]; omega)) only [vs, reduceIte, Nat.reduceEqDiff, Value.cells]
 refine WF.done ?_
 try simp (disch := first | omega | (simp only [vd]; done) | (simp only [vd]; omega)) only [vs, reduceIte, Nat.reduceEqDiff, next_push, next_skip]
 have hle : h.le (h.push ⟨39, 0, [.bool false, .slice none 0 0]⟩) := VH.le_push _ _
 have hR : (h.push ⟨39, 0, [.bool false, .slice none 0 0]⟩).blk (h.next) = some ⟨39, 0, [.bool false, .slice none 0 0]⟩ := blk_push
 have hn : h.next < (h.push ⟨39, 0, [.bool false, .slice none 0 0]⟩).next := Nat.lt_succ_self _
 have hhr : h.next ≤ h.next := by omega
 generalize h.push ⟨39, 0, [.bool false, .slice none 0 0]⟩ = H at *
 refine W.rseq ?_
 simp (disch := first | omega | (simp only [vd]; done) | (simp only [vd]; omega)) only [vs, reduceIte, Nat.reduceEqDiff, hml]
 refine W.rseq ?_
 simp (disch := first | omega | (simp only [vd]; done) | (simp only [vd]; omega)) only [vs, reduceIte, Nat.reduceEqDiff, mkE_ok, Int.toNat_natCast]
 have h0 : MM mkI H.next (H.push ⟨34, 1, zC (.slice none 0 0) n⟩) H.next (List.replicate n []) := MM.new (zC_one rfl n) (Nat.le_refl _)
 have hle0 := VH.le_push H ⟨34, 1, zC (.slice none 0 0) n⟩
 generalize hb : H.next = b at *
 generalize H.push ⟨34, 1, zC (.slice none 0 0) n⟩ = H0 at *
 refine W.then (fun e' h' => e' 2 = .pointer (some ⟨h.next, 0, none⟩) ∧ e' 3 = .int .i64 (n : Int) ∧ e' 4 = slc b n ∧ MM mkI H.next h' b m ∧ Up H.next H h') ?_ ?_
 ·skip
  refine W.rseq ?_
  simp (disch := first | omega | (simp only [vd]; done) | (simp only [vd]; omega)) only [vs, reduceIte, Nat.reduceEqDiff]
  refine W.gen [0, 2, 3, 4, 18, 19] (fun e he => ?_)
  simp only [List.forall_mem_cons, List.not_mem_nil, false_implies, implies_true, and_true, e0_zero, e0_succ, put_some, put_none, reduceIte, Nat.reduceEqDiff] at he
  obtain ⟨e0, e2, e3, e4, e18, e19⟩ := he
  refine W.range (fun i e h' => e 0 = mV m ∧ e 2 = .pointer (some ⟨h.next, 0, none⟩) ∧ e 3 = .int .i64 (n : Int) ∧ e 4 = slc b n ∧ ∃ R, MM mkI H.next h' b R ∧ Up H.next H h' ∧ R.length = n ∧ (∀ j, j < i → R.getD j [] = m.getD j [])) n (by omega) rfl e19 e18
   ⟨e0, e2, e3, e4, _, by rw [hb]; exact h0, .of_le hle0 (Nat.le_refl _), by simp, fun j hj => by omega⟩ ?_ ?_
  ·rintro i e h' hi ei en ⟨e0, e2, e3, e4, R, hR, hu, hRl, hRi⟩
   have hcl := hm.cols i hi
   refine W.block ?_
   refine W.rseq ?_
   simp (disch := first | omega | (simp only [vd]; done) | (simp only [vd]; omega)) only [vs, reduceIte, Nat.reduceEqDiff, ei]
   obtain ⟨h2, k1, k2, k3, k4, k5, k6⟩ := mkI_make hR (i := i) (w := n) (by omega) hu.1 (by omega)
   refine W.rseqZ ?_
   simp (disch := first | omega | (simp only [vd]; done) | (simp only [vd]; omega)) only [vs, reduceIte, Nat.reduceEqDiff, ei, e3, e4, mkE_ok, Int.toNat_natCast, k1]
   refine WF.nilb h'.next rfl k2 (WF.done ?_)
   generalize hG : h2.set h'.next (some ⟨39, 2, (zC (.agg #[.bool false, .slice none 0 0]) (n * 2)).map nil1⟩) = G at *
   obtain ⟨ci, i1, i2, i3, i4, i5, i6, i7⟩ := mkI_row k3 (i := i) (by rw [List.length_set]; omega) (by rw [QM.getD_set (by omega), if_pos rfl]; simp; omega)
   have hlr : ((R.set i (List.replicate n raw0)).getD i []).length = n := by rw [QM.getD_set (by omega), if_pos rfl]; simp
   rw [hlr] at i1 i7
   have hcp := cpy_slV (C := cfg) (t := 34) (dl := n) (cap := n) (l := m.getD i []) iC_len rfl t_Sapi_Int t_api_Int i2 hcl.symm (by rw [flat_len iC_len, hlr, hcl]) (fun e0 => by rw [e0] at hcl; simp at hcl; omega)
   rw [hcl] at hcp
   change cpyV cfg _ _ (isV (m.getD i [])) G = _ at hcp
   refine W.drawL (fun _ => True) [false, false, false, false, false, false, false, false, false] (by rfl) ?_
   simp (disch := first | omega | (simp only [vd]; done) | (simp only [vd]; omega)) only [vs, reduceIte, Nat.reduceEqDiff, e0, e4, ei, i1, Int.toNat_natCast, hcp]
   refine ⟨gr0_set i2, ?_⟩
   simp (disch := first | omega | (simp only [vd]; done) | (simp only [vd]; omega)) only [vs, reduceIte, Nat.reduceEqDiff, ei, en, e0, e2, e3, e4]
   refine ⟨_, i7 G (VH.le_refl _) (m.getD i []) hcl, hu.trans (k4.trans (.set i3)), by simp [hRl], fun j hj => ?_⟩
   by_cases hji : j = i
   ·rw [hji, QM.getD_set (by simp; omega), if_pos rfl]
   ·rw [QM.getD_set (by simp; omega), if_neg hji, QM.getD_set (by omega), if_neg hji]
    exact hRi j (by omega)
  ·rintro e h' ei ⟨e0, e2, e3, e4, R, hR, hu, hRl, hRi⟩
   have : R = m := ext_getD [] (by omega) (fun j hj => hRi j (by omega))
   subst this
   simp (disch := first | omega | (simp only [vd]; done) | (simp only [vd]; omega)) only [vs, reduceIte, Nat.reduceEqDiff, e2, e3, e4]
   exact ⟨hR, hu⟩
 rintro e h1 ⟨e2, e3, e4, hM, hu⟩
 refine W.rseq ?_
 simp (disch := first | omega | (simp only [vd]; done) | (simp only [vd]; omega)) only [vs, reduceIte, Nat.reduceEqDiff]
 refine Small_r 1 (by decide) (by decide) fun h2 hx2 => ?_
 simp (disch := first | omega | (simp only [vd]; done) | (simp only [vd]; omega)) only [vs, reduceIte, Nat.reduceEqDiff, Value.cells]
 have hcG : Cell (h2.push ⟨39, 0, [.bool (cz 1).1, u32S (cz 1).2]⟩) h2.next 39 [.bool (cz 1).1, u32S (cz 1).2] := Cell.new
 have hlG := VH.le_push h2 ⟨39, 0, [.bool (cz 1).1, u32S (cz 1).2]⟩
 have hnG := next_push (h := h2) (B := ⟨39, 0, [.bool (cz 1).1, u32S (cz 1).2]⟩)
 generalize h2.push ⟨39, 0, [.bool (cz 1).1, u32S (cz 1).2]⟩ = G at *
 refine W.gen [2, 3, 4, 6, 7] (fun e he => ?_)
 simp only [List.forall_mem_cons, List.not_mem_nil, false_implies, implies_true, and_true, e0_zero, e0_succ, put_some, put_none, reduceIte, Nat.reduceEqDiff, e2, e3, e4] at he
 obtain ⟨e2, e3, e4, e6, e7⟩ := he
 have hr7 : H.next ≤ h2.next := Nat.le_trans hu.1 hx2.1
 have hG := hx2.trans hlG
 refine W.then (PI n K b h.next h2.next H (det n (fm m)) n) ?_ ?_
 ·skip
  refine W.rseq ?_
  simp (disch := first | omega | (simp only [vd]; done) | (simp only [vd]; omega)) only [vs, reduceIte, Nat.reduceEqDiff, e3]
  refine W.gen [2, 3, 4, 6, 7, 38, 39] (fun e he => ?_)
  simp only [List.forall_mem_cons, List.not_mem_nil, false_implies, implies_true, and_true, e0_zero, e0_succ, put_some, put_none, reduceIte, Nat.reduceEqDiff, e2, e3, e4, e6, e7] at he
  obtain ⟨e2, e3, e4, e6, e7, e38, e39⟩ := he
  refine W.range (PI n K b h.next h2.next H (det n (fm m))) n (by omega) rfl e39 e38 ?_ ?_ ?_
  ·exact ⟨m, fm m, cz 1, false, ⟨e2, e3, e4, e6, e7⟩, hM.mono hG, hm.rel, hcG, Lim_dig _, Nat.le_trans (show (dig 1).length ≤ 1 from dig_len.2 (by decide)) (by omega), hu.trans (.of_le hG hu.1), by rw [iz_cz]; rfl⟩
  ·rintro k e h' hkn ei en ⟨R, A, lx, neg, ⟨e2, e3, e4, e6, e7⟩, hM, hr, hc5, hlx, hll, hu, hD⟩
   refine W.block ?_
   refine W.rseq ?_
   simp (disch := first | omega | (simp only [vd]; done) | (simp only [vd]; omega)) only [vs, reduceIte, Nat.reduceEqDiff, ei]
   refine W.rseq ?_
   simp (disch := first | omega | (simp only [vd]; done) | (simp only [vd]; omega)) only [vs, reduceIte, Nat.reduceEqDiff]
   refine W.gen [2, 3, 4, 6, 7, 8, 9, 38, 39] (fun e he => ?_)
   simp only [List.forall_mem_cons, List.not_mem_nil, false_implies, implies_true, and_true, e0_zero, e0_succ, put_some, put_none, reduceIte, Nat.reduceEqDiff, e2, e3, e4, e6, e7, ei, en] at he
   obtain ⟨e2, e3, e4, e6, e7, e8, e9, e38, e39⟩ := he
   refine W.then (fun e1 h1 => ∃ p : Nat, PE n b h.next h2.next neg e1 ∧ e1 38 = .int .i64 (n : Int) ∧ e1 39 = .int .i64 (k : Int) ∧ e1 8 = .int .i64 (k : Int) ∧ e1 9 = .int .i64 (p : Int) ∧ h'.le h1 ∧ k ≤ p ∧ p ≤ n ∧ (∀ q, k ≤ q → q < p → A q k = 0) ∧ (p < n → A p k ≠ 0)) ?_ ?_
   ·refine W.while (fun x e1 h1 => ∃ p : Nat, x = n - p ∧ PE n b h.next h2.next neg e1 ∧ e1 38 = .int .i64 (n : Int) ∧ e1 39 = .int .i64 (k : Int) ∧ e1 8 = .int .i64 (k : Int) ∧ e1 9 = .int .i64 (p : Int) ∧ h'.le h1 ∧ k ≤ p ∧ p ≤ n ∧ (∀ q, k ≤ q → q < p → A q k = 0)) (n - k) ⟨k, rfl, ⟨e2, e3, e4, e6, e7⟩, e38, e39, e8, e9, VH.le_refl _, Nat.le_refl _, by omega, fun q h1 h2 => by omega⟩ ?_
    rintro x e h3 ⟨p, rfl, ⟨e2, e3, e4, e6, e7⟩, e38, e39, e8, e9, hx3, hkp, hpn, hz⟩
    by_cases hp : p < n
    ·obtain ⟨cp, r1, r2, r3, r4, r5, r6, r7⟩ := mkI_row (hM.mono hx3) (i := p) (by rw [hr.rows]; exact hp) (by rw [hr.cols p hp]; omega)
     rw [hr.cols p hp] at r1
     have r8 := rd_iC r2 (n := k) (by rw [hr.cols p hp]; exact hkn)
     refine W.rseq ?_
     simp (disch := first | omega | (simp only [vd]; done) | (simp only [vd]; omega)) only [vs, reduceIte, Nat.reduceEqDiff, e3, e4, e8, e9, r1, r8, Int.toNat_natCast]
     refine Sign_r (ent R p k) (hr.okr hp hkn (by have := wd_le K (Nat.le_of_lt hkn); omega)) fun h4 hx4 => ?_
     rw [hr.val p k hp hkn]
     by_cases h0 : A p k = 0
     ·have hs : (A p k).sign = 0 := by rw [h0]; rfl
      simp (disch := first | omega | (simp only [vd]; done) | (simp only [vd]; omega)) only [vs, reduceIte, Nat.reduceEqDiff, hs]
      refine W.cond true (by rfl) (fun _ => ?_) nofun
      refine W.skip ?_
      simp (disch := first | omega | (simp only [vd]; done) | (simp only [vd]; omega)) only [vs, reduceIte, Nat.reduceEqDiff]
      refine W.reg ?_
      simp (disch := first | omega | (simp only [vd]; done) | (simp only [vd]; omega)) only [vs, reduceIte, Nat.reduceEqDiff, e9]
      refine ⟨n - (p + 1), by omega, p + 1, rfl, ?_⟩
      simp (disch := first | omega | (simp only [vd]; done) | (simp only [vd]; omega)) only [vs, reduceIte, Nat.reduceEqDiff, PE, e2, e3, e4, e6, e7, e8, e9, e38, e39, Int.natCast_add, Int.cast_ofNat_Int]
      refine ⟨hx3.trans hx4, by omega, by omega, fun q h1 h2 => ?_⟩
      by_cases hqp : q = p
      ·rw [hqp]; exact h0
      ·exact hz q h1 (by omega)
     ·have hs : (A p k).sign ≠ 0 := fun e0 => h0 (Int.sign_eq_zero_iff_zero.1 e0)
      simp (disch := first | omega | (simp only [vd]; done) | (simp only [vd]; omega)) only [vs, reduceIte, Nat.reduceEqDiff]
      refine W.cond false (by rfl) nofun (fun _ => W.exit ?_)
      simp (disch := first | omega | (simp only [vd]; done) | (simp only [vd]; omega)) only [vs, reduceIte, Nat.reduceEqDiff]
      exact ⟨p, ⟨e2, e3, e4, e6, e7⟩, e38, e39, e8, e9, hx3.trans hx4, hkp, hpn, hz, fun _ => h0⟩
    ·obtain rfl : p = n := by omega
     refine W.rseq ?_
     simp (disch := first | omega | (simp only [vd]; done) | (simp only [vd]; omega)) only [vs, reduceIte, Nat.reduceEqDiff, e3, e9]
     refine W.cond false (by rfl) nofun (fun _ => W.exit ?_)
     simp (disch := first | omega | (simp only [vd]; done) | (simp only [vd]; omega)) only [vs, reduceIte, Nat.reduceEqDiff]
     exact ⟨p, ⟨e2, e3, e4, e6, e7⟩, e38, e39, e8, e9, hx3, hkp, hpn, hz, fun hh => absurd hh hp⟩
   ·rintro e h3 ⟨p, ⟨e2, e3, e4, e6, e7⟩, e38, e39, e8, e9, hx3, hkp, hpn, hz, hpz⟩
    have hD1 : elim (n - k) k A (iz lx) neg = elim (n - k - 1 + 1) k A (iz lx) neg := by congr 1; omega
    rw [hD1] at hD
    unfold elim at hD
    have hH3 : H.le h3 := (hu.le (VH.le_refl _) (Nat.le_refl _)).trans hx3
    have hM3 := hM.mono hx3
    have hc3 := hc5.mono hx3
    have hu3 := hu.trans (Up.of_le hx3 hu.1)
    by_cases hp : p < n
    ·rw [piv_some hkp (by omega) hz (hpz hp)] at hD
     simp only at hD
     refine W.seq (W.rseq ?_)
     simp (disch := first | omega | (simp only [vd]; done) | (simp only [vd]; omega)) only [vs, reduceIte, Nat.reduceEqDiff, e3, e9]
     refine W.cond false (by rfl) nofun (fun _ => ?_)
     refine W.skip ?_
     simp (disch := first | omega | (simp only [vd]; done) | (simp only [vd]; omega)) only [vs, reduceIte, Nat.reduceEqDiff]
     refine W.gen [2, 3, 4, 6, 7, 8, 9, 38, 39] (fun e he => ?_)
     simp only [List.forall_mem_cons, List.not_mem_nil, false_implies, implies_true, and_true, e0_zero, e0_succ, put_some, put_none, reduceIte, Nat.reduceEqDiff, e2, e3, e4, e6, e7, e8, e9, e38, e39] at he
     obtain ⟨e2, e3, e4, e6, e7, e8, e9, e38, e39⟩ := he
     refine W.then (fun e1 h4 => ∃ R A neg, PE n b h.next h2.next neg e1 ∧ e1 38 = .int .i64 (n : Int) ∧ e1 39 = .int .i64 (k : Int) ∧ e1 8 = .int .i64 (k : Int) ∧ MM mkI H.next h4 b R ∧ Rel (fun _ => True) n R A (wd K k) ∧ Cell h4 h2.next 39 [.bool lx.1, u32S lx.2] ∧ Up H.next H h4 ∧ elim (n - k - 1) (k + 1) (Elim.step A (iz lx) k) (A k k) neg = det n (fm m)) ?_ ?_
     ·by_cases hpk : p = k
      ·rw [if_pos hpk] at hD
       refine W.rseq ?_
       simp (disch := first | omega | (simp only [vd]; done) | (simp only [vd]; omega)) only [vs, reduceIte, Nat.reduceEqDiff, e8, e9]
       refine W.cond false (by rfl) nofun (fun _ => ?_)
       refine W.skip ?_
       refine ⟨R, A, neg, ?_⟩
       simp (disch := first | omega | (simp only [vd]; done) | (simp only [vd]; omega)) only [vs, reduceIte, Nat.reduceEqDiff, PE, e2, e3, e4, e6, e7, e8, e9, e38, e39]
       exact ⟨hM3, hr, hc3, hu3, hD⟩
      ·rw [if_neg hpk] at hD
       obtain ⟨wp, wk, h4, h5, k1, k2, k3, k4, k5, k6, k7, k8, k9, k10, k11, k12, k13, k14⟩ := hM3.swap (i := p) (j := k) (by rw [hr.rows]; exact hp) (by rw [hr.rows]; exact hkn)
       refine W.rseq ?_
       simp (disch := first | omega | (simp only [vd]; done) | (simp only [vd]; omega)) only [vs, reduceIte, Nat.reduceEqDiff, e8, e9]
       refine W.cond true (by rfl) (fun _ => ?_) nofun
       refine W.dseqL (fun _ => True) [false, false, false, false, false, false, false, false, false, false, false, false, false, false, false, false] (by rfl) ?_
       simp (disch := first | omega | (simp only [vd]; done) | (simp only [vd]; omega)) only [vs, reduceIte, Nat.reduceEqDiff, e4, e8, e9, Int.toNat_natCast, k1, k2, k3, k4, st_one k5, st_one k6, k7, k8]
       refine ⟨k12, k13, W.reg ?_⟩
       simp (disch := first | omega | (simp only [vd]; done) | (simp only [vd]; omega)) only [vs, reduceIte, Nat.reduceEqDiff, PE, e2, e3, e4, e6, e7, e8, e38, e39]
       exact ⟨_, _, !neg, rfl, k11, hr.swap hp hkn, k14 _ _ _ hc3, hu3.trans k9, hD⟩
     ·rintro e h4 ⟨R, A, neg, ⟨e2, e3, e4, e6, e7⟩, e38, e39, e8, hM, hr, hc, hu, hD⟩
      have hwk : wd K (k + 1) ≤ wd K n := wd_le K hkn
      have hw1 : wd K (k + 1) = 2 * wd K k + 1 := rfl
      have hsk : ∀ i j, i < n → j < n → Sk (wd K k) (A i j) := fun i j hi hj => hr.sk hi hj
      refine W.then (fun e1 h5 => ∃ R, PE n b h.next h2.next neg e1 ∧ e1 38 = .int .i64 (n : Int) ∧ e1 39 = .int .i64 (k : Int) ∧ e1 8 = .int .i64 (k : Int) ∧ MM mkI H.next h5 b R ∧ Rel (fun _ => True) n R (Elim.step A (iz lx) k) (wd K (k + 1)) ∧ Cell h5 h2.next 39 [.bool lx.1, u32S lx.2] ∧ Up H.next H h5) ?_ ?_
      ·skip
       refine W.rseq ?_
       simp (disch := first | omega | (simp only [vd]; done) | (simp only [vd]; omega)) only [vs, reduceIte, Nat.reduceEqDiff, e8]
       refine W.gen [2, 3, 4, 6, 7, 8, 10, 38, 39] (fun e he => ?_)
       simp only [List.forall_mem_cons, List.not_mem_nil, false_implies, implies_true, and_true, e0_zero, e0_succ, put_some, put_none, reduceIte, Nat.reduceEqDiff, e2, e3, e4, e6, e7, e8, e38, e39] at he
       obtain ⟨e2, e3, e4, e6, e7, e8, e10, e38, e39⟩ := he
       refine W.for (fun i e1 h5 => ∃ R, PE n b h.next h2.next neg e1 ∧ e1 38 = .int .i64 (n : Int) ∧ e1 39 = .int .i64 (k : Int) ∧ e1 8 = .int .i64 (k : Int) ∧ MM mkI H.next h5 b R ∧ k < i ∧ Rel (fun _ => True) n R (stp A (iz lx) k i (k + 1)) (wd K (k + 1)) ∧ Cell h5 h2.next 39 [.bool lx.1, u32S lx.2] ∧ Up H.next H h5) (k + 1) n (by omega) rfl hkn e10
        ⟨R, ⟨e2, e3, e4, e6, e7⟩, e38, e39, e8, hM, Nat.lt_succ_self _, by rw [stp_start]; exact hr.up (by omega), hc, hu⟩ ?_
       rintro i e h5 hin ei ⟨R, ⟨e2, e3, e4, e6, e7⟩, e38, e39, e8, hM, hki, hr, hc, hu⟩
       by_cases hlt : i < n
       ·skip
        refine W.rseq ?_
        simp (disch := first | omega | (simp only [vd]; done) | (simp only [vd]; omega)) only [vs, reduceIte, Nat.reduceEqDiff, ei, e3]
        refine W.cond true (by rfl) (fun _ => ?_) nofun
        refine W.skip ?_
        simp (disch := first | omega | (simp only [vd]; done) | (simp only [vd]; omega)) only [vs, reduceIte, Nat.reduceEqDiff]
        refine ⟨hlt, ?_⟩
        refine W.rseq ?_
        simp (disch := first | omega | (simp only [vd]; done) | (simp only [vd]; omega)) only [vs, reduceIte, Nat.reduceEqDiff, e8]
        refine W.gen [2, 3, 4, 6, 7, 8, 10, 11, 38, 39] (fun e he => ?_)
        simp only [List.forall_mem_cons, List.not_mem_nil, false_implies, implies_true, and_true, e0_zero, e0_succ, put_some, put_none, reduceIte, Nat.reduceEqDiff, e2, e3, e4, e6, e7, e8, ei, e38, e39] at he
        obtain ⟨e2, e3, e4, e6, e7, e8, e10, e11, e38, e39⟩ := he
        refine W.mono (Q := fun x e1 h5 => x = .normal ∧ ∃ R, PE n b h.next h2.next neg e1 ∧ e1 38 = .int .i64 (n : Int) ∧ e1 39 = .int .i64 (k : Int) ∧ e1 8 = .int .i64 (k : Int) ∧ e1 10 = .int .i64 (i : Int) ∧ MM mkI H.next h5 b R ∧ Rel (fun _ => True) n R (stp A (iz lx) k i n) (wd K (k + 1)) ∧ Cell h5 h2.next 39 [.bool lx.1, u32S lx.2] ∧ Up H.next H h5)
         (W.for (fun j e1 h5 => ∃ R, PE n b h.next h2.next neg e1 ∧ e1 38 = .int .i64 (n : Int) ∧ e1 39 = .int .i64 (k : Int) ∧ e1 8 = .int .i64 (k : Int) ∧ e1 10 = .int .i64 (i : Int) ∧ k < j ∧ MM mkI H.next h5 b R ∧ Rel (fun _ => True) n R (stp A (iz lx) k i j) (wd K (k + 1)) ∧ Cell h5 h2.next 39 [.bool lx.1, u32S lx.2] ∧ Up H.next H h5) (k + 1) n (by omega) rfl hkn e11
         ⟨R, ⟨e2, e3, e4, e6, e7⟩, e38, e39, e8, e10, Nat.lt_succ_self _, hM, hr, hc, hu⟩ ?_) ?_
        ·rintro j e h5 hjn ej ⟨R, ⟨e2, e3, e4, e6, e7⟩, e38, e39, e8, e10, hkj, hM, hr, hc, hu⟩
         by_cases hlj : j < n
         ·have hwl : wd K (k + 1) < 1099511627776 := by omega
          obtain ⟨ci, i1, i2, i3, i4, i5, i6, i7⟩ := mkI_row hM (i := i) (by rw [hr.rows]; exact hlt) (by rw [hr.cols i hlt]; omega)
          obtain ⟨ck, k1, k2, k3, k4, k5, k6, k7⟩ := mkI_row hM (i := k) (by rw [hr.rows]; exact hkn) (by rw [hr.cols k hkn]; omega)
          rw [hr.cols i hlt] at i1
          rw [hr.cols k hkn] at k1
          have d1 := rd_iC k2 (n := k) (by rw [hr.cols k hkn]; exact hkn)
          have d2 := rd_iC k2 (n := j) (by rw [hr.cols k hkn]; exact hlj)
          have d3 := rd_iC i2 (n := k) (by rw [hr.cols i hlt]; exact hkn)
          have d4 := rd_iC i2 (n := j) (by rw [hr.cols i hlt]; exact hlj)
          refine W.rseq ?_
          simp (disch := first | omega | (simp only [vd]; done) | (simp only [vd]; omega)) only [vs, reduceIte, Nat.reduceEqDiff, ej, e3]
          refine W.cond true (by rfl) (fun _ => ?_) nofun
          refine W.skip ?_
          simp (disch := first | omega | (simp only [vd]; done) | (simp only [vd]; omega)) only [vs, reduceIte, Nat.reduceEqDiff]
          refine ⟨hlj, ?_⟩
          refine W.dseqL (fun _ => True) [false, false, false, false, false, false, false, false, false, false, false, false, false, false, true, false, false, false, false, false, false, false, false, false, false, false, false, false, false, true, true, false, false] (by rfl) ?_
          simp (disch := first | omega | (simp only [vd]; done) | (simp only [vd]; omega)) only [vs, reduceIte, Nat.reduceEqDiff, e4, e8, e10, ej, Int.toNat_natCast, k1, i1, d1, d4]
          refine Mul_r (ent R k k) (ent R i j) (hr.okr hkn hkn hwl) (hr.okr hlt hlj hwl) fun g1 hg1 => ?_
          simp (disch := first | omega | (simp only [vd]; done) | (simp only [vd]; omega)) only [vs, reduceIte, Nat.reduceEqDiff, gr_le hg1, gr0_le hg1, rd1_le hg1, rdN_le hg1, e4, e8, e10, ej, k1, i1, d2, d3, Int.toNat_natCast]
          refine Mul_r (ent R i k) (ent R k j) (hr.okr hlt hkn hwl) (hr.okr hkn hlj hwl) fun g2 hg2 => ?_
          simp (disch := first | omega | (simp only [vd]; done) | (simp only [vd]; omega)) only [vs, reduceIte, Nat.reduceEqDiff, gr_le hg2, gr0_le hg2]
          have v1 := hr.val k k hkn hkn
          have v2 := hr.val i j hlt hlj
          have v3 := hr.val i k hlt hkn
          have v4 := hr.val k j hkn hlj
          rw [stp_at (by omega)] at v1 v2 v3 v4
          rw [v1, v2, v3, v4]
          have s1 := (hsk k k hkn hkn).mul (hsk i j hlt hlj)
          have s2 := (hsk i k hlt hkn).mul (hsk k j hkn hlj)
          have s3 := s1.sub s2
          refine Sub_r (cz _) (cz _) (Okr.cz s1 (by omega)) (Okr.cz s2 (by omega)) fun g3 hg3 => ?_
          rw [iz_cz, iz_cz]
          have hg123 := hg1.trans (hg2.trans hg3)
          simp (disch := first | omega | (simp only [vd]; done) | (simp only [vd]; omega)) only [vs, reduceIte, Nat.reduceEqDiff, gr_le hg3, gr0_le hg3, Value.cells]
          refine ⟨gr0_p1, ?_⟩
          have hcG3 : Cell (g3.push ⟨39, 0, [.bool (cz (A k k * A i j - A i k * A k j)).1, u32S (cz (A k k * A i j - A i k * A k j)).2]⟩) g3.next 39 [.bool (cz (A k k * A i j - A i k * A k j)).1, u32S (cz (A k k * A i j - A i k * A k j)).2] := Cell.new
          have hlG3 := VH.le_push g3 ⟨39, 0, [.bool (cz (A k k * A i j - A i k * A k j)).1, u32S (cz (A k k * A i j - A i k * A k j)).2]⟩
          have hnG3 := next_push (h := g3) (B := ⟨39, 0, [.bool (cz (A k k * A i j - A i k * A k j)).1, u32S (cz (A k k * A i j - A i k * A k j)).2]⟩)
          generalize g3.push ⟨39, 0, [.bool (cz (A k k * A i j - A i k * A k j)).1, u32S (cz (A k k * A i j - A i k * A k j)).2]⟩ = G3 at *
          refine W.gen [2, 3, 4, 6, 7, 8, 10, 11, 12, 38, 39] (fun e he => ?_)
          simp only [List.forall_mem_cons, List.not_mem_nil, false_implies, implies_true, and_true, e0_zero, e0_succ, put_some, put_none, reduceIte, Nat.reduceEqDiff, e2, e3, e4, e6, e7, e8, e10, ej, e38, e39] at he
          obtain ⟨e2, e3, e4, e6, e7, e8, e10, e11, e12, e38, e39⟩ := he
          have hl5 := hg123.trans hlG3
          have hcc := (hc.mono hl5).rd2
          refine W.drawL (fun _ => True) [false, false, false, false, false, false, false, true, false, false, false, false, false, false] (by rfl) ?_
          simp (disch := first | omega | (simp only [vd]; done) | (simp only [vd]; omega)) only [vs, reduceIte, Nat.reduceEqDiff, e4, e7, e10, e11, e12, hcG3.rd2, hcc, rd1_le hl5, i1, Int.toNat_natCast]
          refine DivMod_r (cz _) lx (Okr.cz s3 (by omega)) ⟨by omega, hlx⟩ fun ok g4 hg4 => ?_
          rw [iz_cz]
          have s4 := s3.div (iz lx)
          have hnx : ∀ i' j', i' < n → j' < n → stp A (iz lx) k i (j + 1) i' j' = if i' = i ∧ j' = j then (A k k * A i j - A i k * A k j) / iz lx else stp A (iz lx) k i j i' j' := by
           intro i' j' _ _
           rw [stp_next hki hkj, stp_at (i' := k) (j' := k) (by omega), stp_at (i' := i) (j' := j) (by omega), stp_at (i' := i) (j' := k) (by omega), stp_at (i' := k) (j' := j) (by omega)]
          generalize (A k k * A i j - A i k * A k j) / iz lx = v at *
          have hg : h5.le g4 := hl5.trans hg4
          have hB := hg.2 ci i4
          rw [i2] at hB
          have hw := wr_iC (n := j) (x0 := (cz v).1) (x1 := (cz v).2) hB (by rw [hr.cols i hlt]; exact hlj)
          simp (disch := first | omega | (simp only [vd]; done) | (simp only [vd]; omega)) only [vs, reduceIte, Nat.reduceEqDiff, gr_le hg4, gr0_le hg4, hw, extV, Int.toNat_natCast]
          refine ⟨gr0_set hB, ?_⟩
          simp (disch := first | omega | (simp only [vd]; done) | (simp only [vd]; omega)) only [vs, reduceIte, Nat.reduceEqDiff, PE, e2, e3, e4, e6, e7, e8, e10, e11, e38, e39]
          have hc4 := (hc.mono hg)
          exact ⟨_, by omega, i7 g4 hg ((R.getD i []).set j (cz v)) (by rw [List.length_set]), hr.set hlt hlj (Lim_dig _) (Nat.le_trans s4 (by omega)) (iz_cz v) trivial hnx, hc4.set_ne (hc4.ne hB (by decide)), hu.trans ((Up.of_le hg hu.1).trans (.set i3))⟩
         ·obtain rfl : j = n := by omega
          refine W.rseq ?_
          simp (disch := first | omega | (simp only [vd]; done) | (simp only [vd]; omega)) only [vs, reduceIte, Nat.reduceEqDiff, ej, e3]
          refine W.cond false (by rfl) nofun (fun _ => W.exit ?_)
          simp (disch := first | omega | (simp only [vd]; done) | (simp only [vd]; omega)) only [vs, reduceIte, Nat.reduceEqDiff, PE, e2, e3, e4, e6, e7, e8, e10, e38, e39]
          exact ⟨R, hM, hr, hc, hu⟩
        ·rintro x e h6 ⟨rfl, R, ⟨e2, e3, e4, e6, e7⟩, e38, e39, e8, e10, hM, hr, hc, hu⟩
         simp (disch := first | omega | (simp only [vd]; done) | (simp only [vd]; omega)) only [vs, reduceIte, Nat.reduceEqDiff, PE, e2, e3, e4, e6, e7, e8, e10, e38, e39]
         exact ⟨R, hM, by omega, hr.congr (fun i' j' _ hj => stp_row hj), hc, hu⟩
       ·obtain rfl : i = n := by omega
        refine W.rseq ?_
        simp (disch := first | omega | (simp only [vd]; done) | (simp only [vd]; omega)) only [vs, reduceIte, Nat.reduceEqDiff, ei, e3]
        refine W.cond false (by rfl) nofun (fun _ => W.exit ?_)
        simp (disch := first | omega | (simp only [vd]; done) | (simp only [vd]; omega)) only [vs, reduceIte, Nat.reduceEqDiff, PE, e2, e3, e4, e6, e7, e8, e38, e39]
        exact ⟨R, hM, hr.congr (fun i j hi hj => stp_end hi), hc, hu⟩
      ·rintro e h5 ⟨R, ⟨e2, e3, e4, e6, e7⟩, e38, e39, e8, hM, hr, hc, hu⟩
       obtain ⟨ck, k1, k2, k3, k4, k5, k6, k7⟩ := mkI_row hM (i := k) (by rw [hr.rows]; exact hkn) (by rw [hr.cols k hkn]; omega)
       rw [hr.cols k hkn] at k1
       have d1 := rd_iC k2 (n := k) (by rw [hr.cols k hkn]; exact hkn)
       have hw := hc.wr2 (y0 := .bool (ent R k k).1) (y1 := u32S (ent R k k).2)
       refine W.reg ?_
       simp (disch := first | omega | (simp only [vd]; done) | (simp only [vd]; omega)) only [vs, reduceIte, Nat.reduceEqDiff, e4, e7, e8, e38, e39, k1, d1, hw, Int.toNat_natCast]
       refine ⟨R, Elim.step A (iz lx) k, ent R k k, neg, ?_⟩
       simp (disch := first | omega | (simp only [vd]; done) | (simp only [vd]; omega)) only [vs, reduceIte, Nat.reduceEqDiff, PE, e2, e3, e4, e6, e7]
       refine ⟨hM.cell hc, hr, hc.set, hr.lim k k hkn hkn, Nat.le_trans (hr.len k k hkn hkn) (by omega), hu.trans (.set hr7), ?_⟩
       rw [hr.val k k hkn hkn, ← Nat.sub_sub]
       unfold Elim.step at hD ⊢
       rw [if_neg (by omega)]
       exact hD
    ·obtain rfl : p = n := by omega
     rw [piv_none (fun q h1 h2 => hz q h1 (by omega))] at hD
     simp only at hD
     refine W.seq (W.rseq ?_)
     simp (disch := first | omega | (simp only [vd]; done) | (simp only [vd]; omega)) only [vs, reduceIte, Nat.reduceEqDiff, e3, e9]
     refine W.cond true (by rfl) (fun _ => ?_) nofun
     rw [← hD] at hq
     obtain ⟨h4, k1, k2⟩ := fin_0 (fn := Try.f100) hle hR (by omega) (Nat.le_refl _) hH3 rfl hq
     refine W.rseq ?_
     simp (disch := first | omega | (simp only [vd]; done) | (simp only [vd]; omega)) only [vs, reduceIte, Nat.reduceEqDiff, e2, k1]
     refine W.ret ⟨.inr rfl, ?_⟩
     change Fin cfg _ _ _ _
     exact k2 _ (by simp (disch := first | omega | (simp only [vd]; done) | (simp only [vd]; omega)) only [vs, reduceIte, Nat.reduceEqDiff, e2])
  ·rintro e h' ei ⟨R, A, lx, neg, ⟨e2, e3, e4, e6, e7⟩, hM, hr, hc5, hlx, hll, hu, hD⟩
   refine ⟨R, A, lx, neg, ?_⟩
   simp (disch := first | omega | (simp only [vd]; done) | (simp only [vd]; omega)) only [vs, reduceIte, Nat.reduceEqDiff, PE, e2, e3, e4, e6, e7]
   exact ⟨hM, hr, hc5, hlx, hll, hu, hD⟩
 ·rintro e h' ⟨R, A, lx, neg, ⟨e2, e3, e4, e6, e7⟩, hM, hr, hc5, hlx, hll, hu, hD⟩
  rw [Nat.sub_self, elim] at hD
  have hH : H.le h' := hu.le (VH.le_refl _) (Nat.le_refl _)
  cases neg with
  | true =>
   skip
   refine W.seq (W.rseq ?_)
   simp (disch := first | omega | (simp only [vd]; done) | (simp only [vd]; omega)) only [vs, reduceIte, Nat.reduceEqDiff, e6]
   refine W.cond true (by rfl) (fun _ => ?_) nofun
   refine W.rseq ?_
   simp (disch := first | omega | (simp only [vd]; done) | (simp only [vd]; omega)) only [vs, reduceIte, Nat.reduceEqDiff, e7, hc5.rd2]
   refine Neg_r lx ⟨by omega, hlx⟩ fun h6 hx6 => ?_
   rw [if_pos rfl] at hD
   rw [hD]
   obtain ⟨h7, k1, k2, k3, k4⟩ := fin_i (x := cz (det n (fm m))) hle hR (by omega) (Nat.le_refl _) (hH.trans hx6)
   simp (disch := first | omega | (simp only [vd]; done) | (simp only [vd]; omega)) only [vs, reduceIte, Nat.reduceEqDiff, e2, k1]
   refine W.ret ⟨.inr rfl, _, _, _, .refl _ _, ress_c rfl ?_, hq _ k4⟩
   simp (disch := first | omega | (simp only [vd]; done) | (simp only [vd]; omega)) only [vs, reduceIte, Nat.reduceEqDiff, e2, k3]
  | false =>
   skip
   refine W.seq (W.rseq ?_)
   simp (disch := first | omega | (simp only [vd]; done) | (simp only [vd]; omega)) only [vs, reduceIte, Nat.reduceEqDiff, e6]
   refine W.cond false (by rfl) nofun (fun _ => ?_)
   refine W.skip ?_
   simp (disch := first | omega | (simp only [vd]; done) | (simp only [vd]; omega)) only [vs, reduceIte, Nat.reduceEqDiff]
   rw [if_neg (by decide)] at hD
   refine W.rseq ?_
   simp (disch := first | omega | (simp only [vd]; done) | (simp only [vd]; omega)) only [vs, reduceIte, Nat.reduceEqDiff, e7, hc5.rd2]
   refine Normalize_r lx ⟨by omega, hlx⟩ fun h6 hx6 => ?_
   rw [hD]
   obtain ⟨h7, k1, k2, k3, k4⟩ := fin_i (x := cz (det n (fm m))) hle hR (by omega) (Nat.le_refl _) (hH.trans hx6)
   simp (disch := first | omega | (simp only [vd]; done) | (simp only [vd]; omega)) only [vs, reduceIte, Nat.reduceEqDiff, e2, k1]
   refine W.ret ⟨.inr rfl, _, _, _, .refl _ _, ress_c rfl ?_, hq _ k4⟩
   simp (disch := first | omega | (simp only [vd]; done) | (simp only [vd]; omega)) only [vs, reduceIte, Nat.reduceEqDiff, e2, k3]
end Go.Proofs.Ytjpknabdmmkobaa
end
