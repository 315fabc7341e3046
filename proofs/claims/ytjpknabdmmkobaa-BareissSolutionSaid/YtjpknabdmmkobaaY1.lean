/- Part 13 of the proof: Dt, Du, Dv, L5a. -/
import Derived.Test.YtjpknabdmmkobaaZ12
set_option linter.unusedVariables false
set_option linter.unusedSimpArgs false
section
namespace Go.Dt
abbrev Rm := Nat → Nat → Rat
def sm : Nat → (Nat → Rat) → Rat
 | 0, _ => 0
 | n + 1, f => sm n f + f n
theorem sm_congr {f g : Nat → Rat} : ∀ {n : Nat}, (∀ i, i < n → f i = g i) → sm n f = sm n g
 | 0, _ => rfl
 | n + 1, h => by rw [sm, sm, sm_congr (fun i hi => h i (by omega)), h n (by omega)]
theorem sm_add (f g : Nat → Rat) : ∀ n, sm n (fun i => f i + g i) = sm n f + sm n g
 | 0 => by simp only [sm]; grind
 | n + 1 => by simp only [sm]; rw [sm_add f g n]; grind
theorem sm_mul (c : Rat) (f : Nat → Rat) : ∀ n, sm n (fun i => c * f i) = c * sm n f
 | 0 => by simp only [sm]; grind
 | n + 1 => by simp only [sm]; rw [sm_mul c f n]; grind
theorem sm_zero {f : Nat → Rat} : ∀ {n : Nat}, (∀ i, i < n → f i = 0) → sm n f = 0
 | 0, _ => rfl
 | n + 1, h => by rw [sm, sm_zero (fun i hi => h i (by omega)), h n (by omega)]; grind
theorem sm_one {f : Nat → Rat} {r : Nat} : ∀ {n : Nat}, r < n → (∀ i, i < n → i ≠ r → f i = 0) → sm n f = f r
 | 0, h, _ => absurd h (Nat.not_lt_zero _)
 | n + 1, h, h2 => by
  rw [sm]
  by_cases hr : r = n
  ·subst hr
   rw [sm_zero (fun i hi => h2 i (by omega) (by omega))]; grind
  ·rw [sm_one (by omega) (fun i hi => h2 i (by omega)), h2 n (by omega) (by omega)]; grind
theorem sm_two {f : Nat → Rat} {r s : Nat} : ∀ {n : Nat}, r < s → s < n → (∀ i, i < n → i ≠ r → i ≠ s → f i = 0) → sm n f = f r + f s
 | 0, _, h, _ => absurd h (Nat.not_lt_zero _)
 | n + 1, hrs, h, h2 => by
  rw [sm]
  by_cases hr : s = n
  ·subst hr
   rw [sm_one hrs (fun i hi hi2 => h2 i (by omega) hi2 (by omega))]
  ·rw [sm_two hrs (by omega) (fun i hi => h2 i (by omega)), h2 n (by omega) (by omega) (by omega)]; grind
theorem sm_succ (f : Nat → Rat) : ∀ n, sm (n + 1) f = f 0 + sm n (fun i => f (i + 1))
 | 0 => by simp only [sm]; grind
 | n + 1 => by rw [sm, sm_succ f n, sm]; grind
theorem sm_swap (f : Nat → Nat → Rat) (m : Nat) : ∀ n, sm n (fun i => sm m (fun j => f i j)) = sm m (fun j => sm n (fun i => f i j))
 | 0 => by rw [sm, sm_zero]; intro i _; rfl
 | n + 1 => by rw [sm, sm_swap f m n, ← sm_add]; rfl
def mnr (A : Rm) (i : Nat) : Rm := fun a b => A (if a < i then a else a + 1) (b + 1)
def sgn (i : Nat) : Rat := if i % 2 = 0 then 1 else -1
def D : Nat → Rm → Rat
 | 0, _ => 1
 | n + 1, A => sm (n + 1) (fun i => sgn i * A i 0 * D n (mnr A i))
theorem D_succ (n : Nat) (A : Rm) : D (n + 1) A = sm (n + 1) (fun i => sgn i * A i 0 * D n (mnr A i)) := rfl
def Eqr (n : Nat) (A B : Rm) : Prop := ∀ i j, i < n → j < n → A i j = B i j
theorem D_congr : ∀ {n : Nat} {A B : Rm}, Eqr n A B → D n A = D n B
 | 0, A, B, _ => rfl
 | n + 1, A, B, h => by
  unfold D
  refine sm_congr (fun i hi => ?_)
  have h2 : D n (mnr A i) = D n (mnr B i) := D_congr (fun a b ha hb => by
   unfold mnr
   exact h _ _ (by split <;> omega) (by omega))
  rw [h i 0 hi (by omega), h2]
def upd (A : Rm) (r : Nat) (v : Nat → Rat) : Rm := fun i j => if i = r then v j else A i j
theorem mnr_upd_self (A : Rm) (r : Nat) (v : Nat → Rat) : mnr (upd A r v) r = mnr A r := by
 funext a b
 unfold mnr upd
 rw [if_neg]
 split <;> omega
theorem mnr_upd (A : Rm) {r i : Nat} (v : Nat → Rat) (h : i ≠ r) : mnr (upd A r v) i = upd (mnr A i) (if r < i then r else r - 1) (fun j => v (j + 1)) := by
 funext a b
 unfold mnr upd
 have : ((if a < i then a else a + 1) = r) ↔ (a = if r < i then r else r - 1) := by
  split <;> split <;> omega
 simp only [this]
theorem D_lin (c : Rat) (u v : Nat → Rat) : ∀ {n r : Nat} {A : Rm}, r < n → D n (upd A r (fun j => u j + c * v j)) = D n (upd A r u) + c * D n (upd A r v) := by
 intro n
 induction n generalizing u v with
 | zero => intro r A h; exact absurd h (Nat.not_lt_zero _)
 | succ n ih =>
  intro r A h
  unfold D
  rw [← sm_mul, ← sm_add]
  refine sm_congr (fun i hi => ?_)
  by_cases hir : i = r
  ·subst hir
   rw [mnr_upd_self, mnr_upd_self, mnr_upd_self]
   simp only [upd, if_true]
   grind
  ·rw [mnr_upd A _ hir, mnr_upd A _ hir, mnr_upd A _ hir, ih (fun j => u (j + 1)) (fun j => v (j + 1)) (by split <;> omega)]
   simp only [upd, if_neg hir]
   grind
theorem sgn_succ (i : Nat) : sgn (i + 1) = - sgn i := by
 unfold sgn
 by_cases h : i % 2 = 0
 ·rw [if_pos h, if_neg (by omega)]
 ·rw [if_neg h, if_pos (by omega)]; grind
theorem D_adj : ∀ {n r : Nat} {A : Rm}, r + 1 < n → (∀ j, A r j = A (r + 1) j) → D n A = 0 := by
 intro n
 induction n with
 | zero => intro r A h; exact absurd h (Nat.not_lt_zero _)
 | succ n ih =>
  intro r A h h2
  unfold D
  rw [sm_two (r := r) (s := r + 1) (by omega) h]
  ·have h3 : mnr A r = mnr A (r + 1) := by
    funext a b
    unfold mnr
    by_cases h4 : a = r
    ·subst h4
     rw [if_neg (by omega), if_pos (by omega), h2]
    ·have h5 : (a < r) ↔ (a < r + 1) := by omega
     simp only [h5]
   rw [h3, sgn_succ, h2 0]
   grind
  ·intro i hi h3 h4
   rw [ih (r := if r < i then r else r - 1) (by split <;> omega)]
   ·grind
   ·intro j
    unfold mnr
    by_cases h5 : r < i
    ·rw [if_pos h5, if_pos h5, if_pos (by omega)]
     exact h2 _
    ·rw [if_neg h5, if_neg (by omega), if_neg (by omega)]
     rw [show r - 1 + 1 = r by omega]
     exact h2 _
theorem upd_self (A : Rm) (r : Nat) : upd A r (A r) = A := by
 funext a b
 unfold upd
 split
 ·rename_i h; rw [h]
 ·rfl
theorem upd_upd (A : Rm) (r : Nat) (u v : Nat → Rat) : upd (upd A r u) r v = upd A r v := by
 funext a b
 unfold upd
 split <;> rfl
theorem upd_comm (A : Rm) {r s : Nat} (u v : Nat → Rat) (h : r ≠ s) : upd (upd A r u) s v = upd (upd A s v) r u := by
 funext a b
 unfold upd
 split
 ·split
  ·omega
  ·rfl
 ·rfl
theorem D_add {n r : Nat} {A : Rm} (u v : Nat → Rat) (h : r < n) : D n (upd A r (fun j => u j + v j)) = D n (upd A r u) + D n (upd A r v) := by
 have := D_lin 1 u v (A := A) h
 rw [show (fun j => u j + 1 * v j) = fun j => u j + v j by funext j; grind] at this
 rw [this]; grind
def sw (A : Rm) (r s : Nat) : Rm := fun i j => A (if i = r then s else if i = s then r else i) j
theorem D_two {n r s : Nat} {A : Rm} (hr : r < n) (hs : s < n) (hrs : r ≠ s) (u v : Nat → Rat) : D n (upd (upd A r (fun j => u j + v j)) s (fun j => u j + v j)) = D n (upd (upd A r u) s u) + D n (upd (upd A r u) s v) + D n (upd (upd A r v) s u) + D n (upd (upd A r v) s v) := by
 have h1 (w : Nat → Rat) : D n (upd (upd A r (fun j => u j + v j)) s w) = D n (upd (upd A r u) s w) + D n (upd (upd A r v) s w) := by
  rw [upd_comm _ _ _ hrs, D_add _ _ hr, upd_comm _ _ _ (Ne.symm hrs), upd_comm (A := A) (r := s) (s := r) w v (Ne.symm hrs)]
 rw [D_add _ _ hs, h1 u, h1 v]
 grind
theorem sw_upd {A : Rm} {r s : Nat} (hrs : r ≠ s) : upd (upd A r (A s)) s (A r) = sw A r s := by
 funext a b
 unfold upd sw
 by_cases ha : a = s
 ·rw [if_pos ha, if_neg (by omega), if_pos ha]
 ·rw [if_neg ha]
  by_cases hb : a = r
  ·rw [if_pos hb, if_pos hb]
  ·rw [if_neg hb, if_neg hb, if_neg ha]
theorem D_sw' {n r s : Nat} {A : Rm} (hr : r < n) (hs : s < n) (hrs : r ≠ s) (H : ∀ B : Rm, (∀ j, B r j = B s j) → D n B = 0) : D n (sw A r s) = - D n A := by
 have h0 : ∀ w, D n (upd (upd A r w) s w) = 0 := fun w => H _ (fun j => by
  unfold upd
  rw [if_neg hrs, if_pos rfl, if_pos rfl])
 have h1 := D_two (A := A) hr hs hrs (A r) (A s)
 have h4 : upd (upd A r (A r)) s (A s) = A := by rw [upd_self, upd_self]
 rw [h0, h0, h0, h4, sw_upd hrs] at h1
 grind
theorem D_swa {n r : Nat} {A : Rm} (h : r + 1 < n) : D n (sw A r (r + 1)) = - D n A :=
 D_sw' (by omega) h (by omega) (fun _ hB => D_adj h hB)
theorem D_eqr : ∀ {d n r : Nat} {A : Rm}, r + d + 1 < n → (∀ j, A r j = A (r + d + 1) j) → D n A = 0
 | 0, n, r, A, h, h2 => D_adj h h2
 | d + 1, n, r, A, h, h2 => by
  have h3 := D_swa (A := A) (n := n) (r := r) (by omega)
  have h4 : D n (sw A r (r + 1)) = 0 := D_eqr (d := d) (r := r + 1) (by omega) (fun j => by
   unfold sw
   rw [if_neg (by omega), if_pos rfl, if_neg (by omega), if_neg (by omega), show r + 1 + d + 1 = r + (d + 1) + 1 by omega]
   exact h2 j)
  grind
theorem D_eq {n r s : Nat} {A : Rm} (hr : r < n) (hs : s < n) (hrs : r ≠ s) (h : ∀ j, A r j = A s j) : D n A = 0 := by
 rcases Nat.lt_or_gt_of_ne hrs with h1 | h1
 ·exact D_eqr (d := s - r - 1) (r := r) (by omega) (fun j => by rw [show r + (s - r - 1) + 1 = s by omega]; exact h j)
 ·exact D_eqr (d := r - s - 1) (r := s) (by omega) (fun j => by rw [show s + (r - s - 1) + 1 = r by omega]; exact (h j).symm)
theorem D_op {n r s : Nat} {A : Rm} (c : Rat) (hr : r < n) (hs : s < n) (hrs : r ≠ s) : D n (upd A r (fun j => A r j + c * A s j)) = D n A := by
 rw [D_lin c (A r) (A s) hr]
 have h1 : D n (upd A r (A s)) = 0 := D_eq hr hs hrs (fun j => by
  unfold upd
  rw [if_pos rfl, if_neg (Ne.symm hrs)])
 have h2 : D n (upd A r fun j => A r j) = D n A := congrArg _ (upd_self A r)
 have h3 : D n (upd A r fun j => A s j) = 0 := h1
 rw [h2, h3]; grind
theorem D_sw {n r s : Nat} {A : Rm} (hr : r < n) (hs : s < n) (hrs : r ≠ s) : D n (sw A r s) = - D n A :=
 D_sw' hr hs hrs (fun _ hB => D_eq hr hs hrs hB)
def sch (A : Rm) : Rm := fun i j => A (i + 1) (j + 1) - A (i + 1) 0 / A 0 0 * A 0 (j + 1)
def clr (A : Rm) (t : Nat) : Rm := fun i j => if 0 < i ∧ i ≤ t then A i j - A i 0 / A 0 0 * A 0 j else A i j
theorem D_clr {n : Nat} {A : Rm} : ∀ t, t < n → D n (clr A t) = D n A
 | 0, _ => congrArg _ (by funext i j; unfold clr; rw [if_neg (by omega)])
 | t + 1, h => by
  rw [← D_clr (A := A) t (by omega), ← D_op (A := clr A t) (r := t + 1) (s := 0) (- (A (t + 1) 0 / A 0 0)) h (by omega) (by omega)]
  congr 1
  funext i j
  unfold clr upd
  by_cases hi : i = t + 1
  ·subst hi
   rw [if_pos rfl, if_pos (by omega)]
   dsimp only
   rw [if_neg (by omega), if_neg (by omega)]
   grind
  ·rw [if_neg hi]
   have : (0 < i ∧ i ≤ t + 1) ↔ (0 < i ∧ i ≤ t) := by omega
   simp only [this]
theorem D_sch {n : Nat} {A : Rm} (h : A 0 0 ≠ 0) : D (n + 1) A = A 0 0 * D n (sch A) := by
 rw [← D_clr (A := A) n (by omega), D_succ]
 rw [sm_one (r := 0) (by omega)]
 ·have h1 : D n (mnr (clr A n) 0) = D n (sch A) := D_congr (fun a b ha hb => by
   show clr A n (if a < 0 then a else a + 1) (b + 1) = sch A a b
   rw [if_neg (Nat.not_lt_zero _)]
   unfold clr sch
   rw [if_pos (by omega)])
  have h2 : clr A n 0 0 = A 0 0 := by unfold clr; rw [if_neg (by omega)]
  have h3 : sgn 0 = 1 := rfl
  rw [h1, h2, h3]
  grind
 ·intro i hi h2
  have h3 : clr A n i 0 = 0 := by unfold clr; rw [if_pos (by omega)]; grind
  rw [h3]; grind
theorem D_col0 {n : Nat} {A : Rm} (h : ∀ i, i < n + 1 → A i 0 = 0) : D (n + 1) A = 0 := by
 rw [D_succ]
 exact sm_zero (fun i hi => by rw [h i hi]; grind)
theorem piv_cases (n : Nat) (A : Rm) : (∀ i, i < n → A i 0 = 0) ∨ ∃ p, p < n ∧ A p 0 ≠ 0 := by
 by_cases h : ∃ p, p < n ∧ A p 0 ≠ 0
 ·exact .inr h
 ·exact .inl (fun i hi => Classical.byContradiction (fun h2 => h ⟨i, hi, h2⟩))
end Go.Dt
end

section
namespace Go.Dt
open Go.Elim
def its (A : Rm) : Nat → Rm
 | 0 => A
 | k + 1 => sch (its A k)
def prd (A : Rm) : Nat → Rat
 | 0 => 1
 | k + 1 => prd A k * its A k 0 0
theorem prd_ne {A : Rm} : ∀ {k : Nat}, (∀ l, l < k → its A l 0 0 ≠ 0) → prd A k ≠ 0
 | 0, _ => by simp only [prd]; grind
 | k + 1, h => by
  have h1 := prd_ne (k := k) (fun l hl => h l (by omega))
  have h2 := h k (by omega)
  simp only [prd]
  grind
theorem D_its {A : Rm} : ∀ {k m : Nat}, (∀ l, l < k → its A l 0 0 ≠ 0) → D (k + m) A = prd A k * D m (its A k)
 | 0, m, _ => by simp only [prd, its, Nat.zero_add]; grind
 | k + 1, m, h => by
  rw [show k + 1 + m = k + (m + 1) by omega, D_its (fun l hl => h l (by omega)), D_sch (h k (by omega))]
  simp only [prd, its]
  grind
theorem its_map (A : Rm) (f g : Nat → Nat) (k : Nat) (hf : ∀ a, a < k → f a = a) (hg : ∀ a, a < k → g a = a) (hf2 : ∀ a, k ≤ a → k ≤ f a) (hg2 : ∀ a, k ≤ a → k ≤ g a) :
  ∀ t, t ≤ k → ∀ a b, its (fun a b => A (f a) (g b)) t a b = its A t (f (a + t) - t) (g (b + t) - t)
 | 0, _, _, _ => rfl
 | t + 1, ht, a, b => by
  have h1 := its_map A f g k hf hg hf2 hg2 t (by omega)
  have hft : f (0 + t) - t = 0 := by rw [hf _ (by omega)]; omega
  have hgt : g (0 + t) - t = 0 := by rw [hg _ (by omega)]; omega
  have hf3 : ∀ a, f (a + 1 + t) - t = f (a + (t + 1)) - (t + 1) + 1 := by
   intro a
   rw [show a + 1 + t = a + (t + 1) by omega]
   by_cases ha : a + (t + 1) < k
   ·rw [hf _ ha]; omega
   ·have := hf2 (a + (t + 1)) (by omega); omega
  have hg3 : ∀ a, g (a + 1 + t) - t = g (a + (t + 1)) - (t + 1) + 1 := by
   intro a
   rw [show a + 1 + t = a + (t + 1) by omega]
   by_cases ha : a + (t + 1) < k
   ·rw [hg _ ha]; omega
   ·have := hg2 (a + (t + 1)) (by omega); omega
  simp only [its]
  unfold sch
  rw [h1 0 0, h1 (a + 1) (b + 1), h1 (a + 1) 0, h1 0 (b + 1), hft, hgt, hf3, hg3]
theorem prd_eq {A B : Rm} : ∀ {k : Nat}, (∀ l, l < k → its A l 0 0 = its B l 0 0) → prd A k = prd B k
 | 0, _ => rfl
 | k + 1, h => by
  simp only [prd]
  rw [prd_eq (fun l hl => h l (by omega)), h k (by omega)]
def brd (A : Rm) (k i j : Nat) : Rm := fun a b => A (if a < k then a else k + i) (if b < k then b else k + j)
theorem its_brd (A : Rm) (k i j : Nat) : (∀ l, l < k → its (brd A k i j) l 0 0 = its A l 0 0) ∧ its (brd A k i j) k 0 0 = its A k i j := by
 have hm := its_map A (fun a => if a < k then a else k + i) (fun b => if b < k then b else k + j) k (fun a ha => if_pos ha) (fun a ha => if_pos ha) (fun a ha => by show k ≤ if a < k then a else k + i; rw [if_neg (by omega)]; omega) (fun a ha => by show k ≤ if a < k then a else k + j; rw [if_neg (by omega)]; omega)
 have hb : brd A k i j = fun a b => A ((fun a => if a < k then a else k + i) a) ((fun b => if b < k then b else k + j) b) := rfl
 refine ⟨fun l hl => ?_, ?_⟩
 ·rw [hb, hm l (by omega)]
  simp only [Nat.zero_add, hl, if_true, Nat.sub_self]
 ·rw [hb, hm k (Nat.le_refl _)]
  simp only [Nat.zero_add, Nat.lt_irrefl, if_false, Nat.add_sub_cancel_left]
theorem D_one (A : Rm) : D 1 A = A 0 0 := by
 simp only [sm, D, sgn]
 grind
theorem D_brd {A : Rm} {k : Nat} (i j : Nat) (h : ∀ l, l < k → its A l 0 0 ≠ 0) : D (k + 1) (brd A k i j) = prd A k * its A k i j := by
 have h1 := its_brd A k i j
 rw [D_its (k := k) (m := 1) (fun l hl => by rw [h1.1 l hl]; exact h l hl), D_one, h1.2, prd_eq h1.1]
def Wh (q : Rat) : Prop := ∃ z : Int, q = (z : Rat)
theorem Wh.add {p q : Rat} : Wh p → Wh q → Wh (p + q)
 | ⟨a, ha⟩, ⟨b, hb⟩ => ⟨a + b, by rw [ha, hb, Rat.intCast_add]⟩
theorem Wh.mul {p q : Rat} : Wh p → Wh q → Wh (p * q)
 | ⟨a, ha⟩, ⟨b, hb⟩ => ⟨a * b, by rw [ha, hb, Rat.intCast_mul]⟩
theorem Wh.sm {f : Nat → Rat} : ∀ {n : Nat}, (∀ i, i < n → Wh (f i)) → Wh (sm n f)
 | 0, _ => ⟨0, rfl⟩
 | n + 1, h => Wh.add (Wh.sm (fun i hi => h i (by omega))) (h n (by omega))
theorem Wh.sgn (i : Nat) : Wh (sgn i) := by
 unfold Dt.sgn
 split
 ·exact ⟨1, rfl⟩
 ·exact ⟨-1, rfl⟩
theorem Wh.D : ∀ {n : Nat} {A : Rm}, (∀ i j, Wh (A i j)) → Wh (D n A)
 | 0, _, _ => ⟨1, rfl⟩
 | n + 1, A, h => by
  rw [D_succ]
  exact Wh.sm (fun i _ => ((Wh.sgn i).mul (h i 0)).mul (Wh.D (fun _ _ => h _ _)))
def rt (A : Fm) : Rm := fun i j => (A i j : Rat)
theorem Wh.its {A : Rm} (hA : ∀ i j, Wh (A i j)) {k : Nat} (h : ∀ l, l < k → its A l 0 0 ≠ 0) (i j : Nat) : Wh (prd A k * its A k i j) := by
 rw [← D_brd i j h]
 exact Wh.D (fun _ _ => hA _ _)
theorem quo_exact {y l : Int} {z : Rat} (hl : l ≠ 0) (hz : Wh z) (h : (y : Rat) = (l : Rat) * z) : ((y / l : Int) : Rat) = z ∧ y = l * (y / l) := by
 obtain ⟨w, hw⟩ := hz
 subst hw
 rw [← Rat.intCast_mul, Rat.intCast_inj] at h
 subst h
 rw [Int.mul_ediv_cancel_left _ hl]
 exact ⟨rfl, rfl⟩
theorem stp_ok {A : Rm} {k : Nat} (hA : ∀ i j, Wh (A i j)) (h : ∀ l, l < k + 1 → its A l 0 0 ≠ 0) {p x u v l : Int} {i j : Nat}
  (hp : (p : Rat) = prd A k * its A k 0 0) (hx : (x : Rat) = prd A k * its A k (i + 1) (j + 1)) (hu : (u : Rat) = prd A k * its A k (i + 1) 0) (hv : (v : Rat) = prd A k * its A k 0 (j + 1)) (hl : (l : Rat) = prd A k) :
  (((p * x - u * v) / l : Int) : Rat) = prd A (k + 1) * its A (k + 1) i j ∧ p * x - u * v = l * ((p * x - u * v) / l) := by
 have h1 : prd A k ≠ 0 := prd_ne (fun l hl => h l (by omega))
 have h2 := h k (by omega)
 refine quo_exact ?_ (Wh.its hA h i j) ?_
 ·intro h0
  rw [h0] at hl
  exact h1 hl.symm
 ·rw [Rat.intCast_sub, Rat.intCast_mul, Rat.intCast_mul, hp, hx, hu, hv, hl]
  simp only [prd, its]
  unfold sch
  grind
structure ES (n : Nat) (d : Rat) (k : Nat) (E : Fm) (last : Int) (neg : Bool) (A : Rm) : Prop where
 wh : ∀ i j, Wh (A i j)
 dt : D n A = if neg then -d else d
 pv : ∀ l, l < k → its A l 0 0 ≠ 0
 ls : (last : Rat) = prd A k
 en : ∀ a b, k ≤ a → a < n → k ≤ b → b < n → (E a b : Rat) = prd A k * its A k (a - k) (b - k)
theorem ES.step {n k : Nat} {d : Rat} {E : Fm} {last : Int} {neg : Bool} {A : Rm} (h : ES n d k E last neg A) (hk : k < n) (h0 : E k k ≠ 0) : ES n d (k + 1) (Elim.step E last k) (E k k) neg A := by
 have h1 := h.en k k (Nat.le_refl _) hk (Nat.le_refl _) hk
 rw [Nat.sub_self] at h1
 have h2 : its A k 0 0 ≠ 0 := by
  intro h3
  rw [h3, Rat.mul_zero] at h1
  exact h0 (Rat.intCast_inj.mp h1)
 have h3 : ∀ l, l < k + 1 → its A l 0 0 ≠ 0 := by
  intro l hl
  by_cases hlk : l = k
  ·subst hlk; exact h2
  ·exact h.pv l (by omega)
 refine ⟨h.wh, h.dt, h3, h1, fun a b ha ha2 hb hb2 => ?_⟩
 have h4 := stp_ok (i := a - (k + 1)) (j := b - (k + 1)) h.wh h3 h1 (h.en a b (by omega) ha2 (by omega) hb2 |>.trans (by rw [show a - (k + 1) + 1 = a - k by omega, show b - (k + 1) + 1 = b - k by omega])) (h.en a k (by omega) ha2 (by omega) hk |>.trans (by rw [show a - (k + 1) + 1 = a - k by omega, Nat.sub_self])) (h.en k b (by omega) hk (by omega) hb2 |>.trans (by rw [show b - (k + 1) + 1 = b - k by omega, Nat.sub_self])) h.ls
 unfold Elim.step
 rw [if_pos (by omega)]
 exact h4.1
theorem ES.swp {n k p : Nat} {d : Rat} {E : Fm} {last : Int} {neg : Bool} {A : Rm} (h : ES n d k E last neg A) (hk : k < p) (hp : p < n) : ES n d k (Elim.swp E p k) last (!neg) (sw A p k) := by
 have hm := its_map A (fun i => if i = p then k else if i = k then p else i) id k (fun a ha => by rw [if_neg (by omega), if_neg (by omega)]) (fun a ha => rfl) (fun a ha => by split <;> (try split) <;> omega) (fun a ha => ha)
 have hb : sw A p k = fun a b => A ((fun i => if i = p then k else if i = k then p else i) a) (id b) := rfl
 rw [← hb] at hm
 have h1 : ∀ l, l < k → its (sw A p k) l 0 0 = its A l 0 0 := by
  intro l hl
  rw [hm l (by omega)]
  simp only [Nat.zero_add, id]
  rw [if_neg (by omega), if_neg (by omega), Nat.sub_self]
 refine ⟨fun i j => h.wh _ _, ?_, fun l hl => by rw [h1 l hl]; exact h.pv l hl, by rw [h.ls, prd_eq h1], fun a b ha ha2 hb hb2 => ?_⟩
 ·rw [D_sw hp (by omega) (by omega), h.dt]
  cases neg
  ·rfl
  ·simp only [if_true, Bool.not_true, Bool.false_eq_true, if_false]; grind
 ·unfold Elim.swp
  rw [h.en _ b (by split <;> (try split) <;> omega) (by split <;> (try split) <;> omega) hb hb2, prd_eq h1, hm k (Nat.le_refl _)]
  simp only [id]
  rw [show a - k + k = a by omega, show b - k + k = b by omega]
theorem piv_none' {A : Fm} {k : Nat} : ∀ {m p : Nat}, piv A k m p = none → ∀ q, p ≤ q → q < p + m → A q k = 0
 | 0, p, _, q, h1, h2 => by omega
 | m + 1, p, h, q, h1, h2 => by
  unfold piv at h
  split at h
  ·rename_i h0
   by_cases hq : q = p
   ·subst hq; exact h0
   ·exact piv_none' h q (by omega) (by omega)
  ·cases h
theorem ES.elim {n : Nat} {d : Rat} : ∀ {m k : Nat} {E : Fm} {last : Int} {neg : Bool} {A : Rm}, k + m = n → ES n d k E last neg A → ((elim m k E last neg : Int) : Rat) = d
 | 0, k, E, last, neg, A, hk, h => by
  have h1 := D_its (m := 0) h.pv
  rw [hk, h.dt] at h1
  unfold Elim.elim
  have h2 : D 0 (its A k) = 1 := rfl
  rw [h2, ← h.ls] at h1
  cases neg
  ·simp only [Bool.false_eq_true, if_false] at h1 ⊢
   grind
  ·simp only [if_true] at h1 ⊢
   rw [Rat.intCast_neg]
   grind
 | m + 1, k, E, last, neg, A, hk, h => by
  unfold Elim.elim
  cases hp : piv E k (m + 1) k with
  | none =>
   have h1 := D_its (m := m + 1) h.pv
   have h2 : D (m + 1) (its A k) = 0 := D_col0 (fun i hi => by
    have h3 := piv_none' hp (i + k) (by omega) (by omega)
    have h4 := h.en (i + k) k (by omega) (by omega) (Nat.le_refl _) (by omega)
    rw [h3, Nat.sub_self, Nat.add_sub_cancel] at h4
    have h5 := prd_ne h.pv
    have h6 : ((0 : Int) : Rat) = 0 := rfl
    rw [h6] at h4
    rcases Rat.mul_eq_zero.mp h4.symm with h7 | h7
    ·exact absurd h7 h5
    ·exact h7)
   rw [h2, hk, h.dt] at h1
   show ((0 : Int) : Rat) = d
   have h6 : ((0 : Int) : Rat) = 0 := rfl
   rw [h6]
   cases neg
   ·simp only [Bool.false_eq_true, if_false] at h1
    grind
   ·simp only [if_true] at h1
    grind
  | some p =>
   have hpl := piv_lt hp
   dsimp only
   split
   ·rename_i hpk
    subst hpk
    exact ES.elim (k := p + 1) (by omega) (h.step (by omega) hpl.2.2)
   ·rename_i hpk
    refine ES.elim (k := k + 1) (by omega) ((h.swp (p := p) (by omega) (by omega)).step (by omega) ?_)
    unfold Elim.swp
    rw [if_neg (Ne.symm hpk), if_pos rfl]
    exact hpl.2.2
theorem det_D (n : Nat) (A : Fm) : ((det n A : Int) : Rat) = D n (rt A) := by
 refine ES.elim (k := 0) (A := rt A) (by omega) ⟨fun i j => ⟨A i j, rfl⟩, rfl, fun l hl => absurd hl (Nat.not_lt_zero _), rfl, fun a b _ _ _ _ => ?_⟩
 simp only [prd, its, Nat.sub_zero]
 rw [Rat.one_mul]
 rfl
end Go.Dt
end

section
open Go Go.QM Go.Elim Go.Dt
namespace Go.Proofs.Ytjpknabdmmkobaa
theorem stgs_rt {A : Fm} : ∀ {k : Nat}, (∀ l, l < k → (stgs A l).1 0 0 ≠ 0) → (∀ l, l < k → its (rt A) l 0 0 ≠ 0) ∧ (((stgs A k).2 : Int) : Rat) = prd (rt A) k ∧ ∀ i j, (((stgs A k).1 i j : Int) : Rat) = prd (rt A) k * its (rt A) k i j
 | 0, _ => ⟨fun l hl => absurd hl (Nat.not_lt_zero _), rfl, fun i j => by
  simp only [prd, its]
  rw [Rat.one_mul]
  rfl⟩
 | k + 1, h => by
  obtain ⟨h1, h2, h3⟩ := stgs_rt (k := k) (fun l hl => h l (by omega))
  have hk : its (rt A) k 0 0 ≠ 0 := by
   intro h4
   have h5 := h3 0 0
   rw [h4, Rat.mul_zero] at h5
   exact h k (by omega) (Rat.intCast_inj.mp h5)
  have hh : ∀ l, l < k + 1 → its (rt A) l 0 0 ≠ 0 := by
   intro l hl
   by_cases hlk : l = k
   ·subst hlk; exact hk
   ·exact h1 l (by omega)
  exact ⟨hh, h3 0 0, fun i j => (stp_ok (fun i j => ⟨A i j, rfl⟩) hh (h3 0 0) (h3 (i + 1) (j + 1)) (h3 (i + 1) 0) (h3 0 (j + 1)) h2).1⟩
theorem stgs_exact {A : Fm} {k : Nat} (h : ∀ l, l < k + 1 → (stgs A l).1 0 0 ≠ 0) (i j : Nat) :
  (stgs A k).2 * (stgs A (k + 1)).1 i j = (stgs A k).1 0 0 * (stgs A k).1 (i + 1) (j + 1) - (stgs A k).1 (i + 1) 0 * (stgs A k).1 0 (j + 1) := by
 obtain ⟨h1, h2, h3⟩ := stgs_rt (A := A) (k := k) (fun l hl => h l (by omega))
 exact (stp_ok (fun i j => ⟨A i j, rfl⟩) (stgs_rt (k := k + 1) h).1 (h3 0 0) (h3 (i + 1) (j + 1)) (h3 (i + 1) 0) (h3 0 (j + 1)) h2).2.symm
end Go.Proofs.Ytjpknabdmmkobaa
end

section
set_option maxRecDepth 20000
open Go Go.QM Go.Elim
namespace Go.Proofs.Ytjpknabdmmkobaa
variable {h : VH} {Q : Value → VH → Prop} {c : Cw Q}
variable {P : Raw → Prop} {n w i j k p : Nat} {R : List (List Raw)} {A : Fm}
theorem rCopy_fz (m : List (List Raw)) (hm : Okm m) (hq : ∀ h1, h.le h1 → Q (mV (normM m)) h1) : Runs Try.prog cfg 22 [mV m] h Q c :=
 Runs.fz1 Try.func22 rfl rfl (rCopy_ok (Q := fun v h1 => ∃ b, v = slc b m.length ∧ MM mkI h.next h1 b (normM m) ∧ h.le h1) m hm fun b h1 hx1 hM => ⟨b, rfl, hM, hx1⟩)
  fun v h1 ⟨b, hv, hM, hx1⟩ => ⟨_, b, _, by rw [hv, show (normM m).length = m.length by simp [normM]], hM, fun h2 hu => hq h2 (hu.le hx1 (Nat.le_refl _))⟩
theorem stagesM_len {m : List (List Raw)} : (stagesM m).length = m.length := by simp [stagesM]
theorem stagesM_get {m : List (List Raw)} (hi : i < m.length) : (stagesM m).getD i [] = zmat (m.length - i) (stgs (fm m) i).1 := by simp [stagesM, hi]
theorem zmat_cols {A : Fm} (hi : i < n) : ((zmat n A).getD i []).length = n := by rw [zmat, mat_row hi]; simp
theorem zmat_ent {A : Fm} (hi : i < n) (hj : j < n) : ent (zmat n A) i j = cz (A i j) := mat_ent hi hj
set_option maxHeartbeats 4000000 in
theorem BareissRecurrence_runs (x : GridV) (hx : GridOk x) : Runs Try.prog cfg 4 [gridV x] hp0 (fun v _ => v = .bool true) := by
 obtain ⟨hg1, hg2⟩ := sqM_matK (sqG_ok hx) (most := 5) (by decide) (by decide)
 change MatK 2 (sqM x 5) at hg1
 have hs := sqM_sq hx (most := 5) (by decide) (by decide)
 refine Runs.go Try.func4 rfl rfl (.refl _ _) ?_
 refine W.rseqZ ?_
 simp (disch := first | omega | (simp only [vd]; done) | (simp only [vd]; omega)) only [vs, reduceIte, Nat.reduceEqDiff, gridV, Value.cells]
 refine WF.d0 1 rfl (WF.done ?_)
 simp (disch := first | omega | (simp only [vd]; done) | (simp only [vd]; omega)) only [vs, reduceIte, Nat.reduceEqDiff]
 refine W.rseq ?_
 simp (disch := first | omega | (simp only [vd]; done) | (simp only [vd]; omega)) only [vs, reduceIte, Nat.reduceEqDiff, ldGrid]
 refine Square_fz x 5 hx (by decide) (by decide) fun h1 hx1 => ?_
 generalize hmx : sqM x 5 = m at *
 have hml := hs.1.2.1
 have hm1 := hs.1.1
 have hwd := wd2
 simp (disch := first | omega | (simp only [vd]; done) | (simp only [vd]; omega)) only [vs, reduceIte, Nat.reduceEqDiff]
 refine W.gen [2, 3] (fun e he => ?_)
 simp only [List.forall_mem_cons, List.not_mem_nil, false_implies, implies_true, and_true, e0_zero, e0_succ, put_some, put_none, reduceIte, Nat.reduceEqDiff] at he
 obtain ⟨e2, e3⟩ := he
 refine W.rseq ?_
 simp (disch := first | omega | (simp only [vd]; done) | (simp only [vd]; omega)) only [vs, reduceIte, Nat.reduceEqDiff, e3]
 refine Stages_ok m hg1 wd2 (fun hok h2 hx2 => ?_) (fun hno h2 hx2 => ?_)
 ·simp (disch := first | omega | (simp only [vd]; done) | (simp only [vd]; omega)) only [vs, reduceIte, Nat.reduceEqDiff, extV]
  have hsl := stagesM_len (m := m)
  have hsg := fun i => stagesM_get (m := m) (i := i)
  have hsk := stages_okm hg1 hs wd2
  generalize stagesM m = S at *
  refine W.gen [3, 4, 5] (fun e he => ?_)
  simp only [List.forall_mem_cons, List.not_mem_nil, false_implies, implies_true, and_true, e0_zero, e0_succ, put_some, put_none, reduceIte, Nat.reduceEqDiff, e3] at he
  obtain ⟨e3, e4, e5⟩ := he
  refine W.rseq ?_
  simp (disch := first | omega | (simp only [vd]; done) | (simp only [vd]; omega)) only [vs, reduceIte, Nat.reduceEqDiff, e3]
  refine rLeading_ok m hg1 wd2 (fun _ h3 hx3 => ?_) (fun hh => absurd hs hh)
  simp (disch := first | omega | (simp only [vd]; done) | (simp only [vd]; omega)) only [vs, reduceIte, Nat.reduceEqDiff, extV]
  refine W.gen [3, 4, 5] (fun e he => ?_)
  simp only [List.forall_mem_cons, List.not_mem_nil, false_implies, implies_true, and_true, e0_zero, e0_succ, put_some, put_none, reduceIte, Nat.reduceEqDiff, e3, e4, e5] at he
  obtain ⟨e3, e4, e5⟩ := he
  refine W.seq (W.rseq ?_)
  simp (disch := first | omega | (simp only [vd]; done) | (simp only [vd]; omega)) only [vs, reduceIte, Nat.reduceEqDiff, e5, Bool.not_true]
  refine W.cond false (by rfl) nofun (fun _ => ?_)
  refine W.skip ?_
  simp (disch := first | omega | (simp only [vd]; done) | (simp only [vd]; omega)) only [vs, reduceIte, Nat.reduceEqDiff]
  have hsl' := hsl.symm
  have t0 : (0 : Int).toNat = 0 := rfl
  have hS0 : S.getD 0 [] = normM m := by rw [hsg 0 (by omega), Nat.sub_zero, normM_zmat (hg1.sqm hs)]; rfl
  refine W.seq ?_
  refine W.dseqL (fun _ => True) [false, false, false, false, false, false, false, false, false, false, true, false, false, false] (by rfl) ?_
  simp (disch := first | omega | (simp only [vd]; done) | (simp only [vd]; omega)) only [vs, reduceIte, Nat.reduceEqDiff, e3, e4, hsl', t0, hS0]
  refine rCopy_fz m (hg1.okm (by omega)) fun h4 hx4 => ?_
  simp (disch := first | omega | (simp only [vd]; done) | (simp only [vd]; omega)) only [vs, reduceIte, Nat.reduceEqDiff, gr_le hx4, gr0_le hx4]
  have ho0 := hsk.2 0
  rw [hS0] at ho0
  refine r_SameM_ok _ _ ho0 ho0 fun h5 hx5 => ?_
  rw [decide_eq_true rfl]
  simp (disch := first | omega | (simp only [vd]; done) | (simp only [vd]; omega)) only [vs, reduceIte, Nat.reduceEqDiff, gr_le hx5, gr0_le hx5]
  refine W.cond false (by rfl) nofun (fun _ => ?_)
  refine W.skip ?_
  simp (disch := first | omega | (simp only [vd]; done) | (simp only [vd]; omega)) only [vs, reduceIte, Nat.reduceEqDiff]
  refine W.rseq ?_
  simp (disch := first | omega | (simp only [vd]; done) | (simp only [vd]; omega)) only [vs, reduceIte, Nat.reduceEqDiff]
  refine rSmall_r 1 (by decide) (by decide) fun h6 hx6 => ?_
  simp (disch := first | omega | (simp only [vd]; done) | (simp only [vd]; omega)) only [vs, reduceIte, Nat.reduceEqDiff, Value.cells]
  have hcG : Cell (h6.push ⟨39, 0, [.bool (cz 1).1, u32S (cz 1).2]⟩) h6.next 39 [.bool (cz 1).1, u32S (cz 1).2] := Cell.new
  have hlG := VH.le_push h6 ⟨39, 0, [.bool (cz 1).1, u32S (cz 1).2]⟩
  have hnG := next_push (h := h6) (B := ⟨39, 0, [.bool (cz 1).1, u32S (cz 1).2]⟩)
  generalize h6.push ⟨39, 0, [.bool (cz 1).1, u32S (cz 1).2]⟩ = G at *
  refine W.gen [3, 4, 10] (fun e he => ?_)
  simp only [List.forall_mem_cons, List.not_mem_nil, false_implies, implies_true, and_true, e0_zero, e0_succ, put_some, put_none, reduceIte, Nat.reduceEqDiff, e3, e4] at he
  obtain ⟨e3, e4, e10⟩ := he
  refine W.then (fun e' h' => e' 3 = mV m ∧ e' 4 = m3V S) ?_ ?_
  ·skip
   refine W.rseq ?_
   simp (disch := first | omega | (simp only [vd]; done) | (simp only [vd]; omega)) only [vs, reduceIte, Nat.reduceEqDiff]
   refine W.gen [3, 4, 10, 11] (fun e he => ?_)
   simp only [List.forall_mem_cons, List.not_mem_nil, false_implies, implies_true, and_true, e0_zero, e0_succ, put_some, put_none, reduceIte, Nat.reduceEqDiff, e3, e4, e10] at he
   obtain ⟨e3, e4, e10, e11⟩ := he
   refine W.for (fun k e h' => e 3 = mV m ∧ e 4 = m3V S ∧ e 10 = .pointer (some ⟨h6.next, 0, none⟩) ∧ k < m.length ∧ Cell h' h6.next 39 [.bool (cz (stgs (fm m) k).2).1, u32S (cz (stgs (fm m) k).2).2]) 0 (m.length - 1) (by omega) rfl (Nat.zero_le _) e11
    ⟨e3, e4, e10, by omega, hcG⟩ ?_
   rintro k e h' hk ei ⟨e3, e4, e10, hkm, hc⟩
   by_cases hlt : k + 1 < m.length
   ·skip
    refine W.rseq ?_
    simp (disch := first | omega | (simp only [vd]; done) | (simp only [vd]; omega)) only [vs, reduceIte, Nat.reduceEqDiff, ei, e4]
    refine W.cond true (by rfl) (fun _ => ?_) nofun
    refine W.skip ?_
    simp (disch := first | omega | (simp only [vd]; done) | (simp only [vd]; omega)) only [vs, reduceIte, Nat.reduceEqDiff]
    refine ⟨by omega, ?_⟩
    obtain ⟨d, hd⟩ : ∃ d, m.length = k + 1 + d + 1 := ⟨m.length - k - 2, by omega⟩
    have hB := hsg k (by omega)
    have hC := hsg (k + 1) (by omega)
    rw [show m.length - k = d + 2 by omega] at hB
    rw [show m.length - (k + 1) = d + 1 by omega] at hC
    have hBk := hsk.2 k
    have hCk := hsk.2 (k + 1)
    generalize hBg : S.getD k [] = B at *
    generalize hCg : S.getD (k + 1) [] = C at *
    have hBl : B.length = d + 2 := by rw [hB]; exact mat_len
    have hCl : C.length = d + 1 := by rw [hC]; exact mat_len
    have hBc : ∀ i, i < d + 2 → (B.getD i []).length = d + 2 := fun i hi => by rw [hB]; exact zmat_cols hi
    have hCc : ∀ i, i < d + 1 → (C.getD i []).length = d + 1 := fun i hi => by rw [hC]; exact zmat_cols hi
    have hBe : ∀ i j, i < d + 2 → j < d + 2 → ent B i j = cz ((stgs (fm m) k).1 i j) := fun i j hi hj => by rw [hB]; exact zmat_ent hi hj
    have hCe : ∀ i j, i < d + 1 → j < d + 1 → ent C i j = cz ((stgs (fm m) (k + 1)).1 i j) := fun i j hi hj => by rw [hC]; exact zmat_ent hi hj
    have tk1 : ((k : Int) + 1).toNat = k + 1 := by omega
    have hkS : k < S.length := by omega
    have hkS1 : k + 1 < S.length := by omega
    refine W.rseq ?_
    simp (disch := first | omega | (simp only [vd]; done) | (simp only [vd]; omega)) only [vs, reduceIte, Nat.reduceEqDiff, ei, e4, Int.toNat_natCast, hBg]
    refine W.gen [3, 4, 10, 11, 12] (fun e he => ?_)
    simp only [List.forall_mem_cons, List.not_mem_nil, false_implies, implies_true, and_true, e0_zero, e0_succ, put_some, put_none, reduceIte, Nat.reduceEqDiff, e3, e4, e10, ei] at he
    obtain ⟨e3, e4, e10, e11, e12⟩ := he
    refine W.seq ?_
    refine W.rseq ?_
    simp (disch := first | omega | (simp only [vd]; done) | (simp only [vd]; omega)) only [vs, reduceIte, Nat.reduceEqDiff, e4, e11, tk1, hCg, e12, hBl, hCl]
    refine W.cond false (by rfl) nofun (fun _ => ?_)
    refine W.skip ?_
    simp (disch := first | omega | (simp only [vd]; done) | (simp only [vd]; omega)) only [vs, reduceIte, Nat.reduceEqDiff]
    refine W.gen [3, 4, 10, 11, 12] (fun e he => ?_)
    simp only [List.forall_mem_cons, List.not_mem_nil, false_implies, implies_true, and_true, e0_zero, e0_succ, put_some, put_none, reduceIte, Nat.reduceEqDiff, e3, e4, e10, e11, e12] at he
    obtain ⟨e3, e4, e10, e11, e12⟩ := he
    refine W.then (fun e' h2 => h2 = h2 ∧ e' 3 = mV m ∧ e' 4 = m3V S ∧ e' 10 = .pointer (some ⟨h6.next, 0, none⟩) ∧ e' 11 = .int .i64 (k : Int) ∧ e' 12 = mV B ∧ Cell h2 h6.next 39 [.bool (cz (stgs (fm m) k).2).1, u32S (cz (stgs (fm m) k).2).2]) ?_ ?_
    ·skip
     refine W.rseq ?_
     simp (disch := first | omega | (simp only [vd]; done) | (simp only [vd]; omega)) only [vs, reduceIte, Nat.reduceEqDiff]
     refine W.gen [3, 4, 10, 11, 12, 13] (fun e he => ?_)
     simp only [List.forall_mem_cons, List.not_mem_nil, false_implies, implies_true, and_true, e0_zero, e0_succ, put_some, put_none, reduceIte, Nat.reduceEqDiff, e3, e4, e10, e11, e12] at he
     obtain ⟨e3, e4, e10, e11, e12, e13⟩ := he
     refine W.for (fun i e h2 => e 3 = mV m ∧ e 4 = m3V S ∧ e 10 = .pointer (some ⟨h6.next, 0, none⟩) ∧ e 11 = .int .i64 (k : Int) ∧ e 12 = mV B ∧ 1 ≤ i ∧ Cell h2 h6.next 39 [.bool (cz (stgs (fm m) k).2).1, u32S (cz (stgs (fm m) k).2).2]) 1 (d + 2) (by omega) rfl (by omega) e13
      ⟨e3, e4, e10, e11, e12, Nat.le_refl _, hc⟩ ?_
     rintro i e h2 hi ei ⟨e3, e4, e10, e11, e12, hi1, hc⟩
     by_cases hlt2 : i < d + 2
     ·obtain ⟨i0, rfl⟩ : ∃ i0, i = i0 + 1 := ⟨i - 1, by omega⟩
      refine W.rseq ?_
      simp (disch := first | omega | (simp only [vd]; done) | (simp only [vd]; omega)) only [vs, reduceIte, Nat.reduceEqDiff, ei, e12, hBl]
      refine W.cond true (by rfl) (fun _ => ?_) nofun
      refine W.skip ?_
      simp (disch := first | omega | (simp only [vd]; done) | (simp only [vd]; omega)) only [vs, reduceIte, Nat.reduceEqDiff]
      refine ⟨hlt2, ?_⟩
      have ti : (((i0 + 1 : Nat) : Int) - 1).toNat = i0 := by omega
      have ti2 : (((i0 + 1 : Nat) : Int)).toNat = i0 + 1 := by omega
      refine W.seq ?_
      refine W.rseq ?_
      simp (disch := first | omega | (simp only [vd]; done) | (simp only [vd]; omega)) only [vs, reduceIte, Nat.reduceEqDiff, e4, e11, e12, ei, tk1, ti, hCg, hCc i0 (by omega), hBl]
      refine W.cond false (by rfl) nofun (fun _ => ?_)
      refine W.skip ?_
      simp (disch := first | omega | (simp only [vd]; done) | (simp only [vd]; omega)) only [vs, reduceIte, Nat.reduceEqDiff]
      refine W.rseq ?_
      simp (disch := first | omega | (simp only [vd]; done) | (simp only [vd]; omega)) only [vs, reduceIte, Nat.reduceEqDiff]
      refine W.gen [3, 4, 10, 11, 12, 13, 14] (fun e he => ?_)
      simp only [List.forall_mem_cons, List.not_mem_nil, false_implies, implies_true, and_true, e0_zero, e0_succ, put_some, put_none, reduceIte, Nat.reduceEqDiff, e3, e4, e10, e11, e12, ei] at he
      obtain ⟨e3, e4, e10, e11, e12, e13, e14⟩ := he
      refine W.mono (Q := fun x e' h2 => x = .normal ∧ e' 3 = mV m ∧ e' 4 = m3V S ∧ e' 10 = .pointer (some ⟨h6.next, 0, none⟩) ∧ e' 11 = .int .i64 (k : Int) ∧ e' 12 = mV B ∧ e' 13 = .int .i64 ((i0 + 1 : Nat) : Int) ∧ Cell h2 h6.next 39 [.bool (cz (stgs (fm m) k).2).1, u32S (cz (stgs (fm m) k).2).2])
       (W.for (fun j e h2 => e 3 = mV m ∧ e 4 = m3V S ∧ e 10 = .pointer (some ⟨h6.next, 0, none⟩) ∧ e 11 = .int .i64 (k : Int) ∧ e 12 = mV B ∧ e 13 = .int .i64 ((i0 + 1 : Nat) : Int) ∧ 1 ≤ j ∧ Cell h2 h6.next 39 [.bool (cz (stgs (fm m) k).2).1, u32S (cz (stgs (fm m) k).2).2]) 1 (d + 2) (by omega) rfl (by omega) e14
       ⟨e3, e4, e10, e11, e12, e13, Nat.le_refl _, hc⟩ ?_) ?_
      ·rintro j e h2 hj ej ⟨e3, e4, e10, e11, e12, e13, hj1, hc⟩
       by_cases hlt3 : j < d + 2
       ·obtain ⟨j0, rfl⟩ : ∃ j0, j = j0 + 1 := ⟨j - 1, by omega⟩
        refine W.rseq ?_
        simp (disch := first | omega | (simp only [vd]; done) | (simp only [vd]; omega)) only [vs, reduceIte, Nat.reduceEqDiff, ej, e12, hBl]
        refine W.cond true (by rfl) (fun _ => ?_) nofun
        refine W.skip ?_
        simp (disch := first | omega | (simp only [vd]; done) | (simp only [vd]; omega)) only [vs, reduceIte, Nat.reduceEqDiff]
        refine ⟨hlt3, ?_⟩
        have tj : (((j0 + 1 : Nat) : Int) - 1).toNat = j0 := by omega
        have tj2 : (((j0 + 1 : Nat) : Int)).toNat = j0 + 1 := by omega
        have q1 := hCe i0 j0 (by omega) (by omega)
        have q2 := hBe 0 0 (by omega) (by omega)
        have q3 := hBe (i0 + 1) (j0 + 1) (by omega) (by omega)
        have q4 := hBe (i0 + 1) 0 (by omega) (by omega)
        have q5 := hBe 0 (j0 + 1) (by omega) (by omega)
        have l1 := hCc i0 (by omega)
        have l2 := hBc 0 (by omega)
        have l3 := hBc (i0 + 1) (by omega)
        refine W.dseqL (fun _ => True) [false, false, false, false, false, false, false, false, false, false, false, false, false, false, true, false, false, false, false, false, false, false, false, false, false, false, false, true, false, false, false, false, false, false, false, false, false, false, false, false, false, false, false, false] (by rfl) ?_
        simp (maxSteps := 3000000) (disch := first | omega | (simp only [vd]; done) | (simp only [vd]; omega)) only [vs, reduceIte, Nat.reduceEqDiff, e4, e10, e11, e12, e13, ej, tk1, ti, tj, ti2, tj2, t0, hCg, hc.rd2]
        have okC := hCk.at i0 j0
        have hokB := fun i j => hBk.at i j
        have hwk := wd_le 2 (show k + 1 ≤ 16 by omega)
        have hwk1 : wd 2 (k + 1) = 2 * wd 2 k + 1 := rfl
        have sk := stgs_sk hg1 k
        have oklast := Okr.cz (stgs_last_sk hg1 k) (by omega)
        refine rMul_r (cz _) (ent C i0 j0) oklast okC fun g1 x1 => ?_
        simp (maxSteps := 3000000) (disch := first | omega | (simp only [vd]; done) | (simp only [vd]; omega)) only [vs, reduceIte, Nat.reduceEqDiff, gr_le x1, gr0_le x1, e12, ej, e13, t0, ti2, tj2]
        refine rMul_r (ent B 0 0) (ent B (i0 + 1) (j0 + 1)) (hokB _ _) (hokB _ _) fun g2 x2 => ?_
        simp (maxSteps := 3000000) (disch := first | omega | (simp only [vd]; done) | (simp only [vd]; omega)) only [vs, reduceIte, Nat.reduceEqDiff, gr_le x2, gr0_le x2, e12, ej, e13, t0, ti2, tj2]
        refine rMul_r (ent B (i0 + 1) 0) (ent B 0 (j0 + 1)) (hokB _ _) (hokB _ _) fun g3 x3 => ?_
        simp (disch := first | omega | (simp only [vd]; done) | (simp only [vd]; omega)) only [vs, reduceIte, Nat.reduceEqDiff, gr_le x3, gr0_le x3]
        rw [q1, q2, q3, q4, q5, iz_cz, iz_cz, iz_cz, iz_cz, iz_cz, iz_cz]
        have s2 := (sk 0 0).mul (sk (i0 + 1) (j0 + 1))
        have s3 := (sk (i0 + 1) 0).mul (sk 0 (j0 + 1))
        refine rSub_r (cz _) (cz _) (Okr.cz s2 (by omega)) (Okr.cz s3 (by omega)) fun g4 x4 => ?_
        rw [iz_cz, iz_cz]
        simp (disch := first | omega | (simp only [vd]; done) | (simp only [vd]; omega)) only [vs, reduceIte, Nat.reduceEqDiff, gr_le x4, gr0_le x4]
        have hex := stgs_exact (A := fm m) (k := k) (fun l hl => hok.2 l (by omega)) i0 j0
        rw [← hex]
        have s5 : Sk (2 * wd 2 k + 1) ((stgs (fm m) k).2 * (stgs (fm m) (k + 1)).1 i0 j0) := by
         rw [hex]
         exact (s2.sub s3).mono (by omega)
        refine rCmp_r (cz _) (cz _) (Okr.cz s5 (by omega)) (Okr.cz s5 (by omega)) fun g5 x5 => ?_
        rw [iz_cz, Int.sub_self, Int.sign_zero]
        simp (disch := first | omega | (simp only [vd]; done) | (simp only [vd]; omega)) only [vs, reduceIte, Nat.reduceEqDiff, gr_le x5, gr0_le x5]
        refine W.cond false (by rfl) nofun (fun _ => ?_)
        refine W.skip ?_
        simp (disch := first | omega | (simp only [vd]; done) | (simp only [vd]; omega)) only [vs, reduceIte, Nat.reduceEqDiff, ej, e3, e4, e10, e11, e12, e13]
        exact ⟨by omega, hc.mono (x1.trans (x2.trans (x3.trans (x4.trans x5))))⟩
       ·obtain rfl : j = d + 2 := by omega
        refine W.rseq ?_
        simp (disch := first | omega | (simp only [vd]; done) | (simp only [vd]; omega)) only [vs, reduceIte, Nat.reduceEqDiff, ej, e12, hBl]
        refine W.cond false (by rfl) nofun (fun _ => W.exit ?_)
        simp (disch := first | omega | (simp only [vd]; done) | (simp only [vd]; omega)) only [vs, reduceIte, Nat.reduceEqDiff]
        exact ⟨e3, e4, e10, e11, e12, e13, hc⟩
      ·rintro x e h2 ⟨rfl, e3, e4, e10, e11, e12, e13, hc⟩
       simp (disch := first | omega | (simp only [vd]; done) | (simp only [vd]; omega)) only [vs, reduceIte, Nat.reduceEqDiff, e3, e4, e10, e11, e12, e13]
       exact ⟨by omega, hc⟩
     ·obtain rfl : i = d + 2 := by omega
      refine W.rseq ?_
      simp (disch := first | omega | (simp only [vd]; done) | (simp only [vd]; omega)) only [vs, reduceIte, Nat.reduceEqDiff, ei, e12, hBl]
      refine W.cond false (by rfl) nofun (fun _ => W.exit ?_)
      simp (disch := first | omega | (simp only [vd]; done) | (simp only [vd]; omega)) only [vs, reduceIte, Nat.reduceEqDiff]
      exact ⟨e3, e4, e10, e11, e12, hc⟩
    ·rintro e h2 ⟨-, e3, e4, e10, e11, e12, hc⟩
     have q2 := hBe 0 0 (by omega) (by omega)
     have l2 := hBc 0 (by omega)
     refine W.reg ?_
     simp (disch := first | omega | (simp only [vd]; done) | (simp only [vd]; omega)) only [vs, reduceIte, Nat.reduceEqDiff, e3, e4, e10, e11, e12, t0, hc.wr2]
     refine ⟨by omega, ?_⟩
     show Cell _ _ _ [.bool (cz ((stgs (fm m) k).1 0 0)).1, u32S (cz ((stgs (fm m) k).1 0 0)).2]
     rw [← q2]
     exact hc.set
   ·skip
    refine W.rseq ?_
    simp (disch := first | omega | (simp only [vd]; done) | (simp only [vd]; omega)) only [vs, reduceIte, Nat.reduceEqDiff, ei, e4]
    refine W.cond false (by rfl) nofun (fun _ => W.exit ?_)
    simp (disch := first | omega | (simp only [vd]; done) | (simp only [vd]; omega)) only [vs, reduceIte, Nat.reduceEqDiff]
    exact ⟨e3, e4⟩
  ·rintro e h' ⟨e3, e4⟩
   have hlast := hsg (m.length - 1) (by omega)
   rw [show m.length - (m.length - 1) = 1 by omega] at hlast
   have hok1 := (hsk.2 (m.length - 1)).at 0 0
   generalize hLg : S.getD (m.length - 1) [] = L at *
   have hLl : L.length = 1 := by rw [hlast]; exact mat_len
   have hLc : (L.getD 0 []).length = 1 := by rw [hlast]; exact zmat_cols (by omega)
   have hLe : ent L 0 0 = cz (det m.length (fm m)) := by
    rw [hlast, zmat_ent (by omega) (by omega), ← det_stgs (fm m) (m.length - 1) (fun l hl => hok.2 l (by omega)), show m.length - 1 + 1 = m.length by omega]
   have tn : ((S.length : Int) - 1).toNat = m.length - 1 := by omega
   refine W.dseqL (fun _ => True) [false, false, false, false, false, false, false, false, false, false, false, true, false, false, false, false, false] (by rfl) ?_
   simp (disch := first | omega | (simp only [vd]; done) | (simp only [vd]; omega)) only [vs, reduceIte, Nat.reduceEqDiff, e3, e4, tn, t0, hLg]
   refine rDet_ok m (hg1.sqm hs) (by omega) (by have := wd_le 2 hml; omega) fun g1 x1 => ?_
   simp (disch := first | omega | (simp only [vd]; done) | (simp only [vd]; omega)) only [vs, reduceIte, Nat.reduceEqDiff, gr_le x1, gr0_le x1]
   have okd := Okr.cz (det_sk (n := m.length) (A := fm m) (fun a b _ _ => hg1.sk a b)) (by have := wd_le 2 hml; omega)
   refine r_Same_ok (ent L 0 0) (cz (det m.length (fm m))) hok1.1 okd.1 hok1.2 okd.2 fun g2 x2 => ?_
   rw [hLe, decide_eq_true rfl]
   simp (disch := first | omega | (simp only [vd]; done) | (simp only [vd]; omega)) only [vs, reduceIte, Nat.reduceEqDiff, gr_le x2, gr0_le x2]
   refine awake_ok fun g3 x3 => ?_
   simp (disch := first | omega | (simp only [vd]; done) | (simp only [vd]; omega)) only [vs, reduceIte, Nat.reduceEqDiff, gr_le x3, gr0_le x3]
   refine W.ret ⟨.inr rfl, ?_⟩
   change Fin cfg _ _ _ _
   exact Fin.done (ress_1 rfl rfl) rfl
 ·simp (disch := first | omega | (simp only [vd]; done) | (simp only [vd]; omega)) only [vs, reduceIte, Nat.reduceEqDiff, extV]
  have hll : (leads m).length = m.length := leads_len
  refine W.gen [3, 4, 5] (fun e he => ?_)
  simp only [List.forall_mem_cons, List.not_mem_nil, false_implies, implies_true, and_true, e0_zero, e0_succ, put_some, put_none, reduceIte, Nat.reduceEqDiff, e3] at he
  obtain ⟨e3, e4, e5⟩ := he
  refine W.rseq ?_
  simp (disch := first | omega | (simp only [vd]; done) | (simp only [vd]; omega)) only [vs, reduceIte, Nat.reduceEqDiff, e3]
  refine rLeading_ok m hg1 wd2 (fun _ h3 hx3 => ?_) (fun hh => absurd hs hh)
  simp (disch := first | omega | (simp only [vd]; done) | (simp only [vd]; omega)) only [vs, reduceIte, Nat.reduceEqDiff, extV]
  refine W.seq (W.rseq ?_)
  simp (disch := first | omega | (simp only [vd]; done) | (simp only [vd]; omega)) only [vs, reduceIte, Nat.reduceEqDiff, e5, Bool.not_false]
  refine W.cond true (by rfl) (fun _ => ?_) nofun
  have hsl : slcT cfg (some ⟨.slice 39, 1, 24, .slice none 0 0⟩) (isV (leads m)) none (some (.int .i64 ((m.length : Int) - 1))) none = some (isV ((leads m).take (m.length - 1))) := by
   have := sl_head (C := cfg) (k1 := .i64) (s := 1) (b0 := 24) (z := .slice none 0 0) (l := leads m) iC_len t_api_Int (m.length - 1) (by omega)
   rw [show ((m.length - 1 : Nat) : Int) = (m.length : Int) - 1 by omega] at this
   exact this
  have htl : ((leads m).take (m.length - 1)).length = m.length - 1 := by simp [hll]
  refine W.then (fun _ _ => False) ?_ (fun _ _ hf => hf.elim)
  refine W.rseq ?_
  simp (disch := first | omega | (simp only [vd]; done) | (simp only [vd]; omega)) only [vs, reduceIte, Nat.reduceEqDiff, hll, hsl, htl]
  refine W.gen [3, 33, 34, 35] (fun e he => ?_)
  simp only [List.forall_mem_cons, List.not_mem_nil, false_implies, implies_true, and_true, e0_zero, e0_succ, put_some, put_none, reduceIte, Nat.reduceEqDiff, htl] at he
  obtain ⟨e3, e33, e34, e35⟩ := he
  refine W.range (fun i e h' => e 33 = isV ((leads m).take (m.length - 1)) ∧ ∀ l, l < i → det (l + 1) (fm m) ≠ 0) (m.length - 1) (by omega) rfl e35 e34 ⟨e33, fun l hl => by omega⟩ ?_ ?_
  ·rintro i e h2 hi ei en ⟨e33, hI⟩
   have hget : ((leads m).take (m.length - 1)).getD i raw0 = cz (det (i + 1) (fm m)) := by
    rw [← leads_get (show i < m.length by omega)]
    simp [hi]
   have hdk := det_sk (n := i + 1) (A := fm m) (fun a b _ _ => hg1.sk a b)
   have hw := wd_le 2 (show i + 1 ≤ 16 by omega)
   refine W.block ?_
   refine W.rseq ?_
   simp (disch := first | omega | (simp only [vd]; done) | (simp only [vd]; omega)) only [vs, reduceIte, Nat.reduceEqDiff, ei, e33, Int.toNat_natCast, Value.cells, hget]
   have hcG : Cell (h2.push ⟨39, 0, [.bool (cz (det (i + 1) (fm m))).1, u32S (cz (det (i + 1) (fm m))).2]⟩) h2.next 39 [.bool (cz (det (i + 1) (fm m))).1, u32S (cz (det (i + 1) (fm m))).2] := Cell.new
   have hlG := VH.le_push h2 ⟨39, 0, [.bool (cz (det (i + 1) (fm m))).1, u32S (cz (det (i + 1) (fm m))).2]⟩
   have hnG := next_push (h := h2) (B := ⟨39, 0, [.bool (cz (det (i + 1) (fm m))).1, u32S (cz (det (i + 1) (fm m))).2]⟩)
   generalize h2.push ⟨39, 0, [.bool (cz (det (i + 1) (fm m))).1, u32S (cz (det (i + 1) (fm m))).2]⟩ = G at *
   refine W.rseq ?_
   simp (disch := first | omega | (simp only [vd]; done) | (simp only [vd]; omega)) only [vs, reduceIte, Nat.reduceEqDiff, hcG.rd2]
   refine rSign_r (cz _) (Okr.cz hdk (by omega)) fun h4 hx4 => ?_
   rw [iz_cz]
   by_cases h0 : det (i + 1) (fm m) = 0
   ·have hs1 : (det (i + 1) (fm m)).sign = 0 := by rw [h0]; rfl
    simp (disch := first | omega | (simp only [vd]; done) | (simp only [vd]; omega)) only [vs, reduceIte, Nat.reduceEqDiff, hs1]
    refine W.cond true (by rfl) (fun _ => ?_) nofun
    refine W.rseq ?_
    simp (disch := first | omega | (simp only [vd]; done) | (simp only [vd]; omega)) only [vs, reduceIte, Nat.reduceEqDiff]
    refine awake_ok fun h5 hx5 => ?_
    simp (disch := first | omega | (simp only [vd]; done) | (simp only [vd]; omega)) only [vs, reduceIte, Nat.reduceEqDiff]
    refine W.ret ⟨.inr rfl, ?_⟩
    change Fin cfg _ _ _ _
    exact Fin.done (ress_1 rfl rfl) rfl
   ·have hs1 : (det (i + 1) (fm m)).sign ≠ 0 := fun e => h0 (Int.sign_eq_zero_iff_zero.1 e)
    simp (disch := first | omega | (simp only [vd]; done) | (simp only [vd]; omega)) only [vs, reduceIte, Nat.reduceEqDiff]
    refine W.cond false (by rfl) nofun (fun _ => ?_)
    refine W.skip ?_
    simp (disch := first | omega | (simp only [vd]; done) | (simp only [vd]; omega)) only [vs, reduceIte, Nat.reduceEqDiff, ei, en, e33]
    intro l hl
    by_cases hli : l = i
    ·rw [hli]; exact h0
    ·exact hI l (by omega)
  ·rintro e h2 ei ⟨e33, hI⟩
   exact absurd ⟨hs, fun l hl => (piv_lead (fm m) (m.length - 1)).2 hI l (by omega)⟩ hno
end Go.Proofs.Ytjpknabdmmkobaa
end
