/- Part 5 of the proof: QmL, In1, In2, In3, In4, In5, In6, In7, In8, In9, Knuth, Mid. -/
import Derived.Test.YtjpknabdmmkobaaZ4
set_option linter.unusedVariables false
set_option linter.unusedSimpArgs false
section
namespace Go.QM
variable {P : Program} {C : Cfg} {e : Env} {h : VH} {Q : Exit → Env → VH → Prop}
theorem W.for {id bid r2 : Nat} {ti f g : Tmp} {t1 t2 y1 y2 y3 : TypeId} {p1 p2 p3 : String} {a1 a2 a3 : Array Edge} {c body : Code} (I : Nat → Env → VH → Prop) (k0 n : Nat)
  (hn : n < 4611686018427387904) (hne : (f != ti && g != ti) = true) (hk : k0 ≤ n) (h0 : e ti = .int .i64 (k0 : Int)) (hI : I k0 e h)
  (hs : ∀ k e h, k ≤ n → e ti = .int .i64 (k : Int) → I k e h → W P C c e h fun x e1 h1 => match x with
   | .normal => k < n ∧ W P C body e1 h1 fun y e2 h2 => match y with
    | .normal => e2 ti = .int .i64 (k : Int) ∧ I (k + 1) (((e2.put (some f) (.int .i64 (k : Int))).put (some g) (.int .i64 ((k : Int) + 1))).put (some ti) (.int .i64 ((k : Int) + 1))) h2
    | .exit i => if i = bid then (e2 ti = .int .i64 (k : Int) ∧ I (k + 1) (((e2.put (some f) (.int .i64 (k : Int))).put (some g) (.int .i64 ((k : Int) + 1))).put (some ti) (.int .i64 ((k : Int) + 1))) h2) else if i = id then Q .normal e2 h2 else Q (.exit i) e2 h2
    | y => Q y e2 h2
   | .exit i => if i = id then Q .normal e1 h1 else Q (.exit i) e1 h1
   | x => Q x e1 h1) :
  W P C (.block id (.loop (.seq c (.seq (.block bid body) (.region r2 #[⟨some f, .move (.tmp ti), y1, p1, a1, none⟩, ⟨some g, .binOp .add t1 (.tmp f) (.const (.int .i64 1)) t2, y2, p2, a2, none⟩, ⟨some ti, .assign (.tmp g), y3, p3, a3, none⟩] false))))) e h Q := by
 simp only [Bool.and_eq_true, bne_iff_ne, ne_eq] at hne
 obtain ⟨n1, n2⟩ := hne
 refine W.block (W.loop (fun m e h => ∃ k, m = n - k ∧ k ≤ n ∧ e ti = .int .i64 (k : Int) ∧ I k e h) (n - k0) ⟨k0, rfl, hk, h0, hI⟩ ?_)
 rintro m e h ⟨k, rfl, hkn, ei, hi⟩
 refine W.seq ((hs k e h hkn ei hi).mono ?_)
 intro x e1 h1 hx
 cases x with
 | normal =>
  obtain ⟨hlt, hx⟩ := hx
  refine W.seq (W.block (hx.mono ?_))
  have step : ∀ e2 h2, e2 ti = .int .i64 (k : Int) ∧ I (k + 1) (((e2.put (some f) (.int .i64 (k : Int))).put (some g) (.int .i64 ((k : Int) + 1))).put (some ti) (.int .i64 ((k : Int) + 1))) h2 →
    W P C (.region r2 #[⟨some f, .move (.tmp ti), y1, p1, a1, none⟩, ⟨some g, .binOp .add t1 (.tmp f) (.const (.int .i64 1)) t2, y2, p2, a2, none⟩, ⟨some ti, .assign (.tmp g), y3, p3, a3, none⟩] false) e2 h2 fun x e1 h1 => match x with
     | .normal => ∃ m, m < n - k ∧ ∃ k, m = n - k ∧ k ≤ n ∧ e1 ti = .int .i64 (k : Int) ∧ I k e1 h1
     | .exit i => if i = id then Q .normal e1 h1 else Q (.exit i) e1 h1
     | x => Q x e1 h1 := by
   rintro e2 h2 ⟨f1, f2⟩
   refine W.reg ?_
   simp only [WOps.cons, WOps.nil, w_bin, w_move, w_assign, rd_tmp, rd_const, c_int, f1, s_int, put_some, if_true, b_add, OV_some]
   rw [wrap_i64 (by omega) (by omega)]
   refine ⟨n - (k + 1), by omega, k + 1, rfl, by omega, ?_, ?_⟩
   ·simp [put_some]
   ·simpa only [put_some, if_true, s_int] using f2
  intro y e2 h2 hy
  cases y with
  | normal => exact (step e2 h2 hy).mono fun x e h hx => by cases x <;> exact hx
  | exit i =>
   by_cases hib : i = bid
   ·simp only [if_pos hib] at hy ⊢
    exact (step e2 h2 hy).mono fun x e h hx => by cases x <;> exact hx
   ·simp only [if_neg hib] at hy ⊢
    exact hy
  | _ => exact hy
 | exit i => exact hx
 | _ => exact hx
theorem W.while {id bid : Nat} {c body : Code} (I : Nat → Env → VH → Prop) (n : Nat) (hI : I n e h)
  (hs : ∀ k e h, I k e h → W P C c e h fun x e1 h1 => match x with
   | .normal => W P C body e1 h1 fun y e2 h2 => match y with
    | .normal => ∃ k', k' < k ∧ I k' e2 h2
    | .exit i => if i = bid then ∃ k', k' < k ∧ I k' e2 h2 else if i = id then Q .normal e2 h2 else Q (.exit i) e2 h2
    | y => Q y e2 h2
   | .exit i => if i = id then Q .normal e1 h1 else Q (.exit i) e1 h1
   | x => Q x e1 h1) :
  W P C (.block id (.loop (.seq c (.block bid body)))) e h Q := by
 refine W.block (W.loop I n hI ?_)
 intro k e h hi
 refine W.seq ((hs k e h hi).mono ?_)
 intro x e1 h1 hx
 cases x with
 | normal =>
  refine W.block (hx.mono ?_)
  intro y e2 h2 hy
  cases y with
  | normal => exact hy
  | exit i =>
   by_cases hib : i = bid
   ·simp only [if_pos hib] at hy ⊢
    exact hy
   ·simp only [if_neg hib] at hy ⊢
    exact hy
  | _ => exact hy
 | exit i => exact hx
 | _ => exact hx
theorem W.then {a b : Code} (Q1 : Env → VH → Prop) (ha : W P C a e h fun x e1 h1 => match x with | .normal => Q1 e1 h1 | x => Q x e1 h1) (hb : ∀ e1 h1, Q1 e1 h1 → W P C b e1 h1 Q) : W P C (.seq a b) e h Q :=
 W.seq (ha.mono fun x e1 h1 hx => by
  cases x with
  | normal => exact hb e1 h1 hx
  | _ => exact hx)
def FzQ (C : Cfg) (e : Env) (h : VH) (Q : Env → VH → Prop) (_ : Cw Q := .mk) : Prop := ∃ e2 h2, Fz C.base e h e2 h2 ∧ Q e2 h2
section
variable {Q1 : Env → VH → Prop} {cw : Cw Q1}
theorem FzQ.done (hq : Q1 e h) : FzQ C e h Q1 cw := ⟨_, _, .refl _ _, hq⟩
theorem FzQ.nilb (x : Nat) {X : Blk} (h0 : C.base = 0) (hX : h.blk x = some X) (k : FzQ C e (h.set x (some ⟨X.ty, X.sz, X.cs.map nil1⟩)) Q1) : FzQ C e h Q1 cw := by
 obtain ⟨e', h1, a, b⟩ := k
 exact ⟨e', h1, .nilb x hX (by omega) a, b⟩
theorem FzQ.nilc (x i : Nat) {X : Blk} (h0 : C.base = 0) (hX : h.blk x = some X) (k : FzQ C e (h.set x (some ⟨X.ty, X.sz, X.cs.modify i nil1⟩)) Q1) : FzQ C e h Q1 cw := by
 obtain ⟨e', h1, a, b⟩ := k
 exact ⟨e', h1, .nilc x i hX (by omega) a, b⟩
theorem FzQ.own {n0 ty sz len : Nat} {cs : List Value} (t : Nat) (h0 : C.base = 0) (ho : Own n0 ty sz h (e t) len cs)
  (k : ∀ h', (∀ g : VH, g.le h → g.next ≤ n0 → g.le h') → h'.next = h.next → FzQ C (e.put (some t) (fS len cs.toArray)) h' Q1) : FzQ C e h Q1 cw := by
 obtain ⟨h', h1, h4, h5, _⟩ := ho.frz t h0
 obtain ⟨e', h2, a, b⟩ := k h' h4 h5
 exact ⟨e', h2, h1.trans a, b⟩
theorem FzQ.mm {α : Type} {K : MK α} {R : List (List α)} {n0 b : Nat} (t : Nat) (h0 : C.base = 0) (hm : MM K n0 h b R) (ht : e t = .slice (some ⟨b, 0, none⟩) R.length R.length)
  (k : ∀ h', Up n0 h h' → h'.next = h.next → FzQ C (e.put (some t) (vlV (slV K.c) R)) h' Q1) : FzQ C e h Q1 cw := by
 obtain ⟨h', h1, h4, h5, _⟩ := hm.frz t h0 ht
 obtain ⟨e', h2, a, b⟩ := k h' h4 h5
 exact ⟨e', h2, h1.trans a, b⟩
end
theorem W.rangeZ {id r1 r2 : Nat} {ti tn d d2 : Tmp} {t1 t2 t3 t4 y1 y2 y3 : TypeId} {p1 p2 p3 : String} {a1 a2 a3 : Array Edge} {body : Code} (I : Nat → Env → VH → Prop) (n : Nat)
  (hn : n < 4611686018427387904) (hne : (ti != tn && d != tn && d != ti && d2 != tn) = true) (h0 : e ti = .int .i64 0) (hN : e tn = .int .i64 (n : Int)) (hI : I 0 e h)
  (hb : ∀ k e h, k < n → e ti = .int .i64 (k : Int) → e tn = .int .i64 (n : Int) → I k e h → W P C body (e.put (some d) (.bool true)) h fun x e1 h1 => match x with
   | .normal => FzQ C e1 h1 fun e1 h1 => e1 ti = .int .i64 (k : Int) ∧ e1 tn = .int .i64 (n : Int) ∧ I (k + 1) ((e1.put (some d2) (.int .i64 ((k : Int) + 1))).put (some ti) (.int .i64 ((k : Int) + 1))) h1
   | .exit i => if i = id then Q .normal e1 h1 else Q (.exit i) e1 h1
   | x => Q x e1 h1)
  (he : ∀ e h, e ti = .int .i64 (n : Int) → I n e h → Q .normal (e.put (some d) (.bool false)) h) :
  W P C (.block id (.loop (.seq (.region r1 #[⟨some d, .binOp .lss t1 (.tmp ti) (.tmp tn) t2, y1, p1, a1, none⟩] false) (.seq (.cond (.tmp d) .skip (.exit id))
   (.seq body (.region r2 #[⟨some d2, .binOp .add t3 (.tmp ti) (.const (.int .i64 1)) t4, y2, p2, a2, none⟩, ⟨some ti, .move (.tmp d2), y3, p3, a3, none⟩] false)))))) e h Q := by
 simp only [Bool.and_eq_true, bne_iff_ne, ne_eq] at hne
 obtain ⟨⟨⟨n1, n2⟩, n3⟩, n4⟩ := hne
 refine W.block (W.loop (fun m e h => ∃ k, m = n - k ∧ k ≤ n ∧ e ti = .int .i64 (k : Int) ∧ e tn = .int .i64 (n : Int) ∧ I k e h) n ⟨0, rfl, Nat.zero_le _, h0, hN, hI⟩ ?_)
 rintro m e h ⟨k, rfl, hk, ei, en, hi⟩
 refine W.rseq ?_
 simp only [WOps.cons, w_bin, rd_tmp, ei, en, s_int, b_lss, OV_some, WOps.nil]
 by_cases hlt : k < n
 ·have : decide ((k : Int) < n) = true := decide_eq_true (by omega)
  rw [this]
  refine W.seq (W.cond true (by simp [rd_tmp, put_some]; rfl) (fun _ => W.skip ?_) nofun)
  refine W.seqF ((hb k e h hlt ei en hi).mono ?_)
  intro x e1 h1 hx
  cases x with
  | normal =>
   obtain ⟨e2, h2, hf, f1, f2, f3⟩ := hx
   refine ⟨e2, h2, hf, W.reg ?_⟩
   simp only [WOps.cons, WOps.nil, w_bin, w_move, rd_tmp, rd_const, c_int, f1, s_int, b_add, OV_some]
   rw [wrap_i64 (by omega) (by omega)]
   refine ⟨n - (k + 1), by omega, k + 1, rfl, by omega, ?_, ?_, ?_⟩
   ·simp only [put_some, if_true, s_int]
    congr 1
   ·simp only [put_some, if_neg (Ne.symm n1), if_neg (Ne.symm n4)]
    exact f2
   ·simpa only [put_some, if_true, s_int] using f3
  | exit i => exact hx
  | _ => exact hx
 ·have : decide ((k : Int) < n) = false := decide_eq_false (by omega)
  rw [this]
  refine W.seq (W.cond false (by simp [rd_tmp, put_some]; rfl) nofun (fun _ => W.exit ?_))
  simp only [if_true]
  obtain rfl : k = n := by omega
  exact he e h ei hi
end Go.QM
end

section
open Go Go.QM
namespace Go.Proofs.Ytjpknabdmmkobaa
variable {h : VH} {Q : Value → VH → Prop} {c : Cw Q}
theorem trim_ok (m : List Nat) (hm : m.length < 4611686018427387904) (hq : Q (u32S (trimL m)) h) : Runs Try.prog cfg 114 [u32S m] h Q c := by
 refine Runs.go Try.func114 rfl rfl (.refl _ _) ?_
 refine W.rseq ?_
 simp (disch := first | omega | (simp only [vd]; done) | (simp only [vd]; omega)) only [vs, reduceIte, Nat.reduceEqDiff]
 refine W.rseq ?_
 simp (disch := first | omega | (simp only [vd]; done) | (simp only [vd]; omega)) only [vs, reduceIte, Nat.reduceEqDiff]
 refine W.seq (W.block (W.loop (fun n e h' => e 0 = u32S m ∧ e 3 = .int .i64 (n : Int) ∧ h' = h ∧ n ≤ m.length ∧ trimL (m.take n) = trimL m) m.length ?_ ?_))
 ·exact ⟨rfl, rfl, rfl, Nat.le_refl _, by simp⟩
 rintro n e h' ⟨e0, e3, rfl, hn, ht⟩
 have e1 : ((n : Int) - 1).toNat = n - 1 := by omega
 by_cases hz0 : 0 < n
 ·by_cases hz : m.getD (n - 1) 0 = 0
  ·refine W.seq (W.rseq ?_)
   simp (disch := first | omega | (simp only [vd]; done) | (simp only [vd]; omega)) only [vs, reduceIte, Nat.reduceEqDiff, e0, e3, e1]
   refine W.cond true (by rfl) (fun _ => W.skip ?_) nofun
   refine W.block (W.reg ?_)
   simp (disch := first | omega | (simp only [vd]; done) | (simp only [vd]; omega)) only [vs, reduceIte, Nat.reduceEqDiff, e0, e3, e1]
   refine ⟨n - 1, by omega, ?_, by omega, ?_⟩
   ·congr 1; omega
   ·rw [← ht]
    obtain ⟨n, rfl⟩ : ∃ k, n = k + 1 := ⟨n - 1, by omega⟩
    rw [take_succ_getD (by omega)]
    simp only [Nat.add_sub_cancel] at hz ⊢
    rw [hz, trimL_snoc]
  ·refine W.seq (W.rseq ?_)
   simp (disch := first | omega | (simp only [vd]; done) | (simp only [vd]; omega)) only [vs, reduceIte, Nat.reduceEqDiff, e0, e3, e1]
   refine W.cond false (by rfl) nofun (fun _ => W.exit ?_)
   simp (disch := first | omega | (simp only [vd]; done) | (simp only [vd]; omega)) only [vs, reduceIte, Nat.reduceEqDiff]
   refine W.rseq ?_
   simp (disch := first | omega | (simp only [vd]; done) | (simp only [vd]; omega)) only [vs, reduceIte, Nat.reduceEqDiff, e0, e3, Int.toNat_natCast]
   refine W.ret ⟨.inr rfl, _, _, _, .refl _ _, rfl, ?_⟩
   have : m.take n = trimL m := by
    rw [← ht]
    obtain ⟨n, rfl⟩ : ∃ k, n = k + 1 := ⟨n - 1, by omega⟩
    simp only [Nat.add_sub_cancel] at hz
    refine (trimL_last (by rw [List.length_take]; omega) ?_).symm
    rw [take_succ_getD (by omega)]
    simpa [Nat.min_eq_left (show n ≤ m.length by omega)] using hz
   rw [← this] at hq
   exact hq
 ·obtain rfl : n = 0 := by omega
  refine W.seq (W.rseq ?_)
  simp (disch := first | omega | (simp only [vd]; done) | (simp only [vd]; omega)) only [vs, reduceIte, Nat.reduceEqDiff, e0, e3, e1]
  refine W.cond false (by rfl) nofun (fun _ => W.exit ?_)
  simp (disch := first | omega | (simp only [vd]; done) | (simp only [vd]; omega)) only [vs, reduceIte, Nat.reduceEqDiff]
  refine W.rseq ?_
  simp (disch := first | omega | (simp only [vd]; done) | (simp only [vd]; omega)) only [vs, reduceIte, Nat.reduceEqDiff, e0, e3, Int.toNat_natCast]
  refine W.ret ⟨.inr rfl, _, _, _, .refl _ _, rfl, ?_⟩
  rw [← ht] at hq
  exact hq
theorem limb_ok (m : List Nat) (i : Nat) (hm : m.length < 4611686018427387904) (hi : i < 4611686018427387904) (hl : Lim m) (hq : Q (.int .u64 (m.getD i 0 : Nat)) h) : Runs Try.prog cfg 126 [u32S m, .int .i64 i] h Q c := by
 refine Runs.go Try.func126 rfl rfl (.refl _ _) ?_
 refine W.rseq ?_
 simp (disch := first | omega | (simp only [vd]; done) | (simp only [vd]; omega)) only [vs, reduceIte, Nat.reduceEqDiff]
 have hb := hl.getD i
 by_cases hlt : i < m.length
 ·refine W.seq (W.rseq ?_)
  simp (disch := first | omega | (simp only [vd]; done) | (simp only [vd]; omega)) only [vs, reduceIte, Nat.reduceEqDiff]
  refine W.cond true (by rfl) (fun _ => ?_) nofun
  refine W.rseq ?_
  simp (disch := first | omega | (simp only [vd]; done) | (simp only [vd]; omega)) only [vs, reduceIte, Nat.reduceEqDiff, Int.toNat_natCast]
  exact W.ret ⟨.inr rfl, _, _, _, .refl _ _, rfl, hq⟩
 ·refine W.seq (W.rseq ?_)
  simp (disch := first | omega | (simp only [vd]; done) | (simp only [vd]; omega)) only [vs, reduceIte, Nat.reduceEqDiff]
  refine W.cond false (by rfl) nofun (fun _ => W.skip ?_)
  simp (disch := first | omega | (simp only [vd]; done) | (simp only [vd]; omega)) only [vs, reduceIte, Nat.reduceEqDiff]
  refine W.rseq ?_
  simp (disch := first | omega | (simp only [vd]; done) | (simp only [vd]; omega)) only [vs, reduceIte, Nat.reduceEqDiff]
  refine W.ret ⟨.inr rfl, _, _, _, .refl _ _, rfl, ?_⟩
  have : m.getD i 0 = 0 := by simp [List.getElem?_eq_none (Nat.le_of_not_lt hlt)]
  rw [this] at hq
  exact hq
theorem compare_ok (x y : Nat) (hx : (dig x).length < 4611686018427387904) (hy : (dig y).length < 4611686018427387904) (hq : Q (.int .i64 (cmpN x y)) h) : Runs Try.prog cfg 108 [u32S (dig x), u32S (dig y)] h Q c := by
 have la := Lim_dig x
 have lb := Lim_dig y
 have na := nv_dig x
 have nb := nv_dig y
 generalize ea : dig x = a at *
 generalize eb : dig y = b at *
 refine Runs.go Try.func108 rfl rfl (.refl _ _) ?_
 refine W.rseq ?_
 simp (disch := first | omega | (simp only [vd]; done) | (simp only [vd]; omega)) only [vs, reduceIte, Nat.reduceEqDiff]
 by_cases hl : a.length = b.length
 ·refine W.seq (W.rseq ?_)
  simp (disch := first | omega | (simp only [vd]; done) | (simp only [vd]; omega)) only [vs, reduceIte, Nat.reduceEqDiff]
  refine W.cond false (by rfl) nofun (fun _ => W.skip ?_)
  simp (disch := first | omega | (simp only [vd]; done) | (simp only [vd]; omega)) only [vs, reduceIte, Nat.reduceEqDiff]
  refine W.seq (W.rseq ?_)
  simp (disch := first | omega | (simp only [vd]; done) | (simp only [vd]; omega)) only [vs, reduceIte, Nat.reduceEqDiff]
  refine W.block (W.loop (fun n e h' => e 0 = u32S a ∧ e 1 = u32S b ∧ e 5 = .int .i64 ((n : Int) - 1) ∧ h' = h ∧ n ≤ a.length ∧ a.drop n = b.drop n) a.length ?_ ?_)
  ·exact ⟨rfl, rfl, rfl, rfl, Nat.le_refl _, by rw [List.drop_of_length_le (Nat.le_refl _), List.drop_of_length_le (by omega)]⟩
  rintro n e h' ⟨e0, e1, e5, rfl, hn, hd⟩
  have e6 : ((n : Int) - 1).toNat = n - 1 := by omega
  by_cases h0 : 0 < n
  ·obtain ⟨k, rfl⟩ : ∃ k, n = k + 1 := ⟨n - 1, by omega⟩
   simp only [Nat.add_sub_cancel] at e6
   have e7 : (((k + 1 : Nat) : Int) - 1) = k := by omega
   rw [e7] at e5
   have hka : k < a.length := by omega
   have hkb : k < b.length := by omega
   refine W.seq (W.rseq ?_)
   simp (disch := first | omega | (simp only [vd]; done) | (simp only [vd]; omega)) only [vs, reduceIte, Nat.reduceEqDiff, e5]
   refine W.cond true (by rfl) (fun _ => W.skip ?_) nofun
   refine W.seq (W.block (W.dseq (fun _ => True) (by rfl) ?_))
   by_cases hz : a.getD k 0 = b.getD k 0
   ·simp (disch := first | omega | (simp only [vd]; done) | (simp only [vd]; omega)) only [vs, reduceIte, Nat.reduceEqDiff, e0, e1, e5, Int.toNat_natCast]
    refine W.cond false (by rfl) nofun (fun _ => W.skip ?_)
    refine W.reg ?_
    simp (disch := first | omega | (simp only [vd]; done) | (simp only [vd]; omega)) only [vs, reduceIte, Nat.reduceEqDiff, e0, e1, e5]
    refine ⟨k, by omega, rfl, by omega, ?_⟩
    rw [drop_getD hka, drop_getD hkb, hz, hd]
   ·simp (disch := first | omega | (simp only [vd]; done) | (simp only [vd]; omega)) only [vs, reduceIte, Nat.reduceEqDiff, e0, e1, e5, Int.toNat_natCast]
    refine W.cond true (by rfl) (fun _ => ?_) nofun
    refine W.seq (W.dseq (fun _ => True) (by rfl) ?_)
    by_cases hlt : a.getD k 0 < b.getD k 0
    ·simp (disch := first | omega | (simp only [vd]; done) | (simp only [vd]; omega)) only [vs, reduceIte, Nat.reduceEqDiff, e0, e1, e5, Int.toNat_natCast]
     refine W.cond true (by rfl) (fun _ => W.rseq ?_) nofun
     simp (disch := first | omega | (simp only [vd]; done) | (simp only [vd]; omega)) only [vs, reduceIte, Nat.reduceEqDiff]
     refine W.ret ⟨.inr rfl, _, _, _, .refl _ _, rfl, ?_⟩
     have := nv_lt_of hl hka la hd hlt
     rw [na, nb] at this
     simp only [cmpN, if_pos this] at hq
     exact hq
    ·simp (disch := first | omega | (simp only [vd]; done) | (simp only [vd]; omega)) only [vs, reduceIte, Nat.reduceEqDiff, e0, e1, e5, Int.toNat_natCast]
     refine W.cond false (by rfl) nofun (fun _ => W.skip ?_)
     refine W.rseq ?_
     simp (disch := first | omega | (simp only [vd]; done) | (simp only [vd]; omega)) only [vs, reduceIte, Nat.reduceEqDiff]
     refine W.ret ⟨.inr rfl, _, _, _, .refl _ _, rfl, ?_⟩
     have := nv_lt_of hl.symm hkb lb hd.symm (by omega)
     rw [na, nb] at this
     simp only [cmpN, if_neg (show ¬ x < y by omega), if_neg (show ¬ x = y by omega)] at hq
     exact hq
  ·obtain rfl : n = 0 := by omega
   refine W.seq (W.rseq ?_)
   simp (disch := first | omega | (simp only [vd]; done) | (simp only [vd]; omega)) only [vs, reduceIte, Nat.reduceEqDiff, e5]
   refine W.cond false (by rfl) nofun (fun _ => W.exit ?_)
   simp (disch := first | omega | (simp only [vd]; done) | (simp only [vd]; omega)) only [vs, reduceIte, Nat.reduceEqDiff]
   refine W.rseq ?_
   simp (disch := first | omega | (simp only [vd]; done) | (simp only [vd]; omega)) only [vs, reduceIte, Nat.reduceEqDiff]
   refine W.ret ⟨.inr rfl, _, _, _, .refl _ _, rfl, ?_⟩
   have : x = y := by rw [← na, ← nb]; exact congrArg nv hd
   simp only [cmpN, if_neg (show ¬ x < y by omega), if_pos this] at hq
   exact hq
 ·refine W.seq (W.rseq ?_)
  simp (disch := first | omega | (simp only [vd]; done) | (simp only [vd]; omega)) only [vs, reduceIte, Nat.reduceEqDiff]
  refine W.cond true (by rfl) (fun _ => ?_) nofun
  by_cases hlt : a.length < b.length
  ·refine W.seq (W.rseq ?_)
   simp (disch := first | omega | (simp only [vd]; done) | (simp only [vd]; omega)) only [vs, reduceIte, Nat.reduceEqDiff]
   refine W.cond true (by rfl) (fun _ => W.rseq ?_) nofun
   simp (disch := first | omega | (simp only [vd]; done) | (simp only [vd]; omega)) only [vs, reduceIte, Nat.reduceEqDiff]
   refine W.ret ⟨.inr rfl, _, _, _, .refl _ _, rfl, ?_⟩
   have : x < y := dig_length_lt (by rw [ea, eb]; exact hlt)
   simp only [cmpN, if_pos this] at hq
   exact hq
  ·refine W.seq (W.rseq ?_)
   simp (disch := first | omega | (simp only [vd]; done) | (simp only [vd]; omega)) only [vs, reduceIte, Nat.reduceEqDiff]
   refine W.cond false (by rfl) nofun (fun _ => W.skip ?_)
   refine W.rseq ?_
   simp (disch := first | omega | (simp only [vd]; done) | (simp only [vd]; omega)) only [vs, reduceIte, Nat.reduceEqDiff]
   refine W.ret ⟨.inr rfl, _, _, _, .refl _ _, rfl, ?_⟩
   have : y < x := dig_length_lt (by rw [ea, eb]; omega)
   simp only [cmpN, if_neg (show ¬ x < y by omega), if_neg (show ¬ x = y by omega)] at hq
   exact hq
end Go.Proofs.Ytjpknabdmmkobaa
end

section
open Go Go.QM
namespace Go.Proofs.Ytjpknabdmmkobaa
variable {h : VH} {Q : Value → VH → Prop} {c : Cw Q}
theorem sg_nat (neg : Bool) (n : Nat) : (sg neg n).natAbs = n := by
 unfold sg
 split <;> omega
theorem zV_pos {neg : Bool} {n : Nat} (hn : n ≠ 0) : Value.agg #[.bool neg, u32S (dig n)] = zV (sg neg n) := by
 unfold zV
 rw [sg_nat]
 have : neg = decide (sg neg n < 0) := by
  unfold sg
  cases neg with
  | true => simp; omega
  | false => simp
 rw [← this]
theorem zV_zero : zV 0 = .agg #[.bool false, u32S []] := by
 unfold zV
 have : dig (0 : Int).natAbs = [] := dig_zero
 rw [this]
 rfl
theorem sg_zero (neg : Bool) : sg neg 0 = 0 := by cases neg <;> rfl
theorem magnitude_ok (neg : Bool) (m : List Nat) (hm : m.length < 4611686018427387904) (hq : ∀ h1, h.le h1 → Q (u32S (trimL m)) h1) : Runs Try.prog cfg 95 [.agg #[.bool neg, u32S m]] h Q c := by
 refine Runs.go Try.func95 rfl rfl (.refl _ _) ?_
 refine W.rseqZ ?_
 simp (disch := first | omega | (simp only [vd]; done) | (simp only [vd]; omega)) only [vs, reduceIte, Nat.reduceEqDiff]
 refine WF.one 1 h.next rfl blk_push (WF.done ?_)
 simp (disch := first | omega | (simp only [vd]; done) | (simp only [vd]; omega)) only [vs, reduceIte, Nat.reduceEqDiff]
 refine W.rseq ?_
 simp (disch := first | omega | (simp only [vd]; done) | (simp only [vd]; omega)) only [vs, reduceIte, Nat.reduceEqDiff]
 refine trim_ok m hm ?_
 simp (disch := first | omega | (simp only [vd]; done) | (simp only [vd]; omega)) only [vs, reduceIte, Nat.reduceEqDiff]
 exact W.ret ⟨.inr rfl, _, _, _, .refl _ _, ress_t rfl, hq _ (VH.le_skip _)⟩
theorem signed_ok (neg : Bool) (m : List Nat) (hm : m.length < 4611686018427387904) (hl : Lim m) (hq : ∀ h1, h.le h1 → Q (zV (sg neg (nv m))) h1) : Runs Try.prog cfg 94 [.bool neg, u32S m] h Q c := by
 refine Runs.go Try.func94 rfl rfl (.refl _ _) ?_
 refine W.rseq ?_
 simp (disch := first | omega | (simp only [vd]; done) | (simp only [vd]; omega)) only [vs, reduceIte, Nat.reduceEqDiff, Value.cells]
 refine W.rseq ?_
 simp (disch := first | omega | (simp only [vd]; done) | (simp only [vd]; omega)) only [vs, reduceIte, Nat.reduceEqDiff]
 refine trim_ok m hm ?_
 simp (disch := first | omega | (simp only [vd]; done) | (simp only [vd]; omega)) only [vs, reduceIte, Nat.reduceEqDiff]
 rw [trimL_dig hl]
 have hln : (dig (nv m)).length ≤ m.length := by rw [← trimL_dig hl]; exact trimL_len m
 by_cases h0 : nv m = 0
 ·rw [h0, dig_zero]
  refine W.seq (W.rseq ?_)
  simp (disch := first | omega | (simp only [vd]; done) | (simp only [vd]; omega)) only [vs, reduceIte, Nat.reduceEqDiff]
  refine W.cond true (by rfl) (fun _ => W.rseq ?_) nofun
  simp (disch := first | omega | (simp only [vd]; done) | (simp only [vd]; omega)) only [vs, reduceIte, Nat.reduceEqDiff]
  refine W.ret ⟨.inr rfl, _, _, zV 0, .nilc h.next 1 blk_push (Nat.zero_le _) (.refl _ _), ress_c rfl ?_, ?_⟩
  ·simp (disch := first | omega | (simp only [vd]; done) | (simp only [vd]; omega)) only [vs, reduceIte, Nat.reduceEqDiff]
   rw [rdN_push, zV_zero]
   rfl
  ·rw [h0, sg_zero] at hq
   exact hq _ (VH.le_set (VH.le_push _ _) (Nat.le_refl _) _)
 ·have h1 : (dig (nv m)).length ≠ 0 := by
   intro e
   exact h0 (dig_nil.1 (List.eq_nil_of_length_eq_zero e))
  refine W.seq (W.rseq ?_)
  simp (disch := first | omega | (simp only [vd]; done) | (simp only [vd]; omega)) only [vs, reduceIte, Nat.reduceEqDiff]
  refine W.cond false (by rfl) nofun (fun _ => W.skip ?_)
  simp (disch := first | omega | (simp only [vd]; done) | (simp only [vd]; omega)) only [vs, reduceIte, Nat.reduceEqDiff]
  refine W.rseq ?_
  simp (disch := first | omega | (simp only [vd]; done) | (simp only [vd]; omega)) only [vs, reduceIte, Nat.reduceEqDiff]
  refine W.ret ⟨.inr rfl, _, _, zV (sg neg (nv m)), .refl _ _, ress_c rfl ?_, hq _ (VH.le_push _ _)⟩
  simp (disch := first | omega | (simp only [vd]; done) | (simp only [vd]; omega)) only [vs, reduceIte, Nat.reduceEqDiff]
  rw [zV_pos h0]
theorem Sign_ok (neg : Bool) (m : List Nat) (hm : m.length < 4611686018427387904) (hl : Lim m) (hq : ∀ h1, h.le h1 → Q (.int .i64 (sg neg (nv m)).sign) h1) : Runs Try.prog cfg 58 [.agg #[.bool neg, u32S m]] h Q c := by
 refine Runs.go Try.func58 rfl rfl (.refl _ _) ?_
 refine W.rseqZ ?_
 simp (disch := first | omega | (simp only [vd]; done) | (simp only [vd]; omega)) only [vs, reduceIte, Nat.reduceEqDiff]
 refine WF.one 1 h.next rfl blk_push (WF.done ?_)
 simp (disch := first | omega | (simp only [vd]; done) | (simp only [vd]; omega)) only [vs, reduceIte, Nat.reduceEqDiff]
 have hln : (dig (nv m)).length ≤ m.length := by rw [← trimL_dig hl]; exact trimL_len m
 have hle := VH.le_skip h
 refine W.seq (W.block (W.rseq ?_))
 simp (disch := first | omega | (simp only [vd]; done) | (simp only [vd]; omega)) only [vs, reduceIte, Nat.reduceEqDiff]
 refine magnitude_ok neg m hm fun h1 hx => ?_
 rw [trimL_dig hl]
 by_cases h0 : nv m = 0
 ·rw [h0, dig_zero]
  simp (disch := first | omega | (simp only [vd]; done) | (simp only [vd]; omega)) only [vs, reduceIte, Nat.reduceEqDiff]
  refine W.cond true (by rfl) (fun _ => W.rseq ?_) nofun
  simp (disch := first | omega | (simp only [vd]; done) | (simp only [vd]; omega)) only [vs, reduceIte, Nat.reduceEqDiff]
  refine W.ret ⟨.inr rfl, _, _, _, .refl _ _, ress_t rfl, ?_⟩
  rw [h0, sg_zero] at hq
  exact hq _ (VH.le_trans hle hx)
 ·have h2 : (dig (nv m)).length ≠ 0 := by
   intro e
   exact h0 (dig_nil.1 (List.eq_nil_of_length_eq_zero e))
  simp (disch := first | omega | (simp only [vd]; done) | (simp only [vd]; omega)) only [vs, reduceIte, Nat.reduceEqDiff]
  refine W.cond false (by rfl) nofun (fun _ => W.rseq ?_)
  simp (disch := first | omega | (simp only [vd]; done) | (simp only [vd]; omega)) only [vs, reduceIte, Nat.reduceEqDiff]
  cases neg with
  | true =>
   refine W.cond true (by rfl) (fun _ => W.rseq ?_) nofun
   simp (disch := first | omega | (simp only [vd]; done) | (simp only [vd]; omega)) only [vs, reduceIte, Nat.reduceEqDiff]
   refine W.ret ⟨.inr rfl, _, _, _, .refl _ _, ress_t rfl, ?_⟩
   have : (sg true (nv m)).sign = -1 := Int.sign_eq_neg_one_of_neg (by simp [sg]; omega)
   rw [this] at hq
   exact hq _ (VH.le_trans hle hx)
  | false =>
   refine W.cond false (by rfl) nofun (fun _ => W.skip ?_)
   simp (disch := first | omega | (simp only [vd]; done) | (simp only [vd]; omega)) only [vs, reduceIte, Nat.reduceEqDiff]
   refine W.rseq ?_
   simp (disch := first | omega | (simp only [vd]; done) | (simp only [vd]; omega)) only [vs, reduceIte, Nat.reduceEqDiff]
   refine W.ret ⟨.inr rfl, _, _, _, .refl _ _, ress_t rfl, ?_⟩
   have : (sg false (nv m)).sign = 1 := Int.sign_eq_one_of_pos (by simp [sg]; omega)
   rw [this] at hq
   exact hq _ (VH.le_trans hle hx)
end Go.Proofs.Ytjpknabdmmkobaa
end

section
open Go Go.QM
namespace Go.Proofs.Ytjpknabdmmkobaa
variable {h : VH} {Q : Value → VH → Prop} {c : Cw Q}
theorem take_set_succ {l : List Nat} {i x : Nat} (hi : i < l.length) : (l.set i x).take (i + 1) = l.take i ++ [x] := by
 rw [take_succ_getD (by simpa using hi), List.take_set_of_le (Nat.le_refl _)]
 simp [hi]
theorem nv_set_succ {l : List Nat} {i x : Nat} (hi : i < l.length) : nv ((l.set i x).take (i + 1)) = nv (l.take i) + WB ^ i * x := by
 rw [take_set_succ hi, nv_append]
 simp [nv, Nat.min_eq_left (Nat.le_of_lt hi)]
theorem nv_take_getD (l : List Nat) (i : Nat) : nv (l.take (i + 1)) = nv (l.take i) + WB ^ i * l.getD i 0 := by
 by_cases h : i < l.length
 ·exact nv_take_succ h
 ·rw [List.take_of_length_le (by omega), List.take_of_length_le (by omega)]
  simp [List.getElem?_eq_none (Nat.le_of_not_lt h)]
theorem plus_ok (a b : List Nat) (ha : a.length < 1099511627776) (hb : b.length < 1099511627776) (la : Lim a) (lb : Lim b) (hq : ∀ h1, h.le h1 → Q (u32S (dig (nv a + nv b))) h1) : Runs Try.prog cfg 112 [u32S a, u32S b] h Q c := by
 refine Runs.go Try.func112 rfl rfl (.refl _ _) ?_
 refine W.rseq ?_
 simp (disch := first | omega | (simp only [vd]; done) | (simp only [vd]; omega)) only [vs, reduceIte, Nat.reduceEqDiff]
 refine W.rseq ?_
 simp (disch := first | omega | (simp only [vd]; done) | (simp only [vd]; omega)) only [vs, reduceIte, Nat.reduceEqDiff]
 have hmax : max (a.length : Int) b.length = (max a.length b.length : Nat) := by omega
 rw [hmax]
 generalize hn : max a.length b.length = n
 have hn1 : a.length ≤ n := by omega
 have hn2 : b.length ≤ n := by omega
 have hn3 : n < 1099511627776 := by omega
 clear hn hmax
 have en : ((n : Int) + 1).toNat = n + 1 := by omega
 refine W.rseq ?_
 simp (disch := first | omega | (simp only [vd]; done) | (simp only [vd]; omega)) only [vs, reduceIte, Nat.reduceEqDiff, en]
 refine W.rseq ?_
 simp (disch := first | omega | (simp only [vd]; done) | (simp only [vd]; omega)) only [vs, reduceIte, Nat.reduceEqDiff]
 refine W.seq (W.rseq ?_)
 simp (disch := first | omega | (simp only [vd]; done) | (simp only [vd]; omega)) only [vs, reduceIte, Nat.reduceEqDiff]
 refine W.block (W.loop (fun k e h' => ∃ (i cy : Nat) (out : List Nat), k = n - i ∧ i ≤ n ∧ e 0 = u32S a ∧ e 1 = u32S b ∧ e 5 = .int .i64 n ∧ e 6 = .slice (some ⟨h.next, 0, none⟩) (n + 1) (n + 1) ∧ e 7 = .int .u64 cy ∧ e 17 = .int .i64 n ∧ e 18 = .int .i64 i ∧
  h' = h.push ⟨88, 1, u32L out⟩ ∧ out.length = n + 1 ∧ Lim out ∧ cy ≤ 1 ∧ nv (out.take i) + WB ^ i * cy = nv (a.take i) + nv (b.take i)) n ?_ ?_)
 ·exact ⟨0, 0, List.replicate (n + 1) 0, rfl, Nat.zero_le _, rfl, rfl, rfl, rfl, rfl, rfl, rfl, rfl, by simp, Lim.rep _, Nat.zero_le _, by simp [nv]⟩
 rintro k e h' ⟨i, cy, out, rfl, hi, e0, e1, e5, e6, e7, e17, e18, rfl, ho, lo, hcy, hv⟩
 by_cases hlt : i < n
 ·refine W.rseq ?_
  simp (disch := first | omega | (simp only [vd]; done) | (simp only [vd]; omega)) only [vs, reduceIte, Nat.reduceEqDiff, e17, e18]
  refine W.seq (W.cond true (by rfl) (fun _ => W.skip ?_) nofun)
  refine W.seq (W.block (W.rseq ?_))
  simp (disch := first | omega | (simp only [vd]; done) | (simp only [vd]; omega)) only [vs, reduceIte, Nat.reduceEqDiff, e18]
  refine W.rseq ?_
  simp (disch := first | omega | (simp only [vd]; done) | (simp only [vd]; omega)) only [vs, reduceIte, Nat.reduceEqDiff, e0, e1, e7]
  refine limb_ok a i (by omega) (by omega) la ?_
  simp (disch := first | omega | (simp only [vd]; done) | (simp only [vd]; omega)) only [vs, reduceIte, Nat.reduceEqDiff, e0, e1, e7]
  refine limb_ok b i (by omega) (by omega) lb ?_
  have ba := la.getD i
  have bb := lb.getD i
  generalize hx : a.getD i 0 = x at *
  generalize hy : b.getD i 0 = y at *
  simp (disch := first | omega | (simp only [vd]; done) | (simp only [vd]; omega)) only [vs, reduceIte, Nat.reduceEqDiff, e0, e1, e7]
  refine W.rseq ?_
  simp (disch := first | omega | (simp only [vd]; done) | (simp only [vd]; omega)) only [vs, reduceIte, Nat.reduceEqDiff, e6, wrap_u32m, Int.toNat_natCast]
  refine W.reg ?_
  simp (disch := first | omega | (simp only [vd]; done) | (simp only [vd]; omega)) only [vs, reduceIte, Nat.reduceEqDiff]
  refine W.reg ?_
  simp (disch := first | omega | (simp only [vd]; done) | (simp only [vd]; omega)) only [vs, reduceIte, Nat.reduceEqDiff, e18]
  have es : (((cy : Int) + (x + y)) % 4294967296).toNat = (cy + (x + y)) % 4294967296 := by omega
  refine ⟨n - (i + 1), by omega, i + 1, (cy + (x + y)) / 4294967296, out.set i ((cy + (x + y)) % 4294967296), rfl, by omega, ?_⟩
  simp (disch := first | omega | (simp only [vd]; done) | (simp only [vd]; omega)) only [vs, reduceIte, Nat.reduceEqDiff, e0, e1, e5, e6, e17, es, ho, List.length_set, Int.natCast_add, Int.natCast_mul, Int.natCast_ediv, Int.natCast_emod, Int.cast_ofNat_Int, Int.toNat_natCast]
  refine ⟨lo.set (Nat.mod_lt _ (by decide)), by omega, ?_⟩
  rw [nv_set_succ (by omega), nv_take_getD a, nv_take_getD b, hx, hy, Nat.pow_succ, Nat.mul_assoc, Nat.add_assoc, ← Nat.mul_add, Nat.mod_add_div]
  simp only [Nat.mul_add]
  omega
 ·obtain rfl : i = n := by omega
  refine W.rseq ?_
  simp (disch := first | omega | (simp only [vd]; done) | (simp only [vd]; omega)) only [vs, reduceIte, Nat.reduceEqDiff, e17, e18]
  refine W.seq (W.cond false (by rfl) nofun (fun _ => W.exit ?_))
  simp (disch := first | omega | (simp only [vd]; done) | (simp only [vd]; omega)) only [vs, reduceIte, Nat.reduceEqDiff]
  refine W.rseqZ ?_
  simp (disch := first | omega | (simp only [vd]; done) | (simp only [vd]; omega)) only [vs, reduceIte, Nat.reduceEqDiff, e5, e6, e7, Int.toNat_natCast]
  refine WF.one 6 h.next rfl blk_push (WF.done ?_)
  simp (disch := first | omega | (simp only [vd]; done) | (simp only [vd]; omega)) only [vs, reduceIte, Nat.reduceEqDiff, e6]
  refine W.rseq ?_
  simp (disch := first | omega | (simp only [vd]; done) | (simp only [vd]; omega)) only [vs, reduceIte, Nat.reduceEqDiff]
  refine trim_ok _ (by rw [List.length_set]; omega) ?_
  have lo' : Lim (out.set i cy) := lo.set (show cy < 4294967296 by omega)
  have hv' : nv (out.set i cy) = nv a + nv b := by
   have h1 := nv_set_succ (l := out) (i := i) (x := cy) (by omega)
   rw [List.take_of_length_le (show (out.set i cy).length ≤ i + 1 by rw [List.length_set]; omega)] at h1
   rw [List.take_of_length_le hn1, List.take_of_length_le hn2] at hv
   omega
  rw [trimL_dig lo', hv']
  simp (disch := first | omega | (simp only [vd]; done) | (simp only [vd]; omega)) only [vs, reduceIte, Nat.reduceEqDiff]
  exact W.ret ⟨.inr rfl, _, _, _, .refl _ _, ress_t rfl, hq _ (VH.le_skip _)⟩
theorem minus_ok (a b : List Nat) (ha : a.length < 1099511627776) (hb : b.length < 1099511627776) (la : Lim a) (lb : Lim b) (hle : b.length ≤ a.length) (hab : nv b ≤ nv a) (hq : ∀ h1, h.le h1 → Q (u32S (dig (nv a - nv b))) h1) : Runs Try.prog cfg 113 [u32S a, u32S b] h Q c := by
 refine Runs.go Try.func113 rfl rfl (.refl _ _) ?_
 refine W.rseq ?_
 simp (disch := first | omega | (simp only [vd]; done) | (simp only [vd]; omega)) only [vs, reduceIte, Nat.reduceEqDiff]
 refine W.rseq ?_
 simp (disch := first | omega | (simp only [vd]; done) | (simp only [vd]; omega)) only [vs, reduceIte, Nat.reduceEqDiff, List.length_set, Int.natCast_add, Int.natCast_mul, Int.natCast_ediv, Int.natCast_emod, Int.cast_ofNat_Int, Int.toNat_natCast]
 refine W.rseq ?_
 simp (disch := first | omega | (simp only [vd]; done) | (simp only [vd]; omega)) only [vs, reduceIte, Nat.reduceEqDiff]
 refine W.seqZ (W.rseq ?_)
 simp (disch := first | omega | (simp only [vd]; done) | (simp only [vd]; omega)) only [vs, reduceIte, Nat.reduceEqDiff]
 refine W.block (W.loop (fun k e h' => ∃ (i cy : Nat) (out : List Nat), k = a.length - i ∧ i ≤ a.length ∧ e 0 = u32S a ∧ e 1 = u32S b ∧ e 5 = .slice (some ⟨h.next, 0, none⟩) a.length a.length ∧ e 6 = .int .u64 cy ∧ e 13 = .int .i64 a.length ∧ e 14 = .int .i64 i ∧
  h' = h.push ⟨88, 1, u32L out⟩ ∧ out.length = a.length ∧ Lim out ∧ cy ≤ 1 ∧ nv (out.take i) + nv (b.take i) = nv (a.take i) + WB ^ i * cy) a.length ?_ ?_)
 ·exact ⟨0, 0, List.replicate a.length 0, rfl, Nat.zero_le _, rfl, rfl, rfl, rfl, rfl, rfl, rfl, by simp, Lim.rep _, Nat.zero_le _, by simp [nv]⟩
 rintro k e h' ⟨i, cy, out, rfl, hi, e0, e1, e5, e6, e13, e14, rfl, ho, lo, hcy, hv⟩
 by_cases hlt : i < a.length
 ·refine W.rseq ?_
  simp (disch := first | omega | (simp only [vd]; done) | (simp only [vd]; omega)) only [vs, reduceIte, Nat.reduceEqDiff, e13, e14]
  refine W.seq (W.cond true (by rfl) (fun _ => W.skip ?_) nofun)
  refine W.seq (W.block (W.rseq ?_))
  simp (disch := first | omega | (simp only [vd]; done) | (simp only [vd]; omega)) only [vs, reduceIte, Nat.reduceEqDiff, e14]
  refine W.dseq (fun _ => True) (by rfl) ?_
  have ba := la.getD i
  have bb := lb.getD i
  simp (disch := first | omega | (simp only [vd]; done) | (simp only [vd]; omega)) only [vs, reduceIte, Nat.reduceEqDiff, e0, e1, e6, Int.toNat_natCast]
  refine limb_ok b i (by omega) (by omega) lb ?_
  generalize hx : a.getD i 0 = x at *
  generalize hy : b.getD i 0 = y at *
  simp (disch := first | omega | (simp only [vd]; done) | (simp only [vd]; omega)) only [vs, reduceIte, Nat.reduceEqDiff, e6, wrap_u64m]
  refine W.rseq ?_
  simp (disch := first | omega | (simp only [vd]; done) | (simp only [vd]; omega)) only [vs, reduceIte, Nat.reduceEqDiff, e5, wrap_u32m, Int.toNat_natCast]
  refine W.reg ?_
  simp (disch := first | omega | (simp only [vd]; done) | (simp only [vd]; omega)) only [vs, reduceIte, Nat.reduceEqDiff]
  refine W.reg ?_
  simp (disch := first | omega | (simp only [vd]; done) | (simp only [vd]; omega)) only [vs, reduceIte, Nat.reduceEqDiff, e14]
  generalize hw : ((((x : Int) - y) % 18446744073709551616 - cy) % 18446744073709551616) = w
  have w1 : (w % 4294967296).toNat = (x + (4294967296 - (y + cy))) % 4294967296 := by omega
  have w2 : w / 9223372036854775808 = ((if x < y + cy then 1 else 0 : Nat) : Int) := by split <;> omega
  refine ⟨a.length - (i + 1), by omega, i + 1, if x < y + cy then 1 else 0, out.set i ((x + (4294967296 - (y + cy))) % 4294967296), rfl, by omega, ?_⟩
  simp (disch := first | omega | (simp only [vd]; done) | (simp only [vd]; omega)) only [vs, reduceIte, Nat.reduceEqDiff, e0, e1, e5, e13, w1, w2, ho, List.length_set, Int.natCast_add, Int.natCast_mul, Int.natCast_ediv, Int.natCast_emod, Int.cast_ofNat_Int, Int.toNat_natCast]
  refine ⟨lo.set (Nat.mod_lt _ (by decide)), by split <;> omega, ?_⟩
  rw [nv_set_succ (by omega), nv_take_getD a, nv_take_getD b, hx, hy, Nat.pow_succ]
  have w3 : (x + (4294967296 - (y + cy))) % 4294967296 + y + cy = x + 4294967296 * (if x < y + cy then 1 else 0) := by split <;> omega
  have w4 := congrArg (fun z => WB ^ i * z) w3
  simp only [Nat.mul_add] at w4
  rw [Nat.mul_assoc]
  simp only [WB] at w4 hv ⊢
  omega
 ·obtain rfl : i = a.length := by omega
  refine W.rseq ?_
  simp (disch := first | omega | (simp only [vd]; done) | (simp only [vd]; omega)) only [vs, reduceIte, Nat.reduceEqDiff, e13, e14]
  refine W.seq (W.cond false (by rfl) nofun (fun _ => W.exit ?_))
  simp (disch := first | omega | (simp only [vd]; done) | (simp only [vd]; omega)) only [vs, reduceIte, Nat.reduceEqDiff]
  refine WF.one 5 h.next rfl blk_push (WF.done ?_)
  simp (disch := first | omega | (simp only [vd]; done) | (simp only [vd]; omega)) only [vs, reduceIte, Nat.reduceEqDiff, e5]
  refine W.rseq ?_
  simp (disch := first | omega | (simp only [vd]; done) | (simp only [vd]; omega)) only [vs, reduceIte, Nat.reduceEqDiff]
  refine trim_ok _ (by omega) ?_
  rw [← ho, List.take_of_length_le (Nat.le_refl _), ho, List.take_of_length_le hle, List.take_of_length_le (Nat.le_refl _)] at hv
  have h1 := nv_lt lo
  rw [ho] at h1
  have hc0 : cy = 0 := by
   rcases Nat.eq_zero_or_pos cy with h | h
   ·exact h
   ·obtain rfl : cy = 1 := by omega
    omega
  subst hc0
  have : nv out = nv a - nv b := by omega
  rw [trimL_dig lo, this]
  simp (disch := first | omega | (simp only [vd]; done) | (simp only [vd]; omega)) only [vs, reduceIte, Nat.reduceEqDiff]
  exact W.ret ⟨.inr rfl, _, _, _, .refl _ _, ress_t rfl, hq _ (VH.le_skip _)⟩
end Go.Proofs.Ytjpknabdmmkobaa
end

section
open Go Go.QM
namespace Go.Proofs.Ytjpknabdmmkobaa
variable {h : VH} {Q : Value → VH → Prop} {c : Cw Q}
theorem mul_lt_words {x y : Nat} (hx : x < 4294967296) (hy : y < 4294967296) : (x : Int) * y ≤ 18446744065119617025 ∧ 0 ≤ (x : Int) * y := by
 have h1 : x * y ≤ 4294967295 * 4294967295 := Nat.mul_le_mul (by omega) (by omega)
 have h2 : ((x * y : Nat) : Int) ≤ 18446744065119617025 := by omega
 rw [Int.natCast_mul] at h2
 exact ⟨h2, by rw [← Int.natCast_mul]; omega⟩
theorem mulStep {W0 x y cy o s N N' T R : Nat} (hs : s = cy + (x * y + o)) (h1 : N' + W0 * o = N + W0 * (s % WB)) (h2 : N + W0 * cy = R + T) : N' + W0 * WB * (s / WB) = R + T + W0 * (x * y) := by
 have h3 : W0 * (s % WB) + W0 * (WB * (s / WB)) = W0 * s := by rw [← Nat.mul_add, Nat.mod_add_div]
 have h4 : W0 * s = W0 * cy + W0 * (x * y) + W0 * o := by rw [hs, Nat.mul_add, Nat.mul_add]; omega
 rw [Nat.mul_assoc]
 omega
theorem times_ok (a b : List Nat) (ha : a.length < 1099511627776) (hb : b.length < 1099511627776) (la : Lim a) (lb : Lim b) (hq : ∀ h1, h.le h1 → Q (u32S (dig (nv a * nv b))) h1) : Runs Try.prog cfg 110 [u32S a, u32S b] h Q c := by
 refine Runs.go Try.func110 rfl rfl (.refl _ _) ?_
 refine W.rseq ?_
 simp (disch := first | omega | (simp only [vd]; done) | (simp only [vd]; omega)) only [vs, reduceIte, Nat.reduceEqDiff]
 refine W.rseq ?_
 have en : ((a.length : Int) + b.length).toNat = a.length + b.length := by omega
 simp (disch := first | omega | (simp only [vd]; done) | (simp only [vd]; omega)) only [vs, reduceIte, Nat.reduceEqDiff, en]
 refine W.seqZ (W.rseq ?_)
 simp (disch := first | omega | (simp only [vd]; done) | (simp only [vd]; omega)) only [vs, reduceIte, Nat.reduceEqDiff]
 refine W.block (W.loop (fun k e h' => ∃ (i : Nat) (out : List Nat), k = a.length - i ∧ i ≤ a.length ∧ e 0 = u32S a ∧ e 1 = u32S b ∧ e 5 = .slice (some ⟨h.next, 0, none⟩) (a.length + b.length) (a.length + b.length) ∧ e 16 = .int .i64 a.length ∧ e 17 = .int .i64 i ∧
  h' = h.push ⟨88, 1, u32L out⟩ ∧ out.length = a.length + b.length ∧ Lim out ∧ (∀ k, i + b.length ≤ k → out.getD k 0 = 0) ∧ nv out = nv (a.take i) * nv b) a.length ?_ ?_)
 ·refine ⟨0, List.replicate (a.length + b.length) 0, rfl, Nat.zero_le _, rfl, rfl, rfl, rfl, rfl, rfl, by simp, Lim.rep _, fun k hk => ?_, by simp [nv_rep, nv]⟩
  simp [List.getElem?_replicate]
  split <;> rfl
 rintro k e h' ⟨i, out, rfl, hi, e0, e1, e5, e16, e17, rfl, ho, lo, hz, hv⟩
 by_cases hlt : i < a.length
 ·refine W.rseq ?_
  simp (disch := first | omega | (simp only [vd]; done) | (simp only [vd]; omega)) only [vs, reduceIte, Nat.reduceEqDiff, e16, e17]
  refine W.seq (W.cond true (by rfl) (fun _ => W.skip ?_) nofun)
  refine W.seq (W.block (W.rseq ?_))
  simp (disch := first | omega | (simp only [vd]; done) | (simp only [vd]; omega)) only [vs, reduceIte, Nat.reduceEqDiff, e17]
  refine W.rseq ?_
  simp (disch := first | omega | (simp only [vd]; done) | (simp only [vd]; omega)) only [vs, reduceIte, Nat.reduceEqDiff]
  refine W.seq (W.rseq ?_)
  simp (disch := first | omega | (simp only [vd]; done) | (simp only [vd]; omega)) only [vs, reduceIte, Nat.reduceEqDiff, e1]
  have bx := la.getD i
  generalize hx : a.getD i 0 = x at *
  refine W.block (W.loop (fun k e h' => ∃ (j cy : Nat) (out : List Nat), k = b.length - j ∧ j ≤ b.length ∧ e 0 = u32S a ∧ e 1 = u32S b ∧ e 5 = .slice (some ⟨h.next, 0, none⟩) (a.length + b.length) (a.length + b.length) ∧ e 16 = .int .i64 a.length ∧ e 17 = .int .i64 i ∧
   e 6 = .int .i64 i ∧ e 7 = .int .u64 cy ∧ e 21 = .int .i64 b.length ∧ e 22 = .int .i64 j ∧
   h' = h.push ⟨88, 1, u32L out⟩ ∧ out.length = a.length + b.length ∧ Lim out ∧ cy < 4294967296 ∧ (∀ k, i + b.length ≤ k → out.getD k 0 = 0) ∧ nv out + WB ^ (i + j) * cy = nv (a.take i) * nv b + WB ^ i * (x * nv (b.take j))) b.length ?_ ?_)
  ·refine ⟨0, 0, out, rfl, Nat.zero_le _, ?_⟩
   simp (disch := first | omega | (simp only [vd]; done) | (simp only [vd]; omega)) only [vs, reduceIte, Nat.reduceEqDiff, e0, e1, e5, e16, e17, ho]
   exact ⟨rfl, rfl, lo, by omega, hz, by simp [nv, hv]⟩
  clear hz hv lo ho out e0 e1 e5 e16 e17 e
  rintro k e h' ⟨j, cy, out, rfl, hj, e0, e1, e5, e16, e17, e6, e7, e21, e22, rfl, ho, lo, hcy, hz, hv⟩
  by_cases hlj : j < b.length
  ·refine W.rseq ?_
   simp (disch := first | omega | (simp only [vd]; done) | (simp only [vd]; omega)) only [vs, reduceIte, Nat.reduceEqDiff, e21, e22]
   refine W.seq (W.cond true (by rfl) (fun _ => W.skip ?_) nofun)
   refine W.seq (W.block (W.rseq ?_))
   simp (disch := first | omega | (simp only [vd]; done) | (simp only [vd]; omega)) only [vs, reduceIte, Nat.reduceEqDiff, e22]
   refine W.dseq (fun _ => True) (by rfl) ?_
   have by' := lb.getD j
   have bo := lo.getD (i + j)
   have eij : ((i : Int) + j).toNat = i + j := by omega
   generalize hy : b.getD j 0 = y at *
   generalize hoo : out.getD (i + j) 0 = o at *
   obtain ⟨hp1, hp2⟩ := mul_lt_words bx by'
   simp (disch := first | omega | (simp only [vd]; done) | (simp only [vd]; omega)) only [vs, reduceIte, Nat.reduceEqDiff, e0, e1, e5, e6, e7, hx, hy, hoo, eij, Int.toNat_natCast]
   refine W.rseq ?_
   simp (disch := first | omega | (simp only [vd]; done) | (simp only [vd]; omega)) only [vs, reduceIte, Nat.reduceEqDiff, e5, e6, eij, wrap_u32m, Int.toNat_natCast]
   refine W.reg ?_
   simp (disch := first | omega | (simp only [vd]; done) | (simp only [vd]; omega)) only [vs, reduceIte, Nat.reduceEqDiff]
   refine W.reg ?_
   simp (disch := first | omega | (simp only [vd]; done) | (simp only [vd]; omega)) only [vs, reduceIte, Nat.reduceEqDiff, e22]
   have hp3 : (x : Int) * y = ((x * y : Nat) : Int) := by simp
   rw [hp3] at hp1 hp2 ⊢
   generalize hxy : x * y = p at *
   have es : (((cy : Int) + (p + o)) % 4294967296).toNat = (cy + (p + o)) % 4294967296 := by omega
   refine ⟨b.length - (j + 1), by omega, j + 1, (cy + (p + o)) / 4294967296, out.set (i + j) ((cy + (p + o)) % 4294967296), rfl, by omega, ?_⟩
   simp (disch := first | omega | (simp only [vd]; done) | (simp only [vd]; omega)) only [vs, reduceIte, Nat.reduceEqDiff, e0, e1, e5, e16, e17, e6, e21, es, ho, List.length_set, Int.natCast_add, Int.natCast_mul, Int.natCast_ediv, Int.natCast_emod, Int.cast_ofNat_Int, Int.toNat_natCast]
   refine ⟨lo.set (Nat.mod_lt _ (by decide)), by omega, fun k hk => by rw [getDL_set_ne (by omega)]; exact hz k hk, ?_⟩
   have h1 := nv_set (l := out) (i := i + j) (by omega) ((cy + (p + o)) % 4294967296)
   rw [hoo] at h1
   have h2 := mulStep (x := x) (y := y) (cy := cy) (o := o) (s := cy + (p + o)) (by rw [hxy]) h1 hv
   rw [show i + (j + 1) = (i + j) + 1 by omega, Nat.pow_succ]
   refine h2.trans ?_
   rw [nv_take_getD, hy, Nat.mul_add, Nat.mul_add, Nat.pow_add, Nat.add_assoc]
   congr 2
   rw [Nat.mul_assoc, ← Nat.mul_assoc x, Nat.mul_comm x (WB ^ j), Nat.mul_assoc]
  ·obtain rfl : j = b.length := by omega
   refine W.rseq ?_
   simp (disch := first | omega | (simp only [vd]; done) | (simp only [vd]; omega)) only [vs, reduceIte, Nat.reduceEqDiff, e21, e22]
   refine W.seq (W.cond false (by rfl) nofun (fun _ => W.exit ?_))
   simp (disch := first | omega | (simp only [vd]; done) | (simp only [vd]; omega)) only [vs, reduceIte, Nat.reduceEqDiff]
   have eij : ((i : Int) + b.length).toNat = i + b.length := by omega
   refine W.reg ?_
   simp (disch := first | omega | (simp only [vd]; done) | (simp only [vd]; omega)) only [vs, reduceIte, Nat.reduceEqDiff, e1, e5, e6, e7, eij, Int.toNat_natCast]
   refine W.reg ?_
   simp (disch := first | omega | (simp only [vd]; done) | (simp only [vd]; omega)) only [vs, reduceIte, Nat.reduceEqDiff, e17]
   refine ⟨a.length - (i + 1), by omega, i + 1, out.set (i + b.length) cy, rfl, by omega, ?_⟩
   simp (disch := first | omega | (simp only [vd]; done) | (simp only [vd]; omega)) only [vs, reduceIte, Nat.reduceEqDiff, e0, e1, e5, e16, ho, List.length_set, Int.natCast_add, Int.natCast_mul, Int.natCast_ediv, Int.natCast_emod, Int.cast_ofNat_Int, Int.toNat_natCast]
   refine ⟨lo.set hcy, fun k hk => by rw [getDL_set_ne (by omega)]; exact hz k (by omega), ?_⟩
   have h1 := nv_set (l := out) (i := i + b.length) (by omega) cy
   rw [hz _ (Nat.le_refl _)] at h1
   rw [List.take_of_length_le (Nat.le_refl _)] at hv
   rw [nv_take_getD a, hx, Nat.add_mul, Nat.mul_assoc]
   omega
 ·obtain rfl : i = a.length := by omega
  refine W.rseq ?_
  simp (disch := first | omega | (simp only [vd]; done) | (simp only [vd]; omega)) only [vs, reduceIte, Nat.reduceEqDiff, e16, e17]
  refine W.seq (W.cond false (by rfl) nofun (fun _ => W.exit ?_))
  simp (disch := first | omega | (simp only [vd]; done) | (simp only [vd]; omega)) only [vs, reduceIte, Nat.reduceEqDiff]
  refine WF.one 5 h.next rfl blk_push (WF.done ?_)
  simp (disch := first | omega | (simp only [vd]; done) | (simp only [vd]; omega)) only [vs, reduceIte, Nat.reduceEqDiff, e5]
  refine W.rseq ?_
  simp (disch := first | omega | (simp only [vd]; done) | (simp only [vd]; omega)) only [vs, reduceIte, Nat.reduceEqDiff]
  refine trim_ok _ (by omega) ?_
  rw [List.take_of_length_le (Nat.le_refl _)] at hv
  rw [trimL_dig lo, hv]
  simp (disch := first | omega | (simp only [vd]; done) | (simp only [vd]; omega)) only [vs, reduceIte, Nat.reduceEqDiff]
  exact W.ret ⟨.inr rfl, _, _, _, .refl _ _, ress_t rfl, hq _ (VH.le_skip _)⟩
end Go.Proofs.Ytjpknabdmmkobaa
end

section
open Go Go.QM
namespace Go.Proofs.Ytjpknabdmmkobaa
variable {h : VH} {Q : Value → VH → Prop} {c : Cw Q}
theorem Add_ok (n1 n2 : Bool) (a b : List Nat) (ha : a.length < 1099511627776) (hb : b.length < 1099511627776) (la : Lim a) (lb : Lim b) (hq : ∀ h1, h.le h1 → Q (zV (sg n1 (nv a) + sg n2 (nv b))) h1) :
  Runs Try.prog cfg 109 [.agg #[.bool n1, u32S a], .agg #[.bool n2, u32S b]] h Q c := by
 refine Runs.go Try.func109 rfl rfl (.refl _ _) ?_
 refine W.rseqZ ?_
 simp (disch := first | omega | (simp only [vd]; done) | (simp only [vd]; omega)) only [vs, reduceIte, Nat.reduceEqDiff, Value.cells]
 refine WF.d2 2 rfl (WF.d1 3 rfl (WF.done ?_))
 simp (disch := first | omega | (simp only [vd]; done) | (simp only [vd]; omega)) only [vs, reduceIte, Nat.reduceEqDiff, next_push, next_skip]
 have hle : h.le (h.skip.skip.push ⟨39, 0, [.bool false, .slice none 0 0]⟩) := (VH.le_skip _).trans ((VH.le_skip _).trans (VH.le_push _ _))
 have hR : (h.skip.skip.push ⟨39, 0, [.bool false, .slice none 0 0]⟩).blk (h.next + 1 + 1) = some ⟨39, 0, [.bool false, .slice none 0 0]⟩ := blk_push
 have hn : h.next + 1 + 1 < (h.skip.skip.push ⟨39, 0, [.bool false, .slice none 0 0]⟩).next := Nat.lt_succ_self _
 generalize h.skip.skip.push ⟨39, 0, [.bool false, .slice none 0 0]⟩ = H at *
 obtain ⟨r, hr⟩ : ∃ r, h.next + 1 + 1 = r := ⟨_, rfl⟩
 rw [hr] at hR hn ⊢
 have hra := nv_lt la
 have hdx := trimL_len a
 have hdy := trimL_len b
 rw [trimL_dig la] at hdx
 rw [trimL_dig lb] at hdy
 refine W.dseq (fun _ => True) (by rfl) ?_
 simp (disch := first | omega | (simp only [vd]; done) | (simp only [vd]; omega)) only [vs, reduceIte, Nat.reduceEqDiff]
 refine magnitude_ok n1 a (by omega) fun h1 hx1 => ?_
 rw [trimL_dig la]
 simp (disch := first | omega | (simp only [vd]; done) | (simp only [vd]; omega)) only [vs, reduceIte, Nat.reduceEqDiff, gr_le hx1]
 refine magnitude_ok n2 b (by omega) fun h2 hx2 => ?_
 rw [trimL_dig lb]
 simp (disch := first | omega | (simp only [vd]; done) | (simp only [vd]; omega)) only [vs, reduceIte, Nat.reduceEqDiff, gr_le hx2]
 have hx := hx1.trans hx2
 have hle2 := hle.trans hx
 have hR2 : h2.blk r = some ⟨39, 0, [.bool false, .slice none 0 0]⟩ := by rw [hx.2 r hn]; exact hR
 have hn2 : r < h2.next := Nat.lt_of_lt_of_le hn hx.1
 clear hx1 hx2 hle hR hn hx
 have fin : ∀ (h3 : VH) (z : Int), h2.le h3 → z = sg n1 (nv a) + sg n2 (nv b) → ∃ h4, wrN 0 h3 r 0 [.bool (decide (z < 0)), u32S (dig z.natAbs)] = some h4 ∧ Grow (fun x => x ≠ r) h2.next h3 h4 ∧ (rdN h4 r 0 2).map (fun l => Value.agg l.toArray) = some (zV (sg n1 (nv a) + sg n2 (nv b))) ∧ h.le h4 := by
  intro h3 z h23 hz
  have hR3 : h3.blk r = some ⟨39, 0, [.bool false, .slice none 0 0]⟩ := by rw [h23.2 r hn2]; exact hR2
  refine ⟨_, wr_s2 hR3, gr_set hR3 (fun e => e rfl) hn2, ?_, VH.le_set (hle2.trans h23) (by omega) _⟩
  rw [rdN_set, hz]
  rfl
 have lx := Lim_dig (nv a)
 have ly := Lim_dig (nv b)
 by_cases hs : n1 = n2
 ·subst hs
  refine W.seq (W.rseq ?_)
  simp (disch := first | omega | (simp only [vd]; done) | (simp only [vd]; omega)) only [vs, reduceIte, Nat.reduceEqDiff, beq_self_eq_true]
  refine W.cond true (by rfl) (fun _ => ?_) nofun
  refine W.dseq (fun x => x ≠ r) (by rfl) ?_
  simp (disch := first | omega | (simp only [vd]; done) | (simp only [vd]; omega)) only [vs, reduceIte, Nat.reduceEqDiff]
  refine plus_ok _ _ (by omega) (by omega) lx ly fun h3 hx3 => ?_
  rw [nv_dig, nv_dig]
  simp (disch := first | omega | (simp only [vd]; done) | (simp only [vd]; omega)) only [vs, reduceIte, Nat.reduceEqDiff, gr_le hx3]
  have l3 : (dig (nv a + nv b)).length < 4611686018427387904 := by
   have := dig_add_le (k := 1099511627776) (show (dig (nv a)).length ≤ 1099511627776 by omega) (show (dig (nv b)).length ≤ 1099511627776 by omega)
   omega
  refine signed_ok _ _ l3 (Lim_dig _) fun h4 hx4 => ?_
  rw [nv_dig, zV]
  simp (disch := first | omega | (simp only [vd]; done) | (simp only [vd]; omega)) only [vs, reduceIte, Nat.reduceEqDiff, gr_le hx4]
  obtain ⟨h5, k1, k2, k3, k4⟩ := fin h4 (sg n1 (nv a + nv b)) (hx3.trans hx4) (by unfold sg; split <;> omega)
  simp (disch := first | omega | (simp only [vd]; done) | (simp only [vd]; omega)) only [vs, reduceIte, Nat.reduceEqDiff, k1]
  refine ⟨k2, W.ret ⟨.inr rfl, _, _, _, .refl _ _, ress_c rfl ?_, hq _ k4⟩⟩
  simp (disch := first | omega | (simp only [vd]; done) | (simp only [vd]; omega)) only [vs, reduceIte, Nat.reduceEqDiff, k3]
 ·have hs' : (n1 == n2) = false := by simpa using hs
  refine W.seq (W.rseq ?_)
  simp (disch := first | omega | (simp only [vd]; done) | (simp only [vd]; omega)) only [vs, reduceIte, Nat.reduceEqDiff, hs']
  refine W.cond false (by rfl) nofun (fun _ => W.skip ?_)
  simp (disch := first | omega | (simp only [vd]; done) | (simp only [vd]; omega)) only [vs, reduceIte, Nat.reduceEqDiff]
  have sub : ∀ x y : Nat, (dig x).length < 1099511627776 → (dig (x - y)).length < 4611686018427387904 := fun x y hx => by
   have := dig_mono (Nat.sub_le x y)
   omega
  by_cases hc : nv b ≤ nv a
  ·have hcm : 0 ≤ cmpN (nv a) (nv b) := by unfold cmpN; split <;> (try split) <;> omega
   refine W.seq (W.rseq ?_)
   simp (disch := first | omega | (simp only [vd]; done) | (simp only [vd]; omega)) only [vs, reduceIte, Nat.reduceEqDiff]
   refine compare_ok _ _ (by omega) (by omega) ?_
   simp (disch := first | omega | (simp only [vd]; done) | (simp only [vd]; omega)) only [vs, reduceIte, Nat.reduceEqDiff]
   refine W.cond true (by rfl) (fun _ => ?_) nofun
   refine W.dseq (fun x => x ≠ r) (by rfl) ?_
   simp (disch := first | omega | (simp only [vd]; done) | (simp only [vd]; omega)) only [vs, reduceIte, Nat.reduceEqDiff]
   refine minus_ok _ _ (by omega) (by omega) lx ly (dig_mono hc) (by rw [nv_dig, nv_dig]; exact hc) fun h3 hx3 => ?_
   rw [nv_dig, nv_dig]
   simp (disch := first | omega | (simp only [vd]; done) | (simp only [vd]; omega)) only [vs, reduceIte, Nat.reduceEqDiff, gr_le hx3]
   refine signed_ok _ _ (sub _ _ (by omega)) (Lim_dig _) fun h4 hx4 => ?_
   rw [nv_dig, zV]
   simp (disch := first | omega | (simp only [vd]; done) | (simp only [vd]; omega)) only [vs, reduceIte, Nat.reduceEqDiff, gr_le hx4]
   obtain ⟨h5, k1, k2, k3, k4⟩ := fin h4 (sg n1 (nv a - nv b)) (hx3.trans hx4) (by cases n1 <;> cases n2 <;> simp [sg] at hs ⊢ <;> omega)
   simp (disch := first | omega | (simp only [vd]; done) | (simp only [vd]; omega)) only [vs, reduceIte, Nat.reduceEqDiff, k1]
   refine ⟨k2, W.ret ⟨.inr rfl, _, _, _, .refl _ _, ress_c rfl ?_, hq _ k4⟩⟩
   simp (disch := first | omega | (simp only [vd]; done) | (simp only [vd]; omega)) only [vs, reduceIte, Nat.reduceEqDiff, k3]
  ·have hcm : cmpN (nv a) (nv b) < 0 := by unfold cmpN; rw [if_pos (by omega)]; omega
   refine W.seq (W.rseq ?_)
   simp (disch := first | omega | (simp only [vd]; done) | (simp only [vd]; omega)) only [vs, reduceIte, Nat.reduceEqDiff]
   refine compare_ok _ _ (by omega) (by omega) ?_
   simp (disch := first | omega | (simp only [vd]; done) | (simp only [vd]; omega)) only [vs, reduceIte, Nat.reduceEqDiff]
   refine W.cond false (by rfl) nofun (fun _ => W.skip ?_)
   simp (disch := first | omega | (simp only [vd]; done) | (simp only [vd]; omega)) only [vs, reduceIte, Nat.reduceEqDiff]
   refine W.dseq (fun x => x ≠ r) (by rfl) ?_
   simp (disch := first | omega | (simp only [vd]; done) | (simp only [vd]; omega)) only [vs, reduceIte, Nat.reduceEqDiff]
   refine minus_ok _ _ (by omega) (by omega) ly lx (dig_mono (by omega)) (by rw [nv_dig, nv_dig]; omega) fun h3 hx3 => ?_
   rw [nv_dig, nv_dig]
   simp (disch := first | omega | (simp only [vd]; done) | (simp only [vd]; omega)) only [vs, reduceIte, Nat.reduceEqDiff, gr_le hx3]
   refine signed_ok _ _ (sub _ _ (by omega)) (Lim_dig _) fun h4 hx4 => ?_
   rw [nv_dig, zV]
   simp (disch := first | omega | (simp only [vd]; done) | (simp only [vd]; omega)) only [vs, reduceIte, Nat.reduceEqDiff, gr_le hx4]
   obtain ⟨h5, k1, k2, k3, k4⟩ := fin h4 (sg n2 (nv b - nv a)) (hx3.trans hx4) (by cases n1 <;> cases n2 <;> simp [sg] at hs ⊢ <;> omega)
   simp (disch := first | omega | (simp only [vd]; done) | (simp only [vd]; omega)) only [vs, reduceIte, Nat.reduceEqDiff, k1]
   refine ⟨k2, W.ret ⟨.inr rfl, _, _, _, .refl _ _, ress_c rfl ?_, hq _ k4⟩⟩
   simp (disch := first | omega | (simp only [vd]; done) | (simp only [vd]; omega)) only [vs, reduceIte, Nat.reduceEqDiff, k3]
end Go.Proofs.Ytjpknabdmmkobaa
end

section
open Go Go.QM
namespace Go.Proofs.Ytjpknabdmmkobaa
variable {h : VH} {Q : Value → VH → Prop} {c : Cw Q}
theorem fin_z {H h3 : VH} {r : Nat} {z : Int} (hle : h.le H) (hR : H.blk r = some ⟨39, 0, [.bool false, .slice none 0 0]⟩) (hn : r < H.next) (hhr : h.next ≤ r) (h23 : H.le h3) :
  ∃ h4, wrN 0 h3 r 0 [.bool (decide (z < 0)), u32S (dig z.natAbs)] = some h4 ∧ (∀ n0, H.next ≤ n0 → Grow (fun x => x ≠ r) n0 h3 h4) ∧ (rdN h4 r 0 2).map (fun l => Value.agg l.toArray) = some (zV z) ∧ h.le h4 := by
 have hR3 : h3.blk r = some ⟨39, 0, [.bool false, .slice none 0 0]⟩ := by rw [h23.2 r hn]; exact hR
 refine ⟨_, wr_s2 hR3, fun n0 hn0 => gr_set hR3 (fun e => e rfl) (by omega), ?_, VH.le_set (hle.trans h23) hhr _⟩
 rw [rdN_set]
 rfl
theorem Mul_ok (n1 n2 : Bool) (a b : List Nat) (ha : a.length < 1099511627776) (hb : b.length < 1099511627776) (la : Lim a) (lb : Lim b) (hq : ∀ h1, h.le h1 → Q (zV (sg n1 (nv a) * sg n2 (nv b))) h1) :
  Runs Try.prog cfg 88 [.agg #[.bool n1, u32S a], .agg #[.bool n2, u32S b]] h Q c := by
 refine Runs.go Try.func88 rfl rfl (.refl _ _) ?_
 refine W.rseqZ ?_
 simp (disch := first | omega | (simp only [vd]; done) | (simp only [vd]; omega)) only [vs, reduceIte, Nat.reduceEqDiff, Value.cells]
 refine WF.d2 2 rfl (WF.d1 3 rfl (WF.done ?_))
 try simp (disch := first | omega | (simp only [vd]; done) | (simp only [vd]; omega)) only [vs, reduceIte, Nat.reduceEqDiff, next_push, next_skip]
 have hle : h.le (h.skip.skip.push ⟨39, 0, [.bool false, .slice none 0 0]⟩) := (VH.le_skip _).trans ((VH.le_skip _).trans (VH.le_push _ _))
 have hR : (h.skip.skip.push ⟨39, 0, [.bool false, .slice none 0 0]⟩).blk (h.next + 1 + 1) = some ⟨39, 0, [.bool false, .slice none 0 0]⟩ := blk_push
 have hn : h.next + 1 + 1 < (h.skip.skip.push ⟨39, 0, [.bool false, .slice none 0 0]⟩).next := Nat.lt_succ_self _
 have hhr : h.next ≤ h.next + 1 + 1 := by omega
 generalize h.skip.skip.push ⟨39, 0, [.bool false, .slice none 0 0]⟩ = H at *
 generalize h.next + 1 + 1 = r at *
 have hdx := trimL_len a
 have hdy := trimL_len b
 rw [trimL_dig la] at hdx
 rw [trimL_dig lb] at hdy
 refine W.dseq (fun x => x ≠ r) (by rfl) ?_
 simp (disch := first | omega | (simp only [vd]; done) | (simp only [vd]; omega)) only [vs, reduceIte, Nat.reduceEqDiff]
 refine magnitude_ok n1 a (by omega) fun h1 hx1 => ?_
 rw [trimL_dig la]
 simp (disch := first | omega | (simp only [vd]; done) | (simp only [vd]; omega)) only [vs, reduceIte, Nat.reduceEqDiff, gr_le hx1]
 refine magnitude_ok n2 b (by omega) fun h2 hx2 => ?_
 rw [trimL_dig lb]
 simp (disch := first | omega | (simp only [vd]; done) | (simp only [vd]; omega)) only [vs, reduceIte, Nat.reduceEqDiff, gr_le hx2]
 refine times_ok _ _ (by omega) (by omega) (Lim_dig _) (Lim_dig _) fun h3 hx3 => ?_
 rw [nv_dig, nv_dig]
 simp (disch := first | omega | (simp only [vd]; done) | (simp only [vd]; omega)) only [vs, reduceIte, Nat.reduceEqDiff, gr_le hx3]
 have hdm := dig_mul_le (nv a) (nv b)
 refine signed_ok _ _ (by omega) (Lim_dig _) fun h4 hx4 => ?_
 rw [nv_dig, zV]
 simp (disch := first | omega | (simp only [vd]; done) | (simp only [vd]; omega)) only [vs, reduceIte, Nat.reduceEqDiff, gr_le hx4]
 have hz : sg (n1 != n2) (nv a * nv b) = sg n1 (nv a) * sg n2 (nv b) := by
  cases n1 <;> cases n2 <;> simp [sg, Int.neg_mul, Int.mul_neg]
 rw [hz]
 obtain ⟨h5, k1, k2, k3, k4⟩ := fin_z (z := sg n1 (nv a) * sg n2 (nv b)) hle hR hn hhr (hx1.trans (hx2.trans (hx3.trans hx4)))
 simp (disch := first | omega | (simp only [vd]; done) | (simp only [vd]; omega)) only [vs, reduceIte, Nat.reduceEqDiff, k1]
 refine ⟨k2 _ (Nat.le_refl _), W.ret ⟨.inr rfl, _, _, _, .refl _ _, ress_c rfl ?_, hq _ k4⟩⟩
 simp (disch := first | omega | (simp only [vd]; done) | (simp only [vd]; omega)) only [vs, reduceIte, Nat.reduceEqDiff, k3]
theorem Sub_ok (n1 n2 : Bool) (a b : List Nat) (ha : a.length < 1099511627776) (hb : b.length < 1099511627776) (la : Lim a) (lb : Lim b) (hq : ∀ h1, h.le h1 → Q (zV (sg n1 (nv a) - sg n2 (nv b))) h1) :
  Runs Try.prog cfg 87 [.agg #[.bool n1, u32S a], .agg #[.bool n2, u32S b]] h Q c := by
 refine Runs.go Try.func87 rfl rfl (.refl _ _) ?_
 refine W.rseqZ ?_
 simp (disch := first | omega | (simp only [vd]; done) | (simp only [vd]; omega)) only [vs, reduceIte, Nat.reduceEqDiff, Value.cells]
 refine WF.d2 2 rfl (WF.d1 3 rfl (WF.done ?_))
 try simp (disch := first | omega | (simp only [vd]; done) | (simp only [vd]; omega)) only [vs, reduceIte, Nat.reduceEqDiff, next_push, next_skip]
 have hle : h.le (h.skip.skip.push ⟨39, 0, [.bool false, .slice none 0 0]⟩) := (VH.le_skip _).trans ((VH.le_skip _).trans (VH.le_push _ _))
 have hR : (h.skip.skip.push ⟨39, 0, [.bool false, .slice none 0 0]⟩).blk (h.next + 1 + 1) = some ⟨39, 0, [.bool false, .slice none 0 0]⟩ := blk_push
 have hn : h.next + 1 + 1 < (h.skip.skip.push ⟨39, 0, [.bool false, .slice none 0 0]⟩).next := Nat.lt_succ_self _
 have hhr : h.next ≤ h.next + 1 + 1 := by omega
 generalize h.skip.skip.push ⟨39, 0, [.bool false, .slice none 0 0]⟩ = H at *
 generalize h.next + 1 + 1 = r at *
 refine W.rseq ?_
 simp (disch := first | omega | (simp only [vd]; done) | (simp only [vd]; omega)) only [vs, reduceIte, Nat.reduceEqDiff]
 refine Add_ok n1 (!n2) a b ha hb la lb fun h4 hx4 => ?_
 have hz : sg n1 (nv a) + sg (!n2) (nv b) = sg n1 (nv a) - sg n2 (nv b) := by
  cases n2 <;> simp [sg] <;> omega
 rw [hz, zV]
 simp (disch := first | omega | (simp only [vd]; done) | (simp only [vd]; omega)) only [vs, reduceIte, Nat.reduceEqDiff]
 obtain ⟨h5, k1, k2, k3, k4⟩ := fin_z (z := sg n1 (nv a) - sg n2 (nv b)) hle hR hn hhr hx4
 simp (disch := first | omega | (simp only [vd]; done) | (simp only [vd]; omega)) only [vs, reduceIte, Nat.reduceEqDiff, k1]
 refine W.ret ⟨.inr rfl, _, _, _, .refl _ _, ress_c rfl ?_, hq _ k4⟩
 simp (disch := first | omega | (simp only [vd]; done) | (simp only [vd]; omega)) only [vs, reduceIte, Nat.reduceEqDiff, k3]
theorem Normalize_ok (n1 : Bool) (a : List Nat) (ha : a.length < 1099511627776) (la : Lim a) (hq : ∀ h1, h.le h1 → Q (zV (sg n1 (nv a))) h1) :
  Runs Try.prog cfg 93 [.agg #[.bool n1, u32S a]] h Q c := by
 refine Runs.go Try.func93 rfl rfl (.refl _ _) ?_
 refine W.rseqZ ?_
 simp (disch := first | omega | (simp only [vd]; done) | (simp only [vd]; omega)) only [vs, reduceIte, Nat.reduceEqDiff, Value.cells]
 refine WF.d1 1 rfl (WF.done ?_)
 try simp (disch := first | omega | (simp only [vd]; done) | (simp only [vd]; omega)) only [vs, reduceIte, Nat.reduceEqDiff, next_push, next_skip]
 have hle : h.le (h.skip.push ⟨39, 0, [.bool false, .slice none 0 0]⟩) := (VH.le_skip _).trans (VH.le_push _ _)
 have hR : (h.skip.push ⟨39, 0, [.bool false, .slice none 0 0]⟩).blk (h.next + 1) = some ⟨39, 0, [.bool false, .slice none 0 0]⟩ := blk_push
 have hn : h.next + 1 < (h.skip.push ⟨39, 0, [.bool false, .slice none 0 0]⟩).next := Nat.lt_succ_self _
 have hhr : h.next ≤ h.next + 1 := by omega
 generalize h.skip.push ⟨39, 0, [.bool false, .slice none 0 0]⟩ = H at *
 generalize h.next + 1 = r at *
 have hdx := trimL_len a
 rw [trimL_dig la] at hdx
 refine W.rseq ?_
 simp (disch := first | omega | (simp only [vd]; done) | (simp only [vd]; omega)) only [vs, reduceIte, Nat.reduceEqDiff]
 refine magnitude_ok n1 a (by omega) fun h1 hx1 => ?_
 rw [trimL_dig la]
 simp (disch := first | omega | (simp only [vd]; done) | (simp only [vd]; omega)) only [vs, reduceIte, Nat.reduceEqDiff]
 refine W.rseq ?_
 simp (disch := first | omega | (simp only [vd]; done) | (simp only [vd]; omega)) only [vs, reduceIte, Nat.reduceEqDiff, List.length_set, Int.natCast_add, Int.natCast_mul, Int.natCast_ediv, Int.natCast_emod, Int.cast_ofNat_Int, Int.toNat_natCast]
 refine W.rseqZ ?_
 simp (disch := first | omega | (simp only [vd]; done) | (simp only [vd]; omega)) only [vs, reduceIte, Nat.reduceEqDiff, cp_u32 rfl t_Suint32 t_uint32, List.length_set, Int.natCast_add, Int.natCast_mul, Int.natCast_ediv, Int.natCast_emod, Int.cast_ofNat_Int, Int.toNat_natCast, List.length_replicate]
 refine WF.d0 4 rfl (WF.done ?_)
 simp (disch := first | omega | (simp only [vd]; done) | (simp only [vd]; omega)) only [vs, reduceIte, Nat.reduceEqDiff]
 refine W.rseq ?_
 simp (disch := first | omega | (simp only [vd]; done) | (simp only [vd]; omega)) only [vs, reduceIte, Nat.reduceEqDiff]
 refine signed_ok _ _ (by omega) (Lim_dig _) fun h4 hx4 => ?_
 rw [nv_dig, zV]
 simp (disch := first | omega | (simp only [vd]; done) | (simp only [vd]; omega)) only [vs, reduceIte, Nat.reduceEqDiff]
 obtain ⟨h5, k1, k2, k3, k4⟩ := fin_z (z := sg n1 (nv a)) hle hR hn hhr (hx1.trans ((VH.le_skip _).trans hx4))
 simp (disch := first | omega | (simp only [vd]; done) | (simp only [vd]; omega)) only [vs, reduceIte, Nat.reduceEqDiff, k1]
 refine W.ret ⟨.inr rfl, _, _, _, .refl _ _, ress_c rfl ?_, hq _ k4⟩
 simp (disch := first | omega | (simp only [vd]; done) | (simp only [vd]; omega)) only [vs, reduceIte, Nat.reduceEqDiff, k3]
theorem Neg_ok (n1 : Bool) (a : List Nat) (ha : a.length < 1099511627776) (la : Lim a) (hq : ∀ h1, h.le h1 → Q (zV (- sg n1 (nv a))) h1) :
  Runs Try.prog cfg 116 [.agg #[.bool n1, u32S a]] h Q c := by
 refine Runs.go Try.func116 rfl rfl (.refl _ _) ?_
 refine W.rseq ?_
 simp (disch := first | omega | (simp only [vd]; done) | (simp only [vd]; omega)) only [vs, reduceIte, Nat.reduceEqDiff, next_push]
 refine W.rseqZ ?_
 simp (disch := first | omega | (simp only [vd]; done) | (simp only [vd]; omega)) only [vs, reduceIte, Nat.reduceEqDiff]
 refine Normalize_ok n1 a ha la fun h1 hx1 => ?_
 rw [zV]
 have hB : h1.blk h.next = some ⟨39, 0, [.bool n1, u32S a]⟩ := by
  rw [hx1.2 _ (by simp only [next_push]; omega), blk_push_ne (by simp only [next_push]; omega), blk_push]
 have hR : h1.blk (h.next + 1) = some ⟨39, 0, [.bool false, .slice none 0 0]⟩ := by
  rw [hx1.2 _ (by simp only [next_push]; omega)]
  exact blk_push
 have hle : h.le h1 := (VH.le_push _ _).trans ((VH.le_push _ _).trans hx1)
 have hn := hx1.1
 simp only [next_push] at hn
 clear hx1
 simp (disch := first | omega | (simp only [vd]; done) | (simp only [vd]; omega)) only [vs, reduceIte, Nat.reduceEqDiff, wr_s2 hB]
 refine WF.one 1 h.next rfl blk_set (WF.done ?_)
 rw [set_set]
 have hle2 : h.le (h1.set h.next none) := VH.le_set hle (Nat.le_refl _) _
 have hR2 : (h1.set h.next none).blk (h.next + 1) = some ⟨39, 0, [.bool false, .slice none 0 0]⟩ := by rw [blk_set_ne (by omega)]; exact hR
 have hn2 : h.next + 1 < (h1.set h.next none).next := by rw [next_set]; omega
 generalize h1.set h.next none = H at *
 simp (disch := first | omega | (simp only [vd]; done) | (simp only [vd]; omega)) only [vs, reduceIte, Nat.reduceEqDiff]
 have hdl : (dig (nv a)).length ≤ a.length := by rw [← trimL_dig la]; exact trimL_len a
 refine W.rseq ?_
 simp (disch := first | omega | (simp only [vd]; done) | (simp only [vd]; omega)) only [vs, reduceIte, Nat.reduceEqDiff]
 refine signed_ok _ _ (by rw [sg_nat]; omega) (Lim_dig _) fun h4 hx4 => ?_
 have hz : sg (!decide (sg n1 (nv a) < 0)) (nv (dig (sg n1 (nv a)).natAbs)) = - sg n1 (nv a) := by
  rw [nv_dig, sg_nat]
  unfold sg
  cases n1 <;> simp <;> omega
 rw [hz, zV]
 simp (disch := first | omega | (simp only [vd]; done) | (simp only [vd]; omega)) only [vs, reduceIte, Nat.reduceEqDiff]
 obtain ⟨h5, k1, k2, k3, k4⟩ := fin_z (z := - sg n1 (nv a)) hle2 hR2 hn2 (Nat.le_succ _) hx4
 simp (disch := first | omega | (simp only [vd]; done) | (simp only [vd]; omega)) only [vs, reduceIte, Nat.reduceEqDiff, k1]
 refine W.ret ⟨.inr rfl, _, _, _, .refl _ _, ress_c rfl ?_, hq _ k4⟩
 simp (disch := first | omega | (simp only [vd]; done) | (simp only [vd]; omega)) only [vs, reduceIte, Nat.reduceEqDiff, k3]
theorem Cmp_ok (n1 n2 : Bool) (a b : List Nat) (ha : a.length < 1099511627776) (hb : b.length < 1099511627776) (la : Lim a) (lb : Lim b) (hq : ∀ h1, h.le h1 → Q (.int .i64 (sg n1 (nv a) - sg n2 (nv b)).sign) h1) :
  Runs Try.prog cfg 81 [.agg #[.bool n1, u32S a], .agg #[.bool n2, u32S b]] h Q c := by
 refine Runs.go Try.func81 rfl rfl (.refl _ _) ?_
 refine W.rseqZ ?_
 simp (disch := first | omega | (simp only [vd]; done) | (simp only [vd]; omega)) only [vs, reduceIte, Nat.reduceEqDiff]
 refine WF.d1 2 rfl (WF.d0 3 rfl (WF.done ?_))
 simp (disch := first | omega | (simp only [vd]; done) | (simp only [vd]; omega)) only [vs, reduceIte, Nat.reduceEqDiff, next_push, next_skip]
 have hle : h.le h.skip.skip := (VH.le_skip _).trans (VH.le_skip _)
 generalize h.skip.skip = H at *
 have hdx := trimL_len a
 have hdy := trimL_len b
 rw [trimL_dig la] at hdx
 rw [trimL_dig lb] at hdy
 refine W.rseq ?_
 simp (disch := first | omega | (simp only [vd]; done) | (simp only [vd]; omega)) only [vs, reduceIte, Nat.reduceEqDiff]
 refine Sign_ok n1 a (by omega) la fun h1 hx1 => ?_
 simp (disch := first | omega | (simp only [vd]; done) | (simp only [vd]; omega)) only [vs, reduceIte, Nat.reduceEqDiff]
 refine W.seq (W.rseq ?_)
 simp (disch := first | omega | (simp only [vd]; done) | (simp only [vd]; omega)) only [vs, reduceIte, Nat.reduceEqDiff]
 refine Sign_ok n2 b (by omega) lb fun h2 hx2 => ?_
 generalize hx : sg n1 (nv a) = x at *
 generalize hy : sg n2 (nv b) = y at *
 have hxa : x.natAbs = nv a := by rw [← hx, sg_nat]
 have hya : y.natAbs = nv b := by rw [← hy, sg_nat]
 have hsx : x.sign = if x < 0 then -1 else if x = 0 then 0 else 1 := by
  split
  ·exact Int.sign_eq_neg_one_of_neg ‹_›
  ·split
   ·rename_i h; rw [h]; rfl
   ·exact Int.sign_eq_one_of_pos (by omega)
 have hsy : y.sign = if y < 0 then -1 else if y = 0 then 0 else 1 := by
  split
  ·exact Int.sign_eq_neg_one_of_neg ‹_›
  ·split
   ·rename_i h; rw [h]; rfl
   ·exact Int.sign_eq_one_of_pos (by omega)
 by_cases hs : x.sign = y.sign
 ·simp (disch := first | omega | (simp only [vd]; done) | (simp only [vd]; omega)) only [vs, reduceIte, Nat.reduceEqDiff]
  refine W.rseq ?_
  simp (disch := first | omega | (simp only [vd]; done) | (simp only [vd]; omega)) only [vs, reduceIte, Nat.reduceEqDiff]
  refine W.cond false (by rfl) nofun (fun _ => W.skip ?_)
  simp (disch := first | omega | (simp only [vd]; done) | (simp only [vd]; omega)) only [vs, reduceIte, Nat.reduceEqDiff]
  refine W.dseq (fun _ => True) (by rfl) ?_
  simp (disch := first | omega | (simp only [vd]; done) | (simp only [vd]; omega)) only [vs, reduceIte, Nat.reduceEqDiff]
  refine magnitude_ok n1 a (by omega) fun h3 hx3 => ?_
  rw [trimL_dig la]
  simp (disch := first | omega | (simp only [vd]; done) | (simp only [vd]; omega)) only [vs, reduceIte, Nat.reduceEqDiff, gr_le hx3]
  refine magnitude_ok n2 b (by omega) fun h4 hx4 => ?_
  rw [trimL_dig lb]
  simp (disch := first | omega | (simp only [vd]; done) | (simp only [vd]; omega)) only [vs, reduceIte, Nat.reduceEqDiff, gr_le hx4]
  refine compare_ok _ _ (by omega) (by omega) ?_
  have hm : IntKind.i64.wrap (x.sign * cmpN (nv a) (nv b)) = (x - y).sign := by
   have h5 : x.sign * cmpN (nv a) (nv b) = (x - y).sign := by
    rw [← hxa, ← hya]
    have h6 : (x - y).sign = if x - y < 0 then -1 else if x - y = 0 then 0 else 1 := by
     split
     ·exact Int.sign_eq_neg_one_of_neg ‹_›
     ·split
      ·rename_i h; rw [h]; rfl
      ·exact Int.sign_eq_one_of_pos (by omega)
    rw [h6, hsx]
    rw [hsx, hsy] at hs
    unfold cmpN
    repeat' split
    all_goals omega
   rw [h5]
   have h7 : -1 ≤ (x - y).sign ∧ (x - y).sign ≤ 1 := by
    rcases Int.sign_trichotomy (x - y) with h | h | h <;> omega
   rw [wrap_i64 (by omega) (by omega)]
  simp (disch := first | omega | (simp only [vd]; done) | (simp only [vd]; omega)) only [vs, reduceIte, Nat.reduceEqDiff, hm]
  exact W.ret ⟨.inr rfl, _, _, _, .refl _ _, ress_t rfl, hq _ (hle.trans (hx1.trans (hx2.trans (hx3.trans hx4))))⟩
 ·simp (disch := first | omega | (simp only [vd]; done) | (simp only [vd]; omega)) only [vs, reduceIte, Nat.reduceEqDiff]
  refine W.rseq ?_
  simp (disch := first | omega | (simp only [vd]; done) | (simp only [vd]; omega)) only [vs, reduceIte, Nat.reduceEqDiff]
  refine W.cond true (by rfl) (fun _ => ?_) nofun
  by_cases hlt : x.sign < y.sign
  ·refine W.seq (W.rseq ?_)
   simp (disch := first | omega | (simp only [vd]; done) | (simp only [vd]; omega)) only [vs, reduceIte, Nat.reduceEqDiff]
   refine W.cond true (by rfl) (fun _ => W.rseq ?_) nofun
   simp (disch := first | omega | (simp only [vd]; done) | (simp only [vd]; omega)) only [vs, reduceIte, Nat.reduceEqDiff]
   have : (x - y).sign = -1 := Int.sign_eq_neg_one_of_neg (by
    rw [hsx, hsy] at hlt
    split at hlt <;> split at hlt <;> (try split at hlt) <;> (try split at hlt) <;> omega)
   rw [this] at hq
   exact W.ret ⟨.inr rfl, _, _, _, .refl _ _, ress_t rfl, hq _ (hle.trans (hx1.trans hx2))⟩
  ·refine W.seq (W.rseq ?_)
   simp (disch := first | omega | (simp only [vd]; done) | (simp only [vd]; omega)) only [vs, reduceIte, Nat.reduceEqDiff]
   refine W.cond false (by rfl) nofun (fun _ => W.skip ?_)
   refine W.rseq ?_
   simp (disch := first | omega | (simp only [vd]; done) | (simp only [vd]; omega)) only [vs, reduceIte, Nat.reduceEqDiff]
   have : (x - y).sign = 1 := Int.sign_eq_one_of_pos (by
    rw [hsx, hsy] at hlt hs
    split at hlt <;> split at hlt <;> (try split at hlt) <;> (try split at hlt) <;> simp_all <;> omega)
   rw [this] at hq
   exact W.ret ⟨.inr rfl, _, _, _, .refl _ _, ress_t rfl, hq _ (hle.trans (hx1.trans hx2))⟩
end Go.Proofs.Ytjpknabdmmkobaa
end

section
open Go Go.QM
namespace Go.Proofs.Ytjpknabdmmkobaa
variable {h : VH} {Q : Value → VH → Prop} {c : Cw Q}
def tabOk (tab : ByteArray) : Bool := (List.range 256).all fun i => match tab[i]? with
 | some b => decide (i < 2 ^ b.toNat) && (i == 0 || decide (2 ^ (b.toNat - 1) ≤ i)) && decide (b.toNat ≤ 8) && (i == 0 || b.toNat != 0)
 | none => false
theorem w_tab {tab : ByteArray} {i : Nat} {k : IntKind} {R : Value → Prop} {cw : Cw R} (ht : tabOk tab = true) (hi : i < 256)
  (hr : ∀ b : Nat, i < 2 ^ b → (i = 0 ∨ 2 ^ (b - 1) ≤ i ∧ b ≠ 0) → b ≤ 8 → R (.int .u8 (b : Int))) : OV (sixV cfg 9 (.string tab) (.int k (i : Int))) R cw := by
 have := List.all_eq_true.1 ht i (by simpa using hi)
 split at this
 ·rename_i b hb
  simp only [Bool.and_eq_true, Bool.or_eq_true, beq_iff_eq, decide_eq_true_eq, bne_iff_ne, ne_eq] at this
  obtain ⟨⟨⟨h1, h2⟩, h3⟩, h4⟩ := this
  refine ⟨.int .u8 (b.toNat : Int), ?_, hr _ h1 (by rcases h2 with h2 | h2 <;> rcases h4 with h4 | h4 <;> first | exact .inl h2 | exact .inl h4 | exact .inr ⟨h2, h4⟩) h3⟩
  simp [sixV, t_string, hb]
 ·cases this
theorem Len32_ok (x : Nat) (hx : x < 4294967296) (hq : ∀ b : Nat, x < 2 ^ b → (x = 0 ∨ 2 ^ (b - 1) ≤ x ∧ b ≠ 0) → b ≤ 32 → Q (.int .i64 b) h) : Runs Try.prog cfg 130 [.int .u32 x] h Q c := by
 refine Runs.go Try.func130 rfl rfl (.refl _ _) ?_
 refine W.rseq ?_
 simp (disch := first | omega | (simp only [vd]; done) | (simp only [vd]; omega)) only [vs, reduceIte, Nat.reduceEqDiff]
 by_cases h1 : x < 65536
 ·refine W.seq (W.rseq ?_)
  simp (disch := first | omega | (simp only [vd]; done) | (simp only [vd]; omega)) only [vs, reduceIte, Nat.reduceEqDiff]
  refine W.cond false (by rfl) nofun (fun _ => W.skip ?_)
  simp (disch := first | omega | (simp only [vd]; done) | (simp only [vd]; omega)) only [vs, reduceIte, Nat.reduceEqDiff]
  have hx1 := h1
  obtain ⟨y, hy⟩ : ∃ y, x = y := ⟨_, rfl⟩
  rw [hy] at hx1 ⊢
  by_cases h2 : y < 256
  ·refine W.seq (W.rseq ?_)
   simp (disch := first | omega | (simp only [vd]; done) | (simp only [vd]; omega)) only [vs, reduceIte, Nat.reduceEqDiff]
   refine W.cond false (by rfl) nofun (fun _ => W.skip ?_)
   simp (disch := first | omega | (simp only [vd]; done) | (simp only [vd]; omega)) only [vs, reduceIte, Nat.reduceEqDiff]
   have hx2 := h2
   obtain ⟨u, hu⟩ : ∃ u, y = u := ⟨_, rfl⟩
   rw [hu] at hx2 ⊢
   refine W.rseq ?_
   simp (disch := first | omega | (simp only [vd]; done) | (simp only [vd]; omega)) only [vs, reduceIte, Nat.reduceEqDiff]
   refine w_tab (by kernel_rfl) hx2 fun b k1 k2 k3 => ?_
   simp (disch := first | omega | (simp only [vd]; done) | (simp only [vd]; omega)) only [vs, reduceIte, Nat.reduceEqDiff]
   refine W.ret ⟨.inr rfl, _, _, _, .refl _ _, ress_t rfl, ?_⟩
   have := hq b (by omega) (by omega) (by omega)
   rw [← Int.zero_add (b : Int)] at this
   exact this
  ·refine W.seq (W.rseq ?_)
   simp (disch := first | omega | (simp only [vd]; done) | (simp only [vd]; omega)) only [vs, reduceIte, Nat.reduceEqDiff]
   refine W.cond true (by rfl) (fun _ => W.rseq ?_) nofun
   simp (disch := first | omega | (simp only [vd]; done) | (simp only [vd]; omega)) only [vs, reduceIte, Nat.reduceEqDiff]
   refine W.reg ?_
   simp (disch := first | omega | (simp only [vd]; done) | (simp only [vd]; omega)) only [vs, reduceIte, Nat.reduceEqDiff]
   have e2 : (y : Int) / 256 = ((y / 256 : Nat) : Int) := by omega
   rw [e2]
   have hd2 := Nat.div_add_mod y 256
   have hm2 := Nat.mod_lt y (show 0 < 256 by decide)
   have hx2 : y / 256 < 256 := by omega
   generalize y / 256 = u at *
   refine W.rseq ?_
   simp (disch := first | omega | (simp only [vd]; done) | (simp only [vd]; omega)) only [vs, reduceIte, Nat.reduceEqDiff]
   refine w_tab (by kernel_rfl) hx2 fun b k1 k2 k3 => ?_
   simp (disch := first | omega | (simp only [vd]; done) | (simp only [vd]; omega)) only [vs, reduceIte, Nat.reduceEqDiff]
   refine W.ret ⟨.inr rfl, _, _, _, .refl _ _, ress_t rfl, ?_⟩
   have k4 : 2 ^ (b + 8) = 2 ^ b * 256 := Nat.pow_add ..
   have k5 : b ≠ 0 → 2 ^ (b + 8 - 1) = 2 ^ (b - 1) * 256 := fun hb => by rw [show b + 8 - 1 = (b - 1) + 8 by omega]; exact Nat.pow_add ..
   have hq' := hq (b + 8) (by rw [k4]; omega) (by
    rcases k2 with k2 | ⟨k2, k6⟩
    ·omega
    ·right; exact ⟨by rw [k5 k6]; omega, by omega⟩) (by omega)
   have e9 : ((b + 8 : Nat) : Int) = 8 + b := by omega
   rw [e9] at hq'
   exact hq'
 ·refine W.seq (W.rseq ?_)
  simp (disch := first | omega | (simp only [vd]; done) | (simp only [vd]; omega)) only [vs, reduceIte, Nat.reduceEqDiff]
  refine W.cond true (by rfl) (fun _ => W.rseq ?_) nofun
  simp (disch := first | omega | (simp only [vd]; done) | (simp only [vd]; omega)) only [vs, reduceIte, Nat.reduceEqDiff]
  refine W.reg ?_
  simp (disch := first | omega | (simp only [vd]; done) | (simp only [vd]; omega)) only [vs, reduceIte, Nat.reduceEqDiff]
  have e1 : (x : Int) / 65536 = ((x / 65536 : Nat) : Int) := by omega
  rw [e1]
  have hd := Nat.div_add_mod x 65536
  have hm := Nat.mod_lt x (show 0 < 65536 by decide)
  have hx1 : x / 65536 < 65536 := by omega
  generalize x / 65536 = y at *
  by_cases h2 : y < 256
  ·refine W.seq (W.rseq ?_)
   simp (disch := first | omega | (simp only [vd]; done) | (simp only [vd]; omega)) only [vs, reduceIte, Nat.reduceEqDiff]
   refine W.cond false (by rfl) nofun (fun _ => W.skip ?_)
   simp (disch := first | omega | (simp only [vd]; done) | (simp only [vd]; omega)) only [vs, reduceIte, Nat.reduceEqDiff]
   have hx2 := h2
   obtain ⟨u, hu⟩ : ∃ u, y = u := ⟨_, rfl⟩
   rw [hu] at hx2 ⊢
   refine W.rseq ?_
   simp (disch := first | omega | (simp only [vd]; done) | (simp only [vd]; omega)) only [vs, reduceIte, Nat.reduceEqDiff]
   refine w_tab (by kernel_rfl) hx2 fun b k1 k2 k3 => ?_
   simp (disch := first | omega | (simp only [vd]; done) | (simp only [vd]; omega)) only [vs, reduceIte, Nat.reduceEqDiff]
   refine W.ret ⟨.inr rfl, _, _, _, .refl _ _, ress_t rfl, ?_⟩
   have k4 : 2 ^ (b + 16) = 2 ^ b * 65536 := Nat.pow_add ..
   have k5 : b ≠ 0 → 2 ^ (b + 16 - 1) = 2 ^ (b - 1) * 65536 := fun hb => by rw [show b + 16 - 1 = (b - 1) + 16 by omega]; exact Nat.pow_add ..
   have hq' := hq (b + 16) (by rw [k4]; omega) (by
    rcases k2 with k2 | ⟨k2, k6⟩
    ·omega
    ·right; exact ⟨by rw [k5 k6]; omega, by omega⟩) (by omega)
   have e9 : ((b + 16 : Nat) : Int) = 16 + b := by omega
   rw [e9] at hq'
   exact hq'
  ·refine W.seq (W.rseq ?_)
   simp (disch := first | omega | (simp only [vd]; done) | (simp only [vd]; omega)) only [vs, reduceIte, Nat.reduceEqDiff]
   refine W.cond true (by rfl) (fun _ => W.rseq ?_) nofun
   simp (disch := first | omega | (simp only [vd]; done) | (simp only [vd]; omega)) only [vs, reduceIte, Nat.reduceEqDiff]
   refine W.reg ?_
   simp (disch := first | omega | (simp only [vd]; done) | (simp only [vd]; omega)) only [vs, reduceIte, Nat.reduceEqDiff]
   have e2 : (y : Int) / 256 = ((y / 256 : Nat) : Int) := by omega
   rw [e2]
   have hd2 := Nat.div_add_mod y 256
   have hm2 := Nat.mod_lt y (show 0 < 256 by decide)
   have hx2 : y / 256 < 256 := by omega
   generalize y / 256 = u at *
   refine W.rseq ?_
   simp (disch := first | omega | (simp only [vd]; done) | (simp only [vd]; omega)) only [vs, reduceIte, Nat.reduceEqDiff]
   refine w_tab (by kernel_rfl) hx2 fun b k1 k2 k3 => ?_
   simp (disch := first | omega | (simp only [vd]; done) | (simp only [vd]; omega)) only [vs, reduceIte, Nat.reduceEqDiff]
   refine W.ret ⟨.inr rfl, _, _, _, .refl _ _, ress_t rfl, ?_⟩
   have k4 : 2 ^ (b + 24) = 2 ^ b * 16777216 := Nat.pow_add ..
   have k5 : b ≠ 0 → 2 ^ (b + 24 - 1) = 2 ^ (b - 1) * 16777216 := fun hb => by rw [show b + 24 - 1 = (b - 1) + 24 by omega]; exact Nat.pow_add ..
   have hq' := hq (b + 24) (by rw [k4]; omega) (by
    rcases k2 with k2 | ⟨k2, k6⟩
    ·omega
    ·right; exact ⟨by rw [k5 k6]; omega, by omega⟩) (by omega)
   have e9 : ((b + 24 : Nat) : Int) = 24 + b := by omega
   rw [e9] at hq'
   exact hq'
theorem LeadingZeros32_ok (x : Nat) (hx : x < 4294967296) (hx0 : x ≠ 0) (hq : ∀ n : Nat, n ≤ 31 → x * 2 ^ n < 4294967296 → 2147483648 ≤ x * 2 ^ n → Q (.int .i64 n) h) : Runs Try.prog cfg 122 [.int .u32 x] h Q c := by
 refine Runs.go Try.func122 rfl rfl (.refl _ _) ?_
 refine W.rseq ?_
 simp (disch := first | omega | (simp only [vd]; done) | (simp only [vd]; omega)) only [vs, reduceIte, Nat.reduceEqDiff]
 refine W.rseq ?_
 simp (disch := first | omega | (simp only [vd]; done) | (simp only [vd]; omega)) only [vs, reduceIte, Nat.reduceEqDiff]
 refine Len32_ok x hx fun b h1 h2 h3 => ?_
 have h2 := h2.resolve_left hx0
 have e1 : (32 : Int) - b = ((32 - b : Nat) : Int) := by omega
 have hq' := hq (32 - b) (by omega) (by
  have : x * 2 ^ (32 - b) < 2 ^ b * 2 ^ (32 - b) := Nat.mul_lt_mul_of_pos_right h1 (Nat.pow_pos (by decide))
  rw [← Nat.pow_add, show b + (32 - b) = 32 by omega] at this
  exact this) (by
  have : 2 ^ (b - 1) * 2 ^ (32 - b) ≤ x * 2 ^ (32 - b) := Nat.mul_le_mul_right _ h2.1
  rw [← Nat.pow_add, show b - 1 + (32 - b) = 31 by omega] at this
  exact this)
 simp (disch := first | omega | (simp only [vd]; done) | (simp only [vd]; omega)) only [vs, reduceIte, Nat.reduceEqDiff, e1]
 exact W.ret ⟨.inr rfl, _, _, _, .refl _ _, ress_t rfl, hq'⟩
end Go.Proofs.Ytjpknabdmmkobaa
end

section
open Go Go.QM
namespace Go.Proofs.Ytjpknabdmmkobaa
variable {h : VH} {Q : Value → VH → Prop} {c : Cw Q}
theorem drop_set_self {l : List Nat} {i x : Nat} (hi : i < l.length) : (l.set i x).drop i = x :: l.drop (i + 1) := by
 rw [drop_getD (by simpa using hi)]
 congr 1
 ·simp [hi]
 ·rw [List.drop_set_of_lt (by omega)]
theorem shortDivide_ok (a : List Nat) (b : Nat) (ha : a.length < 1099511627776) (la : Lim a) (hb : b < 4294967296) (hb0 : 0 < b) (hq : ∀ h1, h.le h1 → Q (.tuple #[u32S (dig (nv a / b)), .int .u32 ((nv a % b : Nat) : Int)]) h1) :
  Runs Try.prog cfg 121 [u32S a, .int .u32 b] h Q c := by
 refine Runs.go Try.func121 rfl rfl (.refl _ _) ?_
 refine W.rseq ?_
 simp (disch := first | omega | (simp only [vd]; done) | (simp only [vd]; omega)) only [vs, reduceIte, Nat.reduceEqDiff]
 refine W.rseq ?_
 simp (disch := first | omega | (simp only [vd]; done) | (simp only [vd]; omega)) only [vs, reduceIte, Nat.reduceEqDiff, List.length_set, Int.natCast_add, Int.natCast_mul, Int.natCast_ediv, Int.natCast_emod, Int.cast_ofNat_Int, Int.toNat_natCast]
 refine W.rseq ?_
 simp (disch := first | omega | (simp only [vd]; done) | (simp only [vd]; omega)) only [vs, reduceIte, Nat.reduceEqDiff]
 refine W.seqZ (W.rseq ?_)
 simp (disch := first | omega | (simp only [vd]; done) | (simp only [vd]; omega)) only [vs, reduceIte, Nat.reduceEqDiff]
 refine W.block (W.loop (fun n e h' => ∃ (rest : Nat) (out : List Nat), n ≤ a.length ∧ e 0 = u32S a ∧ e 1 = .int .u32 b ∧ e 6 = .slice (some ⟨h.next, 0, none⟩) a.length a.length ∧ e 7 = .int .u64 rest ∧ e 8 = .int .i64 ((n : Int) - 1) ∧
  h' = h.push ⟨88, 1, u32L out⟩ ∧ out.length = a.length ∧ Lim out ∧ rest < b ∧ nv (a.drop n) = b * nv (out.drop n) + rest) a.length ?_ ?_)
 ·refine ⟨0, List.replicate a.length 0, Nat.le_refl _, rfl, rfl, rfl, rfl, rfl, rfl, by simp, Lim.rep _, hb0, ?_⟩
  rw [List.drop_of_length_le (Nat.le_refl _), List.drop_of_length_le (by simp)]
  simp [nv]
 rintro n e h' ⟨rest, out, hn, e0, e1, e6, e7, e8, rfl, ho, lo, hr, hv⟩
 by_cases h0 : 0 < n
 ·obtain ⟨k, rfl⟩ : ∃ k, n = k + 1 := ⟨n - 1, by omega⟩
  have e9 : (((k + 1 : Nat) : Int) - 1) = k := by omega
  rw [e9] at e8
  refine W.seq (W.rseq ?_)
  simp (disch := first | omega | (simp only [vd]; done) | (simp only [vd]; omega)) only [vs, reduceIte, Nat.reduceEqDiff, e8]
  refine W.cond true (by rfl) (fun _ => W.skip ?_) nofun
  refine W.seq (W.block (W.rseq ?_))
  have ba := la.getD k
  generalize hx : a.getD k 0 = x at *
  simp (disch := first | omega | (simp only [vd]; done) | (simp only [vd]; omega)) only [vs, reduceIte, Nat.reduceEqDiff, e0, e7, e8, hx, Int.toNat_natCast]
  refine W.rseq ?_
  simp (disch := first | omega | (simp only [vd]; done) | (simp only [vd]; omega)) only [vs, reduceIte, Nat.reduceEqDiff, e1, e6, e8, Int.toNat_natCast]
  have hs : (rest : Int) * 4294967296 + x = ((rest * 4294967296 + x : Nat) : Int) := by omega
  rw [hs]
  have hs1 : (rest * 4294967296 + x) / b < 4294967296 := by
   refine Nat.div_lt_of_lt_mul ?_
   have : rest * 4294967296 + 4294967296 ≤ b * 4294967296 := by omega
   omega
  have hs2 : (rest * 4294967296 + x) % b < b := Nat.mod_lt _ hb0
  have hs3 := Nat.div_add_mod (rest * 4294967296 + x) b
  have hs4 : (((rest * 4294967296 + x : Nat) : Int) / b) = (((rest * 4294967296 + x) / b : Nat) : Int) := by simp
  have hs5 : (((rest * 4294967296 + x : Nat) : Int) % b) = (((rest * 4294967296 + x) % b : Nat) : Int) := by simp
  simp only [hs4]
  generalize hsd : (rest * 4294967296 + x) / b = q at *
  generalize hsm : (rest * 4294967296 + x) % b = m at *
  simp (disch := first | omega | (simp only [vd]; done) | (simp only [vd]; omega)) only [vs, reduceIte, Nat.reduceEqDiff, Int.toNat_natCast]
  refine W.reg ?_
  simp (disch := first | omega | (simp only [vd]; done) | (simp only [vd]; omega)) only [vs, reduceIte, Nat.reduceEqDiff, e1, hs5]
  refine W.reg ?_
  simp (disch := first | omega | (simp only [vd]; done) | (simp only [vd]; omega)) only [vs, reduceIte, Nat.reduceEqDiff, e8]
  refine ⟨k, by omega, m, out.set k q, by omega, ?_⟩
  simp (disch := first | omega | (simp only [vd]; done) | (simp only [vd]; omega)) only [vs, reduceIte, Nat.reduceEqDiff, e0, e1, e6, ho, List.length_set, Int.natCast_add, Int.natCast_mul, Int.natCast_ediv, Int.natCast_emod, Int.cast_ofNat_Int, Int.toNat_natCast]
  refine ⟨lo.set hs1, hs2, ?_⟩
  rw [drop_set_self (by omega), drop_getD (by omega), hx]
  simp only [nv, hv]
  have h7 : b * (q + WB * nv (out.drop (k + 1))) = b * q + WB * (b * nv (out.drop (k + 1))) := by
   rw [Nat.mul_add, ← Nat.mul_assoc, Nat.mul_comm b WB, Nat.mul_assoc]
  rw [h7, Nat.mul_add]
  simp only [WB]
  omega
 ·obtain rfl : n = 0 := by omega
  refine W.seq (W.rseq ?_)
  simp (disch := first | omega | (simp only [vd]; done) | (simp only [vd]; omega)) only [vs, reduceIte, Nat.reduceEqDiff, e8]
  refine W.cond false (by rfl) nofun (fun _ => W.exit ?_)
  simp (disch := first | omega | (simp only [vd]; done) | (simp only [vd]; omega)) only [vs, reduceIte, Nat.reduceEqDiff]
  refine WF.one 6 h.next rfl blk_push (WF.done ?_)
  simp (disch := first | omega | (simp only [vd]; done) | (simp only [vd]; omega)) only [vs, reduceIte, Nat.reduceEqDiff, e6]
  refine W.rseq ?_
  simp (disch := first | omega | (simp only [vd]; done) | (simp only [vd]; omega)) only [vs, reduceIte, Nat.reduceEqDiff]
  refine trim_ok _ (by omega) ?_
  simp (disch := first | omega | (simp only [vd]; done) | (simp only [vd]; omega)) only [vs, reduceIte, Nat.reduceEqDiff, e7]
  simp only [List.drop_zero] at hv
  have h1 : nv a / b = nv out := by
   rw [hv, Nat.mul_add_div hb0, Nat.div_eq_of_lt hr]
   omega
  have h2 : nv a % b = rest := by
   rw [hv, Nat.mul_add_mod, Nat.mod_eq_of_lt hr]
  rw [h1, h2, ← trimL_dig lo] at hq
  exact W.ret ⟨.inr rfl, _, _, _, .refl _ _, ress_l rfl rfl, hq _ (VH.le_skip _)⟩
theorem pow_parts {n : Nat} (hn : n < 32) : ∃ p r : Nat, 2 ^ n = p ∧ p * r = 4294967296 ∧ 0 < p ∧ p ≤ 2147483648 ∧ (2 : Int) ^ n = (p : Int) := by
 refine ⟨2 ^ n, 2 ^ (32 - n), rfl, by rw [← Nat.pow_add, show n + (32 - n) = 32 by omega], Nat.pow_pos (by decide), ?_, by simp⟩
 have : 2 ^ n ≤ 2 ^ 31 := Nat.pow_le_pow_right (by decide) (by omega)
 exact this
theorem mul_mod_p {x p r : Nat} (hpr : p * r = 4294967296) : (x * p) % 4294967296 = p * (x % r) := by
 rw [← hpr, Nat.mul_comm x p, Nat.mul_mod_mul_left]
theorem shift_ok (a : List Nat) (n : Nat) (ha : a.length < 1099511627776) (la : Lim a) (hn : n < 32)
  (hq : ∀ out, out.length = a.length + 1 → Lim out → nv out = nv a * 2 ^ n → Q (.slice (some ⟨h.next, 0, none⟩) (a.length + 1) (a.length + 1)) (h.push ⟨88, 1, u32L out⟩)) :
  Runs Try.prog cfg 123 [u32S a, .int .u64 n] h Q c := by
 obtain ⟨p, r, hp, hpr, hp0, hp1, hpi⟩ := pow_parts hn
 rw [hp] at hq
 refine Runs.go Try.func123 rfl rfl (.refl _ _) ?_
 refine W.rseq ?_
 simp (disch := first | omega | (simp only [vd]; done) | (simp only [vd]; omega)) only [vs, reduceIte, Nat.reduceEqDiff]
 refine W.rseq ?_
 have en : ((a.length : Int) + 1).toNat = a.length + 1 := by omega
 simp (disch := first | omega | (simp only [vd]; done) | (simp only [vd]; omega)) only [vs, reduceIte, Nat.reduceEqDiff, en]
 refine W.seq (W.rseq ?_)
 simp (disch := first | omega | (simp only [vd]; done) | (simp only [vd]; omega)) only [vs, reduceIte, Nat.reduceEqDiff]
 refine W.block (W.loop (fun k e h' => ∃ (i : Nat) (out : List Nat), k = a.length - i ∧ i ≤ a.length ∧ e 0 = u32S a ∧ e 1 = .int .u64 n ∧ e 5 = .slice (some ⟨h.next, 0, none⟩) (a.length + 1) (a.length + 1) ∧ e 13 = .int .i64 a.length ∧ e 14 = .int .i64 i ∧
  h' = h.push ⟨88, 1, u32L out⟩ ∧ out.length = a.length + 1 ∧ Lim out ∧ out.getD i 0 < p ∧ (∀ k, i < k → out.getD k 0 = 0) ∧ nv out = nv (a.take i) * p) a.length ?_ ?_)
 ·refine ⟨0, List.replicate (a.length + 1) 0, rfl, Nat.zero_le _, rfl, rfl, rfl, rfl, rfl, rfl, by simp, Lim.rep _, by simpa [List.replicate_succ] using hp0, fun k hk => ?_, by simp [nv_rep, nv]⟩
  simp [List.getElem?_replicate]
  split <;> rfl
 rintro k e h' ⟨i, out, rfl, hi, e0, e1, e5, e13, e14, rfl, ho, lo, ht, hz, hv⟩
 by_cases hlt : i < a.length
 ·refine W.rseq ?_
  simp (disch := first | omega | (simp only [vd]; done) | (simp only [vd]; omega)) only [vs, reduceIte, Nat.reduceEqDiff, e13, e14]
  refine W.seq (W.cond true (by rfl) (fun _ => W.skip ?_) nofun)
  refine W.seq (W.block (W.rseq ?_))
  simp (disch := first | omega | (simp only [vd]; done) | (simp only [vd]; omega)) only [vs, reduceIte, Nat.reduceEqDiff, e14]
  refine W.rseq ?_
  have ba := la.getD i
  have bo := lo.getD i
  generalize hx : a.getD i 0 = x at *
  generalize hoo : out.getD i 0 = o at *
  have hxp : x * p < 4294967296 * 2147483648 := Nat.mul_lt_mul_of_lt_of_le ba hp1 (by decide)
  have hw : IntKind.u64.wrap ((x : Int) * 2 ^ n) = ((x * p : Nat) : Int) := by
   rw [hpi, ← Int.natCast_mul, wrap_u64 (by omega) (by omega)]
  simp (disch := first | omega | (simp only [vd]; done) | (simp only [vd]; omega)) only [vs, reduceIte, Nat.reduceEqDiff, e0, e1, hx, b_shln (show n < 64 by omega), hw, Int.toNat_natCast]
  have hw1 := mul_mod_p (x := x) hpr
  have hw2 := Nat.div_add_mod (x * p) 4294967296
  have hw3 : x * p / 4294967296 < p := Nat.div_lt_of_lt_mul (by
   have := Nat.mul_lt_mul_of_pos_right ba hp0
   omega)
  generalize hlo : x * p % 4294967296 = lw at *
  generalize hhi : x * p / 4294967296 = hw' at *
  have hlw : lw < 4294967296 := by rw [← hlo]; exact Nat.mod_lt _ (by decide)
  have hsum : o + lw < 4294967296 := by
   have h1 : x % r < r := Nat.mod_lt _ (by
    rcases Nat.eq_zero_or_pos r with h | h
    ·subst h; omega
    ·exact h)
   have h2 : p * (x % r + 1) ≤ p * r := Nat.mul_le_mul_left _ h1
   rw [Nat.mul_add] at h2
   omega
  have hor : ∀ t, binV cfg .or t (.int .u32 (o : Int)) (.int .u32 (lw : Int)) = some (.int .u32 ((o + lw : Nat) : Int)) := fun t => by
   rw [b_oru32 bo hlw, Nat.or_comm, b_or_n (n := n) (by rw [hp]; exact ht) (by rw [hp, hw1]; exact Nat.mul_mod_right _ _), Nat.add_comm]
  have hm : ((x * p : Nat) : Int) % 4294967296 = (lw : Int) := by rw [← hlo]; simp
  have hd : ((x * p : Nat) : Int) / 4294967296 = (hw' : Int) := by rw [← hhi]; simp
  refine W.rseq ?_
  simp (disch := first | omega | (simp only [vd]; done) | (simp only [vd]; omega)) only [vs, reduceIte, Nat.reduceEqDiff, e5, hoo, wrap_u32m, hm, hor, Int.toNat_natCast]
  refine W.reg ?_
  have e9 : ((i : Int) + 1).toNat = i + 1 := by omega
  simp (disch := first | omega | (simp only [vd]; done) | (simp only [vd]; omega)) only [vs, reduceIte, Nat.reduceEqDiff, e5, hd, e9, Int.toNat_natCast, List.length_set]
  refine W.reg ?_
  simp (disch := first | omega | (simp only [vd]; done) | (simp only [vd]; omega)) only [vs, reduceIte, Nat.reduceEqDiff, e14]
  refine ⟨a.length - (i + 1), by omega, i + 1, (out.set i (o + lw)).set (i + 1) hw', rfl, by omega, ?_⟩
  simp (disch := first | omega | (simp only [vd]; done) | (simp only [vd]; omega)) only [vs, reduceIte, Nat.reduceEqDiff, e0, e1, e5, e13, ho, List.length_set, Int.natCast_add, Int.natCast_mul, Int.natCast_ediv, Int.natCast_emod, Int.cast_ofNat_Int, Int.toNat_natCast]
  refine ⟨(lo.set hsum).set (show hw' < 4294967296 by omega), ?_, fun k hk => ?_, ?_⟩
  ·simpa [ho, hlt] using hw3
  ·rw [getDL_set_ne (by omega), getDL_set_ne (by omega)]
   exact hz k (by omega)
  ·have h1 := nv_set (l := out) (i := i) (by omega) (o + lw)
   have h2 := nv_set (l := out.set i (o + lw)) (i := i + 1) (by rw [List.length_set]; omega) hw'
   rw [getDL_set_ne (by omega), hz (i + 1) (by omega)] at h2
   rw [hoo] at h1
   rw [nv_take_getD, hx, Nat.add_mul, ← hv, Nat.mul_assoc]
   have h3 : WB ^ (i + 1) * hw' + WB ^ i * lw = WB ^ i * (x * p) := by
    rw [Nat.pow_succ, Nat.mul_assoc, ← Nat.mul_add]
    congr 1
   rw [Nat.mul_add] at h1
   omega
 ·obtain rfl : i = a.length := by omega
  refine W.rseq ?_
  simp (disch := first | omega | (simp only [vd]; done) | (simp only [vd]; omega)) only [vs, reduceIte, Nat.reduceEqDiff, e13, e14]
  refine W.seq (W.cond false (by rfl) nofun (fun _ => W.exit ?_))
  simp (disch := first | omega | (simp only [vd]; done) | (simp only [vd]; omega)) only [vs, reduceIte, Nat.reduceEqDiff]
  refine W.rseq ?_
  simp (disch := first | omega | (simp only [vd]; done) | (simp only [vd]; omega)) only [vs, reduceIte, Nat.reduceEqDiff, e5]
  rw [List.take_of_length_le (Nat.le_refl _)] at hv
  exact W.ret ⟨.inr rfl, _, _, _, .refl _ _, ress_t rfl, hq _ ho lo hv⟩
theorem nv_drop {l : List Nat} {i : Nat} (h : i < l.length) : nv (l.drop i) = l.getD i 0 + WB * nv (l.drop (i + 1)) := by
 rw [drop_getD h]
 rfl
theorem nv_drop' (l : List Nat) (i : Nat) : nv (l.drop i) = l.getD i 0 + WB * nv (l.drop (i + 1)) := by
 by_cases h : i < l.length
 ·exact nv_drop h
 ·rw [List.drop_of_length_le (by omega), List.drop_of_length_le (by omega)]
  simp [nv, List.getElem?_eq_none (Nat.le_of_not_lt h)]
theorem unshift_ok (a : List Nat) (n : Nat) (ha : a.length < 1099511627776) (la : Lim a) (hn : n < 32) (hq : ∀ h1, h.le h1 → Q (u32S (dig (nv a / 2 ^ n))) h1) :
  Runs Try.prog cfg 125 [u32S a, .int .u64 n] h Q c := by
 obtain ⟨p, r, hp, hpr, hp0, hp1, hpi⟩ := pow_parts hn
 rw [hp] at hq
 refine Runs.go Try.func125 rfl rfl (.refl _ _) ?_
 refine W.rseq ?_
 simp (disch := first | omega | (simp only [vd]; done) | (simp only [vd]; omega)) only [vs, reduceIte, Nat.reduceEqDiff]
 refine W.rseq ?_
 simp (disch := first | omega | (simp only [vd]; done) | (simp only [vd]; omega)) only [vs, reduceIte, Nat.reduceEqDiff, List.length_set, Int.natCast_add, Int.natCast_mul, Int.natCast_ediv, Int.natCast_emod, Int.cast_ofNat_Int, Int.toNat_natCast]
 refine W.seqZ (W.rseq ?_)
 simp (disch := first | omega | (simp only [vd]; done) | (simp only [vd]; omega)) only [vs, reduceIte, Nat.reduceEqDiff]
 refine W.block (W.loop (fun k e h' => ∃ (i : Nat) (out : List Nat), k = a.length - i ∧ i ≤ a.length ∧ e 0 = u32S a ∧ e 1 = .int .u64 n ∧ e 5 = .slice (some ⟨h.next, 0, none⟩) a.length a.length ∧ e 11 = .int .i64 a.length ∧ e 12 = .int .i64 i ∧
  h' = h.push ⟨88, 1, u32L out⟩ ∧ out.length = a.length ∧ Lim out ∧ nv (out.take i) + WB ^ i * (nv (a.drop i) / p) = nv a / p) a.length ?_ ?_)
 ·exact ⟨0, List.replicate a.length 0, rfl, Nat.zero_le _, rfl, rfl, rfl, rfl, rfl, rfl, by simp, Lim.rep _, by simp [nv]⟩
 rintro k e h' ⟨i, out, rfl, hi, e0, e1, e5, e11, e12, rfl, ho, lo, hv⟩
 by_cases hlt : i < a.length
 ·refine W.rseq ?_
  simp (disch := first | omega | (simp only [vd]; done) | (simp only [vd]; omega)) only [vs, reduceIte, Nat.reduceEqDiff, e11, e12]
  refine W.seq (W.cond true (by rfl) (fun _ => W.skip ?_) nofun)
  refine W.seq (W.block (W.rseq ?_))
  simp (disch := first | omega | (simp only [vd]; done) | (simp only [vd]; omega)) only [vs, reduceIte, Nat.reduceEqDiff, e12]
  have e9 : ((i : Int) + 1) = ((i + 1 : Nat) : Int) := by omega
  refine W.draw (fun x => x ≠ h.next) (by rfl) ?_
  simp (disch := first | omega | (simp only [vd]; done) | (simp only [vd]; omega)) only [vs, reduceIte, Nat.reduceEqDiff, e0, e5, e12]
  rw [e9]
  refine limb_ok a (i + 1) (by omega) (by omega) la ?_
  have ba := la.getD i
  have bb := la.getD (i + 1)
  have hdr := nv_drop' a i
  have hdr1 := nv_drop' a (i + 1)
  generalize hx : a.getD i 0 = x at *
  generalize hy : a.getD (i + 1) 0 = y at *
  simp (disch := first | omega | (simp only [vd]; done) | (simp only [vd]; omega)) only [vs, reduceIte, Nat.reduceEqDiff, e0, e1, e5, e12, hx, b_shrn (show n < 64 by omega), hpi, Int.toNat_natCast]
  have hA : (y : Int) * 4294967296 + x = ((y * 4294967296 + x : Nat) : Int) := by omega
  have hq1 : ((y : Int) * 4294967296 + x) / p = (((y * 4294967296 + x) / p : Nat) : Int) := by rw [hA]; simp
  rw [hq1]
  have hle : (y * 4294967296 + x) / p ≤ y * 4294967296 + x := Nat.div_le_self _ _
  generalize hqd : (y * 4294967296 + x) / p = q at *
  simp (disch := first | omega | (simp only [vd]; done) | (simp only [vd]; omega)) only [vs, reduceIte, Nat.reduceEqDiff, e5, wrap_u32m, Int.toNat_natCast]
  have hg : Grow (fun x => x ≠ h.next) (h.push ⟨88, 1, u32L out⟩).next (h.push ⟨88, 1, u32L out⟩) (h.push ⟨88, 1, u32L (out.set i ((q : Int) % 4294967296).toNat)⟩) := by
   have := gr_set (Kp := fun x => x ≠ h.next) (n0 := (h.push ⟨88, 1, u32L out⟩).next) (B' := ⟨88, 1, u32L (out.set i ((q : Int) % 4294967296).toNat)⟩) (blk_push (h := h) (B := ⟨88, 1, u32L out⟩)) (fun e => e rfl) (Nat.lt_succ_self _)
   rw [set_push] at this
   exact this
  refine ⟨hg, ?_⟩
  refine W.reg ?_
  simp (disch := first | omega | (simp only [vd]; done) | (simp only [vd]; omega)) only [vs, reduceIte, Nat.reduceEqDiff, e12]
  have es : ((q : Int) % 4294967296).toNat = q % 4294967296 := by omega
  refine ⟨a.length - (i + 1), by omega, i + 1, out.set i (q % 4294967296), rfl, by omega, ?_⟩
  simp (disch := first | omega | (simp only [vd]; done) | (simp only [vd]; omega)) only [vs, reduceIte, Nat.reduceEqDiff, e0, e1, e5, e11, es, ho, List.length_set, Int.natCast_add, Int.natCast_mul, Int.natCast_ediv, Int.natCast_emod, Int.cast_ofNat_Int, Int.toNat_natCast]
  refine ⟨lo.set (Nat.mod_lt _ (by decide)), ?_⟩
  rw [nv_set_succ (by omega), ← hv, Nat.pow_succ, Nat.mul_assoc, Nat.add_assoc, ← Nat.mul_add]
  congr 2
  have h1 : nv (a.drop i) / p / WB = nv (a.drop (i + 1)) / p := by
   rw [Nat.div_div_eq_div_mul, Nat.mul_comm p WB, ← Nat.div_div_eq_div_mul, hdr, Nat.add_mul_div_left _ _ (by decide), Nat.div_eq_of_lt ba, Nat.zero_add]
  have h2 : nv (a.drop i) / p % WB = q % 4294967296 := by
   have h3 : nv (a.drop i) = p * (r * (WB * nv (a.drop (i + 1 + 1)))) + (y * 4294967296 + x) := by
    rw [← Nat.mul_assoc, hpr, hdr, hdr1, Nat.mul_add]
    simp only [WB]
    omega
   rw [h3, Nat.mul_add_div hp0, hqd, ← Nat.mul_assoc, Nat.mul_comm r WB, Nat.mul_assoc, Nat.mul_add_mod]
  rw [← h1, ← h2, Nat.mod_add_div]
 ·obtain rfl : i = a.length := by omega
  refine W.rseq ?_
  simp (disch := first | omega | (simp only [vd]; done) | (simp only [vd]; omega)) only [vs, reduceIte, Nat.reduceEqDiff, e11, e12]
  refine W.seq (W.cond false (by rfl) nofun (fun _ => W.exit ?_))
  simp (disch := first | omega | (simp only [vd]; done) | (simp only [vd]; omega)) only [vs, reduceIte, Nat.reduceEqDiff]
  refine WF.one 5 h.next rfl blk_push (WF.done ?_)
  simp (disch := first | omega | (simp only [vd]; done) | (simp only [vd]; omega)) only [vs, reduceIte, Nat.reduceEqDiff, e5]
  refine W.rseq ?_
  simp (disch := first | omega | (simp only [vd]; done) | (simp only [vd]; omega)) only [vs, reduceIte, Nat.reduceEqDiff]
  refine trim_ok _ (by omega) ?_
  simp (disch := first | omega | (simp only [vd]; done) | (simp only [vd]; omega)) only [vs, reduceIte, Nat.reduceEqDiff]
  rw [← ho, List.take_of_length_le (Nat.le_refl _), ho, List.drop_of_length_le (Nat.le_refl _)] at hv
  simp only [nv, Nat.zero_div, Nat.mul_zero, Nat.add_zero] at hv
  rw [← hv, ← trimL_dig lo] at hq
  exact W.ret ⟨.inr rfl, _, _, _, .refl _ _, ress_t rfl, hq _ (VH.le_skip _)⟩
end Go.Proofs.Ytjpknabdmmkobaa
end

section
open Go Go.QM
namespace Go.Proofs.Ytjpknabdmmkobaa
variable {h : VH} {Q : Value → VH → Prop} {c : Cw Q}
theorem u32L_two {x y : Int} (hx : 0 ≤ x) (hy : 0 ≤ y) : [Value.int .u32 x, Value.int .u32 y] = u32L [x.toNat, y.toNat] := by
 simp [u32L, Int.toNat_of_nonneg hx, Int.toNat_of_nonneg hy]
theorem Small_ok (n : Int) (h1 : -9223372036854775808 ≤ n) (h2 : n < 9223372036854775808) (hq : ∀ h1, h.le h1 → Q (zV n) h1) : Runs Try.prog cfg 57 [.int .i64 n] h Q c := by
 refine Runs.go Try.func57 rfl rfl (.refl _ _) ?_
 refine W.rseq ?_
 simp (disch := first | omega | (simp only [vd]; done) | (simp only [vd]; omega)) only [vs, reduceIte, Nat.reduceEqDiff, Value.cells]
 refine W.rseq ?_
 simp (disch := first | omega | (simp only [vd]; done) | (simp only [vd]; omega)) only [vs, reduceIte, Nat.reduceEqDiff, wrap_u64m]
 have hw : ((0 : Int) - n % 18446744073709551616) % 18446744073709551616 = (-n) % 18446744073709551616 := by omega
 by_cases h0 : n < 0
 ·refine W.seq (W.rseq ?_)
  simp (disch := first | omega | (simp only [vd]; done) | (simp only [vd]; omega)) only [vs, reduceIte, Nat.reduceEqDiff]
  refine W.cond true (by rfl) (fun _ => W.reg ?_) nofun
  simp (disch := first | omega | (simp only [vd]; done) | (simp only [vd]; omega)) only [vs, reduceIte, Nat.reduceEqDiff, wrap_u64m, hw]
  have hu : (-n) % 18446744073709551616 = -n := by omega
  rw [hu]
  refine W.rseq ?_
  simp (disch := first | omega | (simp only [vd]; done) | (simp only [vd]; omega)) only [vs, reduceIte, Nat.reduceEqDiff, wrap_u32m]
  rw [u32L_two (by omega) (by omega)]
  refine Runs.frz 1 _ rfl blk_push rfl ?_
  simp (disch := first | omega | (simp only [vd]; done) | (simp only [vd]; omega)) only [vs, reduceIte, Nat.reduceEqDiff]
  have hl : Lim [(-n % 4294967296).toNat, (-n / 4294967296).toNat] := Lim.cons (by simp only [WB]; omega) (Lim.cons (by simp only [WB]; omega) Lim.nil)
  have hv : nv [(-n % 4294967296).toNat, (-n / 4294967296).toNat] = n.natAbs := by simp only [nv, WB]; omega
  refine signed_ok _ _ (by simp) hl fun h4 hx4 => ?_
  have hz : sg true (nv [(-n % 4294967296).toNat, (-n / 4294967296).toNat]) = n := by rw [hv]; simp [sg]; omega
  rw [hz, zV]
  simp (disch := first | omega | (simp only [vd]; done) | (simp only [vd]; omega)) only [vs, reduceIte, Nat.reduceEqDiff]
  obtain ⟨h5, k1, k2, k3, k4⟩ := fin_z (z := n) (VH.le_push _ _) blk_push (Nat.lt_succ_self _) (Nat.le_refl _) ((VH.le_skip _).trans hx4)
  rw [decide_eq_true h0] at k1
  simp (disch := first | omega | (simp only [vd]; done) | (simp only [vd]; omega)) only [vs, reduceIte, Nat.reduceEqDiff, k1]
  refine W.ret ⟨.inr rfl, _, _, _, .refl _ _, ress_c rfl ?_, hq _ k4⟩
  simp (disch := first | omega | (simp only [vd]; done) | (simp only [vd]; omega)) only [vs, reduceIte, Nat.reduceEqDiff, k3]
 ·refine W.seq (W.rseq ?_)
  simp (disch := first | omega | (simp only [vd]; done) | (simp only [vd]; omega)) only [vs, reduceIte, Nat.reduceEqDiff]
  refine W.cond false (by rfl) nofun (fun _ => W.skip ?_)
  simp (disch := first | omega | (simp only [vd]; done) | (simp only [vd]; omega)) only [vs, reduceIte, Nat.reduceEqDiff]
  have hu : n % 18446744073709551616 = n := by omega
  rw [hu]
  refine W.rseq ?_
  simp (disch := first | omega | (simp only [vd]; done) | (simp only [vd]; omega)) only [vs, reduceIte, Nat.reduceEqDiff, wrap_u32m]
  rw [u32L_two (by omega) (by omega)]
  refine Runs.frz 1 _ rfl blk_push rfl ?_
  simp (disch := first | omega | (simp only [vd]; done) | (simp only [vd]; omega)) only [vs, reduceIte, Nat.reduceEqDiff]
  have hl : Lim [(n % 4294967296).toNat, (n / 4294967296).toNat] := Lim.cons (by simp only [WB]; omega) (Lim.cons (by simp only [WB]; omega) Lim.nil)
  have hv : nv [(n % 4294967296).toNat, (n / 4294967296).toNat] = n.natAbs := by simp only [nv, WB]; omega
  refine signed_ok _ _ (by simp) hl fun h4 hx4 => ?_
  have hz : sg false (nv [(n % 4294967296).toNat, (n / 4294967296).toNat]) = n := by rw [hv]; simp [sg]; omega
  rw [hz, zV]
  simp (disch := first | omega | (simp only [vd]; done) | (simp only [vd]; omega)) only [vs, reduceIte, Nat.reduceEqDiff]
  obtain ⟨h5, k1, k2, k3, k4⟩ := fin_z (z := n) (VH.le_push _ _) blk_push (Nat.lt_succ_self _) (Nat.le_refl _) ((VH.le_skip _).trans hx4)
  rw [decide_eq_false h0] at k1
  simp (disch := first | omega | (simp only [vd]; done) | (simp only [vd]; omega)) only [vs, reduceIte, Nat.reduceEqDiff, k1]
  refine W.ret ⟨.inr rfl, _, _, _, .refl _ _, ress_c rfl ?_, hq _ k4⟩
  simp (disch := first | omega | (simp only [vd]; done) | (simp only [vd]; omega)) only [vs, reduceIte, Nat.reduceEqDiff, k3]
end Go.Proofs.Ytjpknabdmmkobaa
end

section
namespace Go.QM
theorem kn_ge {U V v1 top P q : Nat} (hV : v1 * P ≤ V) (hU : U < (top + 1) * P) (hq : q * V ≤ U) : q * v1 ≤ top := by
 have h1 : q * (v1 * P) ≤ q * V := Nat.mul_le_mul_left _ hV
 have h2 : q * v1 * P < (top + 1) * P := by
  rw [Nat.mul_assoc]
  omega
 have := Nat.lt_of_mul_lt_mul_right h2
 omega
theorem kn_down {U V v12 t3 P q : Nat} (hV : v12 * P ≤ V) (hU : U < (t3 + 1) * P) (ht : t3 < q * v12) : U < q * V := by
 have h1 : (t3 + 1) * P ≤ q * v12 * P := Nat.mul_le_mul_right _ ht
 have h2 : q * (v12 * P) ≤ q * V := Nat.mul_le_mul_left _ hV
 rw [Nat.mul_assoc] at h1
 omega
theorem kn_up {U V v12 t3 P q : Nat} (hV : V < (v12 + 1) * P) (hU : t3 * P ≤ U) (ht : q * v12 ≤ t3) (hqP : q * P ≤ V) (hq0 : 0 < q) : (q - 1) * V ≤ U := by
 obtain ⟨k, rfl⟩ : ∃ k, q = k + 1 := ⟨q - 1, by omega⟩
 have h1 : (k + 1) * V ≤ (k + 1) * ((v12 + 1) * P) := Nat.mul_le_mul_left _ (Nat.le_of_lt hV)
 have h2 : (k + 1) * v12 * P ≤ t3 * P := Nat.mul_le_mul_right _ ht
 have h3 : (k + 1) * ((v12 + 1) * P) = (k + 1) * v12 * P + (k + 1) * P := by
  rw [Nat.add_mul v12, Nat.one_mul, Nat.mul_add, Nat.mul_assoc]
 have h4 : (k + 1) * V = k * V + V := Nat.succ_mul k V
 simp only [Nat.add_sub_cancel]
 omega
end Go.QM
end

section
namespace Go.QM
theorem getD_mid {pre u post : List Nat} {j : Nat} (hj : j < u.length) : (pre ++ u ++ post).getD (pre.length + j) 0 = u.getD j 0 := by
 simp only [List.getD_eq_getElem?_getD, List.append_assoc]
 rw [List.getElem?_append_right (by omega), List.getElem?_append_left (by omega)]
 congr 2
 omega
theorem set_mid {pre u post : List Nat} {j x : Nat} (hj : j < u.length) : (pre ++ u ++ post).set (pre.length + j) x = pre ++ u.set j x ++ post := by
 rw [List.append_assoc, List.append_assoc, List.set_append_right _ _ (by omega), List.set_append_left _ _ (by omega)]
 congr 3
 omega
theorem msStep {W0 N M T q x s w u bo bo' cy : Nat} (h : N + q * T = M + W0 * (cy + bo)) (hs : s = cy + q * x) (hw : w + 4294967296 * bo' = u + s % 4294967296 + bo) :
  (N + W0 * u) + q * (T + W0 * x) = (M + W0 * w) + W0 * 4294967296 * (s / 4294967296 + bo') := by
 have h1 : W0 * (w + 4294967296 * bo') = W0 * (u + s % 4294967296 + bo) := by rw [hw]
 have h2 : W0 * (s % 4294967296) + W0 * (4294967296 * (s / 4294967296)) = W0 * s := by rw [← Nat.mul_add, Nat.mod_add_div]
 have h3 : W0 * s = W0 * cy + q * (W0 * x) := by
  rw [hs, Nat.mul_add, ← Nat.mul_assoc, ← Nat.mul_assoc, Nat.mul_comm W0 q]
 simp only [Nat.mul_add] at h h1 ⊢
 rw [Nat.mul_assoc W0, Nat.mul_assoc W0]
 omega
theorem abStep {W0 N M T x s w cy : Nat} (h : N + W0 * cy = M + T) (hs : s = cy + (w + x)) : (N + W0 * (s % 4294967296)) + W0 * 4294967296 * (s / 4294967296) = (M + W0 * w) + (T + W0 * x) := by
 have h2 : W0 * (s % 4294967296) + W0 * (4294967296 * (s / 4294967296)) = W0 * s := by rw [← Nat.mul_add, Nat.mod_add_div]
 have h3 : W0 * s = W0 * cy + W0 * w + W0 * x := by rw [hs, Nat.mul_add, Nat.mul_add]; omega
 rw [Nat.mul_assoc W0]
 omega
theorem nv_top2 {l : List Nat} {n : Nat} (hl : l.length = n + 2) : nv l = nv (l.take n) + WB ^ n * (l.getD (n + 1) 0 * WB + l.getD n 0) := by
 have h1 := nv_take_succ (l := l) (n := n) (by omega)
 have h2 := nv_take_succ (l := l) (n := n + 1) (by omega)
 rw [List.take_of_length_le (by omega)] at h2
 rw [h2, h1, Nat.pow_succ, Nat.mul_add, Nat.mul_assoc, Nat.mul_comm WB]
 omega
theorem nv_top3 {l : List Nat} {n : Nat} (hl : l.length = n + 3) : nv l = nv (l.take n) + WB ^ n * ((l.getD (n + 2) 0 * WB + l.getD (n + 1) 0) * WB + l.getD n 0) := by
 have h1 := nv_take_succ (l := l) (n := n) (by omega)
 have h2 := nv_top2 (l := l) (n := n + 1) (by omega)
 have h3 : WB ^ (n + 1) * (l.getD (n + 2) 0 * WB + l.getD (n + 1) 0) = WB ^ n * ((l.getD (n + 2) 0 * WB + l.getD (n + 1) 0) * WB) := by
  rw [Nat.pow_succ, Nat.mul_assoc, Nat.mul_comm WB]
 have h4 : WB ^ n * ((l.getD (n + 2) 0 * WB + l.getD (n + 1) 0) * WB + l.getD n 0) = WB ^ n * ((l.getD (n + 2) 0 * WB + l.getD (n + 1) 0) * WB) + WB ^ n * l.getD n 0 := Nat.mul_add ..
 have h5 : l.getD (n + 1 + 1) 0 = l.getD (n + 2) 0 := rfl
 rw [h5] at h2
 omega
theorem kn_test {B q v1 v2 rest top u2 : Nat} (hqr : q * v1 + rest = top) (h : rest * B + u2 < q * v2) : top * B + u2 < q * (v1 * B + v2) := by
 have k0 : q * (v1 * B + v2) = q * v1 * B + q * v2 := by rw [Nat.mul_add, ← Nat.mul_assoc]
 have k6 : top * B = q * v1 * B + rest * B := by rw [← Nat.add_mul, hqr]
 omega
theorem kn_pass {B q v1 v2 rest top u2 : Nat} (hqr : q * v1 + rest = top) (h : q * v2 ≤ rest * B + u2) : q * (v1 * B + v2) ≤ top * B + u2 := by
 have k0 : q * (v1 * B + v2) = q * v1 * B + q * v2 := by rw [Nat.mul_add, ← Nat.mul_assoc]
 have k6 : top * B = q * v1 * B + rest * B := by rw [← Nat.add_mul, hqr]
 omega
theorem VH.set_self {h : VH} {b : Nat} {B : Blk} (hB : h.blk b = some B) : h.set b (some B) = h := by
 unfold VH.set
 cases h with
 | mk n f =>
  simp only [VH.mk.injEq, true_and]
  funext y
  by_cases hy : y = b
  ·subst hy
   rw [if_pos rfl]
   exact hB.symm
  ·rw [if_neg hy]
theorem kn_add {X B N R s : Nat} (h : N + X * s = R + X * B) (hN : N < X) (hR : R < X) : s = B ∧ N = R := by
 have hs : s = B := by
  rcases Nat.lt_trichotomy s B with h1 | h1 | h1
  ·have : X * (s + 1) ≤ X * B := Nat.mul_le_mul_left _ h1
   rw [Nat.mul_add] at this
   omega
  ·exact h1
  ·have : X * (B + 1) ≤ X * s := Nat.mul_le_mul_left _ h1
   rw [Nat.mul_add] at this
   omega
 subst hs
 exact ⟨rfl, by omega⟩
structure Hid (p : Prop) : Prop where
 out : p
theorem kn_sum {X N U0 qV y B bo' r cy bo : Nat} (hv : N + qV = U0 + X * (cy + bo)) (h : y + B * bo' = r + cy + bo) : (N + X * r) + qV = (U0 + X * y) + X * (B * bo') := by
 have : X * (y + B * bo') = X * (r + cy + bo) := by rw [h]
 simp only [Nat.mul_add] at this hv ⊢
 omega
theorem kn_le {A X B U qV : Nat} (h : A + qV = U + X * (B * 0)) : qV ≤ U ∧ A + qV = U := by
 rw [Nat.mul_zero, Nat.mul_zero, Nat.add_zero] at h
 omega
theorem kn_join {N X cy A V A2 r : Nat} (hv : N + X * cy = A + V) (hm : A2 = A + X * r) : N + X * (cy + r) = A2 + V := by
 rw [Nat.mul_add, hm]
 omega
theorem kn_lt2 {A X B U qV : Nat} (h : A + qV = U + X * (B * 1)) (hA : A < X * B) : U < qV := by
 rw [Nat.mul_one] at h
 omega
theorem kn_fin {A X B U V p R N s : Nat} (hs : A + (p + 1) * V = U + X * (B * 1)) (hR : R + p * V = U) (hv : N + X * s = A + V) (hN : N < X) (hRV : R < V) (hVX : V < X) : s = B ∧ N = R := by
 have e1 : (p + 1) * V = p * V + V := Nat.succ_mul p V
 rw [Nat.mul_one, e1] at hs
 exact kn_add (X := X) (by omega) hN (by omega)
theorem div_eq_of_bounds {U V q : Nat} (h1 : q * V ≤ U) (h2 : U / V ≤ q) (hV : 0 < V) : U / V = q := Nat.le_antisymm h2 ((Nat.le_div_iff_mul_le hV).2 h1)
theorem dv_start {x y p Xl Xk Xa : Nat} (hx : x < Xa) (hy : Xl ≤ y) (hXa : Xa = Xl * Xk) (hp : 0 < p) : x * p < y * p * Xk := by
 have h1 : x * p < Xa * p := Nat.mul_lt_mul_of_pos_right hx hp
 have h2 : Xl * (Xk * p) ≤ y * (Xk * p) := Nat.mul_le_mul_right _ hy
 have h3 : Xa * p = Xl * (Xk * p) := by rw [hXa, Nat.mul_assoc]
 have h4 : y * p * Xk = y * (Xk * p) := by rw [Nat.mul_assoc, Nat.mul_comm p]
 omega
theorem dv_top {N X t p r W b : Nat} (hb : b = N + X * t) (hN : N < X) (hpr : p * r = W) (h : t * p < W) : b * p < X * W := by
 have h0 : t < r := by
  rcases Nat.lt_or_ge t r with h1 | h1
  ·exact h1
  ·have := Nat.mul_le_mul_left p h1
   rw [Nat.mul_comm p t] at this
   omega
 have h1 : b < X * (t + 1) := by rw [Nat.mul_add, hb]; omega
 have hp : 0 < p := by
  rcases Nat.eq_zero_or_pos p with h2 | h2
  ·subst h2; simp at hpr; omega
  ·exact h2
 have h2 : b * p < X * (t + 1) * p := Nat.mul_lt_mul_of_pos_right h1 hp
 have h3 : X * ((t + 1) * p) ≤ X * (r * p) := Nat.mul_le_mul_left _ (Nat.mul_le_mul_right _ h0)
 rw [Nat.mul_assoc] at h2
 rw [Nat.mul_comm r p, hpr] at h3
 omega
theorem nv_take_of_lt {L : List Nat} {k : Nat} (h : nv L < WB ^ k) : nv (L.take k) = nv L := by
 have h1 := nv_split L k
 by_cases hk : k ≤ L.length
 ·rw [Nat.min_eq_left hk] at h1
  rcases Nat.eq_zero_or_pos (nv (L.drop k)) with h2 | h2
  ·rw [h2, Nat.mul_zero, Nat.add_zero] at h1
   exact h1.symm
  ·have h3 := Nat.mul_le_mul_left (WB ^ k) h2
   rw [Nat.mul_one] at h3
   exact absurd h (Nat.not_lt.2 (Nat.le_trans h3 (h1 ▸ Nat.le_add_left _ _)))
 ·rw [List.take_of_length_le (by omega)]
theorem dv_end {x y p q r : Nat} (hA : x * p = r + y * p * q) (hr : r < y * p) (hp : 0 < p) : q = x / y ∧ r = x % y * p := by
 have hyp : 0 < y * p := by omega
 have h1 : (x * p) / (y * p) = q := by rw [hA, Nat.add_mul_div_left _ _ hyp, Nat.div_eq_of_lt hr, Nat.zero_add]
 have h2 : (x * p) % (y * p) = r := by rw [hA, Nat.add_mul_mod_self_left, Nat.mod_eq_of_lt hr]
 rw [Nat.mul_div_mul_right _ _ hp] at h1
 rw [Nat.mul_mod_mul_right] at h2
 exact ⟨h1.symm, h2.symm⟩
theorem split3 (l : List Nat) (i m : Nat) (h : i + m ≤ l.length) : ∃ pre u post, l = pre ++ u ++ post ∧ pre.length = i ∧ u.length = m :=
 ⟨l.take i, (l.drop i).take m, (l.drop i).drop m, by rw [List.append_assoc, List.take_append_drop, List.take_append_drop], by rw [List.length_take]; omega, by rw [List.length_take, List.length_drop]; omega⟩
theorem dv_step {L P U T Vn X B K A qs q r : Nat} (hL : L = P + X * (U + K * T)) (hA : A = L + Vn * (X * B * qs)) (hlt : L < Vn * (X * B)) (hP : P < X) (hVK : Vn * B ≤ K) (hdiv : U = Vn * q + r) (hr : r < Vn) :
  T = 0 ∧ U < B * Vn ∧ A = (P + X * r) + Vn * (X * (q + B * qs)) ∧ P + X * r < Vn * X := by
 have hT : T = 0 := by
  rcases Nat.eq_zero_or_pos T with h | h
  ·exact h
  ·exfalso
   have h1 : K * 1 ≤ K * T := Nat.mul_le_mul_left _ h
   have h2 : X * (Vn * B) ≤ X * (U + K * T) := Nat.mul_le_mul_left _ (by omega)
   have h3 : X * (Vn * B) = Vn * (X * B) := by rw [Nat.mul_left_comm]
   omega
 subst hT
 simp only [Nat.mul_zero, Nat.add_zero] at hL
 refine ⟨rfl, ?_, ?_, ?_⟩
 ·rcases Nat.lt_or_ge U (B * Vn) with h | h
  ·exact h
  ·exfalso
   have h2 : X * (B * Vn) ≤ X * U := Nat.mul_le_mul_left _ h
   have h3 : X * (B * Vn) = Vn * (X * B) := by rw [← Nat.mul_assoc, Nat.mul_comm]
   omega
 ·have h1 : X * U = X * (Vn * q) + X * r := by rw [hdiv, Nat.mul_add]
  have h2 : Vn * (X * (q + B * qs)) = X * (Vn * q) + Vn * (X * B * qs) := by
   rw [Nat.mul_add, Nat.mul_add, Nat.mul_left_comm X Vn q, Nat.mul_assoc X B qs]
  omega
 ·have h1 : X * (r + 1) ≤ X * Vn := Nat.mul_le_mul_left _ hr
  rw [Nat.mul_add, Nat.mul_comm X Vn] at h1
  omega
end Go.QM
end
