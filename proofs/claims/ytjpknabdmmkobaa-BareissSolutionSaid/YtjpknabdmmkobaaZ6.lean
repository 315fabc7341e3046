/- Part 6 of the proof: In10, In11, In12, Ra1, Ra2. -/
import Derived.Test.YtjpknabdmmkobaaZ5
set_option linter.unusedVariables false
set_option linter.unusedSimpArgs false
section
open Go Go.QM
namespace Go.Proofs.Ytjpknabdmmkobaa
variable {h : VH} {Q : Value → VH → Prop} {c : Cw Q}
theorem sub_borrow {y s bo : Nat} (hy : y < 4294967296) (hb : bo ≤ 1) : ∃ D : Nat, IntKind.u64.wrap (IntKind.u64.wrap ((y : Int) - (s : Int) % 4294967296) - bo) = (D : Int) ∧ D < 18446744073709551616 ∧
  y + 4294967296 * (D / 9223372036854775808) = D % 4294967296 + s % 4294967296 + bo ∧ D / 9223372036854775808 ≤ 1 := by
 rw [wrap_u64m, wrap_u64m]
 refine ⟨((((y : Int) - (s : Int) % 4294967296) % 18446744073709551616 - bo) % 18446744073709551616).toNat, ?_, ?_, ?_, ?_⟩ <;> omega
theorem digit_est {e : Env} (pre u post V : List Nat) (b cap n : Nat) (u0 u1 u2 v1 v2 top q0 : Nat) (hB : h.blk b = some ⟨88, 1, u32L (pre ++ u ++ post)⟩) (hu : u.length = n + 2 + 1) (hn : V.length = n + 2) (hVl : V.length < 1099511627776) (hpre : pre.length < 1099511627776)
  (lu : Lim u) (lv : Lim V) (hv1 : 0 < v1) (hu0 : u.getD (n + 2) 0 = u0) (hu1 : u.getD (n + 1) 0 = u1) (hu2 : u.getD n 0 = u2) (hx1 : V.getD (n + 1) 0 = v1) (hx2 : V.getD n 0 = v2) (htop : u0 * 4294967296 + u1 = top)
  (hq0l : q0 * v1 ≤ top) (hq0b : q0 ≤ 4294967295) (hqs : nv u / nv V ≤ q0)
  (e0 : e 0 = .slice (some ⟨b, pre.length, none⟩) (n + 2 + 1) cap) (e1' : e 1 = u32S V) (e5 : e 5 = .int .i64 ((n + 2 : Nat) : Int)) (e7 : e 7 = .int .u64 q0) (e8 : e 8 = .int .u64 ((top - q0 * v1 : Nat) : Int)) :
  W Try.prog cfg (sub (bodyOf Try.f124) [1,1,1,1,0,1]) e h (fun x e1 h1 => x = .normal ∧ ∃ (q : Nat), e1 0 = .slice (some ⟨b, pre.length, none⟩) (n + 2 + 1) cap ∧ e1 1 = u32S V ∧ e1 5 = .int .i64 ((n + 2 : Nat) : Int) ∧ e1 7 = .int .u64 q ∧ h1 = h ∧ nv u / nv V ≤ q ∧ (q - 1) * nv V ≤ nv u ∧ q ≤ 4294967295) := by
 have b0 := lu.getD (n + 2)
 have b1 := lu.getD (n + 1)
 have b2 := lu.getD n
 have c1 := lv.getD (n + 1)
 have c2 := lv.getD n
 rw [hu0] at b0
 rw [hu1] at b1
 rw [hu2] at b2
 rw [hx1] at c1
 rw [hx2] at c2
 have fV := nv_top2 hn
 have fU := nv_top3 (l := u) (n := n) (by omega)
 rw [hu0, hu1, hu2] at fU
 rw [hx1, hx2] at fV
 have lV := nv_lt (lv.take n)
 have lU := nv_lt (lu.take n)
 rw [List.length_take, Nat.min_eq_left (by omega)] at lV lU
 have e1 : (((n + 2 : Nat) : Int) - 1) = ((n + 1 : Nat) : Int) := by omega
 have e2 : (((n + 2 : Nat) : Int) - 2) = (n : Int) := by omega
 refine W.block (W.loop (fun k e h' => ∃ (q rest : Nat), k = q ∧ e 0 = .slice (some ⟨b, pre.length, none⟩) (n + 2 + 1) cap ∧ e 1 = u32S V ∧ e 5 = .int .i64 ((n + 2 : Nat) : Int) ∧ e 7 = .int .u64 q ∧ e 8 = .int .u64 rest ∧
  h' = h ∧ q * v1 + rest = top ∧ nv u / nv V ≤ q ∧ q ≤ 4294967295) q0 ?_ ?_)
 ·exact ⟨q0, top - q0 * v1, rfl, e0, e1', e5, e7, e8, rfl, by omega, hqs, hq0b⟩
 ·rintro q e h' ⟨_, rest, rfl, e0, e1', e5, e7, e8, rfl, hqr, hge, hqb⟩
  have hm2 : IntKind.u64.wrap ((q : Int) * v2) = ((q * v2 : Nat) : Int) := by
   have h1 : q * v2 ≤ 4294967295 * 4294967295 := Nat.mul_le_mul hqb (by omega)
   rw [← Int.natCast_mul, wrap_u64 (Int.natCast_nonneg _) (by omega)]
  have hpass : q * v2 ≤ rest * 4294967296 + u2 → (q - 1) * nv V ≤ nv u := by
   intro hB2
   rcases Nat.eq_zero_or_pos q with h | h
   ·rw [h]; simp
   have k1 : q * (v1 * WB + v2) ≤ top * WB + u2 := kn_pass hqr hB2
   have k2 : nv V < (v1 * WB + v2 + 1) * WB ^ n := by
    rw [fV, Nat.add_mul _ 1, Nat.one_mul, Nat.mul_comm (WB ^ n)]
    omega
   have k3 : (top * WB + u2) * WB ^ n ≤ nv u := by
    rw [fU, htop, Nat.mul_comm (WB ^ n)]
    omega
   have k4 : q * WB ^ n ≤ nv V := by
    have h2 : q ≤ v1 * 4294967296 + v2 := by omega
    have h3 : q * WB ^ n ≤ (v1 * WB + v2) * WB ^ n := Nat.mul_le_mul_right _ h2
    rw [fV, Nat.mul_comm (WB ^ n)]
    omega
   exact kn_up k2 k3 k1 k4 h
  by_cases hA : rest < 4294967296
  ·by_cases hBq : rest * 4294967296 + u2 < q * v2
   ·refine W.seq (W.dseq (fun _ => True) (by rfl) ?_)
    simp (disch := first | omega | (simp only [vd]; done) | (simp only [vd]; omega)) only [vs, reduceIte, Nat.reduceEqDiff, e0, e1', e5, e7, e8, e2, hx2, hu2, hm2, rd1_of hB, getD_mid, Int.toNat_natCast]
    refine W.cond true (by rfl) (fun _ => W.skip ?_) nofun
    have hq1 : 0 < q := by
     rcases Nat.eq_zero_or_pos q with h | h
     ·rw [h] at hBq; omega
     ·exact h
    refine W.seq (W.block (W.reg ?_))
    simp (disch := first | omega | (simp only [vd]; done) | (simp only [vd]; omega)) only [vs, reduceIte, Nat.reduceEqDiff, e7]
    refine W.reg ?_
    simp (disch := first | omega | (simp only [vd]; done) | (simp only [vd]; omega)) only [vs, reduceIte, Nat.reduceEqDiff, e1', e5, e1, e8, hx1, Int.toNat_natCast]
    have e3 : (q : Int) - 1 = ((q - 1 : Nat) : Int) := by omega
    have e4 : (rest : Int) + v1 = ((rest + v1 : Nat) : Int) := by omega
    rw [e3, e4]
    refine ⟨q - 1, by omega, q - 1, rest + v1, rfl, e0, rfl, rfl, ?_, ?_, by omega⟩
    ·obtain ⟨p, rfl⟩ : ∃ p, q = p + 1 := ⟨q - 1, by omega⟩
     rw [Nat.add_mul] at hqr
     simp only [Nat.add_sub_cancel]
     omega
    ·have k1 : top * WB + u2 < q * (v1 * WB + v2) := kn_test hqr hBq
     have k2 : nv u < (top * WB + u2 + 1) * WB ^ n := by
      rw [fU, htop, Nat.add_mul _ 1, Nat.one_mul, Nat.mul_comm (WB ^ n)]
      omega
     have k3 : (v1 * WB + v2) * WB ^ n ≤ nv V := by
      rw [fV, Nat.mul_comm (WB ^ n)]
      omega
     have k4 := kn_down k3 k2 k1
     have k5 : nv u / nv V < q := Nat.div_lt_of_lt_mul (by rw [Nat.mul_comm]; exact k4)
     omega
   ·refine W.seq (W.dseq (fun _ => True) (by rfl) ?_)
    simp (disch := first | omega | (simp only [vd]; done) | (simp only [vd]; omega)) only [vs, reduceIte, Nat.reduceEqDiff, e0, e1', e5, e7, e8, e2, hx2, hu2, hm2, rd1_of hB, getD_mid, Int.toNat_natCast]
    refine W.cond false (by rfl) nofun (fun _ => W.exit ?_)
    simp (disch := first | omega | (simp only [vd]; done) | (simp only [vd]; omega)) only [vs, reduceIte, Nat.reduceEqDiff]
    exact ⟨q, e0, e1', e5, e7, hge, hpass (by omega), hqb⟩
  ·refine W.seq (W.dseq (fun _ => True) (by rfl) ?_)
   simp (disch := first | omega | (simp only [vd]; done) | (simp only [vd]; omega)) only [vs, reduceIte, Nat.reduceEqDiff, e0, e1', e5, e7, e8]
   refine W.cond false (by rfl) nofun (fun _ => W.exit ?_)
   simp (disch := first | omega | (simp only [vd]; done) | (simp only [vd]; omega)) only [vs, reduceIte, Nat.reduceEqDiff]
   refine ⟨q, e0, e1', e5, e7, hge, hpass ?_, hqb⟩
   have h1 : q * v2 ≤ 4294967295 * 4294967295 := Nat.mul_le_mul hqb (by omega)
   omega
theorem digit_ms {e : Env} (pre u post V : List Nat) (b cap n q : Nat) (hB : h.blk b = some ⟨88, 1, u32L (pre ++ u ++ post)⟩) (hu : u.length = n + 2 + 1) (hn : V.length = n + 2) (hVl : V.length < 1099511627776) (hpre : pre.length < 1099511627776)
  (lu : Lim u) (lv : Lim V) (hqb : q ≤ 4294967295) (e81 : e 81 = .int .i64 ((n + 2 : Nat) : Int)) (e82 : e 82 = .int .i64 0)
  (e0 : e 0 = .slice (some ⟨b, pre.length, none⟩) (n + 2 + 1) cap) (e1' : e 1 = u32S V) (e5 : e 5 = .int .i64 ((n + 2 : Nat) : Int)) (e7 : e 7 = .int .u64 q) (e9 : e 9 = .int .u64 0) (e10 : e 10 = .int .u64 0) :
  W Try.prog cfg (sub (bodyOf Try.f124) [1,1,1,1,1,1,0,1]) e h (fun x e1 h1 => x = .normal ∧ ∃ (w : List Nat) (cy bo : Nat), e1 0 = .slice (some ⟨b, pre.length, none⟩) (n + 2 + 1) cap ∧ e1 1 = u32S V ∧ e1 5 = .int .i64 ((n + 2 : Nat) : Int) ∧ e1 7 = .int .u64 q ∧ e1 9 = .int .u64 bo ∧ e1 10 = .int .u64 cy ∧
  h1 = h.set b (some ⟨88, 1, u32L (pre ++ w ++ post)⟩) ∧ w.length = n + 3 ∧ Lim w ∧ cy < 4294967296 ∧ bo ≤ 1 ∧ w.getD (n + 2) 0 = u.getD (n + 2) 0 ∧ nv (w.take (n + 2)) + q * nv V = nv (u.take (n + 2)) + WB ^ (n + 2) * (cy + bo)) := by
 have lVt : ∀ k, nv (V.take (k + 1)) = nv (V.take k) + WB ^ k * V.getD k 0 := fun k => nv_take_getD V k
 refine W.range (fun i e h1 => ∃ (w : List Nat) (cy bo : Nat), e 0 = .slice (some ⟨b, pre.length, none⟩) (n + 2 + 1) cap ∧ e 1 = u32S V ∧ e 5 = .int .i64 ((n + 2 : Nat) : Int) ∧ e 7 = .int .u64 q ∧ e 9 = .int .u64 bo ∧ e 10 = .int .u64 cy ∧
  h1 = h.set b (some ⟨88, 1, u32L (pre ++ w ++ post)⟩) ∧ w.length = n + 3 ∧ Lim w ∧ cy < 4294967296 ∧ bo ≤ 1 ∧ w.drop i = u.drop i ∧ nv (w.take i) + q * nv (V.take i) = nv (u.take i) + WB ^ i * (cy + bo)) (n + 2) (by omega) rfl e82 e81 ?_ ?_ ?_
 ·exact ⟨u, 0, 0, e0, e1', e5, e7, e9, e10, (VH.set_self hB).symm, by omega, lu, by omega, by omega, rfl, by simp [nv]⟩
 ·rintro i e h1 hi ei en ⟨w, cy, bo, f0, f1, f5, f7, f9, f10, rfl, hw, lw, hcy, hbo, hwd, hv⟩
  have hwi : w.getD i 0 = u.getD i 0 := by
   rw [drop_getD (l := w) (n := i) (by omega), drop_getD (l := u) (n := i) (by omega)] at hwd
   exact (List.cons.inj hwd).1
  have hwd2 : w.drop (i + 1) = u.drop (i + 1) := by
   rw [drop_getD (l := w) (n := i) (by omega), drop_getD (l := u) (n := i) (by omega)] at hwd
   exact (List.cons.inj hwd).2
  have bx := lv.getD i
  have bu := lu.getD i
  have hVi := lVt i
  have hui : nv (u.take (i + 1)) = nv (u.take i) + WB ^ i * u.getD i 0 := nv_take_getD u i
  generalize hx : V.getD i 0 = x at *
  generalize hy : u.getD i 0 = y at *
  have hqx : q * x ≤ 4294967295 * 4294967295 := Nat.mul_le_mul hqb (by omega)
  have hqx2 : IntKind.u64.wrap ((q : Int) * x) = ((q * x : Nat) : Int) := by
   rw [← Int.natCast_mul, wrap_u64 (Int.natCast_nonneg _) (by omega)]
  refine W.block ?_
  refine W.rseq ?_
  simp (disch := first | omega | (simp only [vd]; done) | (simp only [vd]; omega)) only [vs, reduceIte, Nat.reduceEqDiff, ei]
  refine W.rseq ?_
  simp (disch := first | omega | (simp only [vd]; done) | (simp only [vd]; omega)) only [vs, reduceIte, Nat.reduceEqDiff, f1, f7, f10, hx, hqx2, Int.toNat_natCast]
  have hs : (cy : Int) + ((q * x : Nat) : Int) = ((cy + q * x : Nat) : Int) := by omega
  rw [hs]
  have hsl : cy + q * x < 18446744073709551616 := by omega
  generalize hsd : cy + q * x = s at *
  refine W.rseq ?_
  simp (disch := first | omega | (simp only [vd]; done) | (simp only [vd]; omega)) only [vs, reduceIte, Nat.reduceEqDiff, f0, f9, rd1_set, getD_mid, hwi, Int.toNat_natCast]
  obtain ⟨D, hD, hDl, hD1, hD2⟩ := sub_borrow (y := y) (s := s) (bo := bo) (by omega) hbo
  rw [hD]
  generalize hrd : D % 4294967296 = r at *
  generalize hbd : D / 9223372036854775808 = bo' at *
  refine W.rseq ?_
  simp (disch := first | omega | (simp only [vd]; done) | (simp only [vd]; omega)) only [vs, reduceIte, Nat.reduceEqDiff, f0, wrap_u32m, rd1_set, Int.toNat_natCast]
  have hr1 : ((D : Int) % 4294967296).toNat = r := by omega
  rw [hr1, set_mid (by omega)]
  refine W.rseq ?_
  simp (disch := first | omega | (simp only [vd]; done) | (simp only [vd]; omega)) only [vs, reduceIte, Nat.reduceEqDiff]
  have hb1 : (D : Int) / 9223372036854775808 = (bo' : Int) := by omega
  rw [hb1]
  refine W.reg ?_
  simp (disch := first | omega | (simp only [vd]; done) | (simp only [vd]; omega)) only [vs, reduceIte, Nat.reduceEqDiff]
  have hc1 : (s : Int) / 4294967296 = ((s / 4294967296 : Nat) : Int) := by omega
  rw [hc1]
  refine ⟨ei, en, w.set i r, s / 4294967296, bo', f0, f1, f5, f7, rfl, rfl, rfl, by rw [List.length_set]; exact hw, lw.set (by simp only [WB]; omega), by omega, hD2, ?_, ?_⟩
  ·rw [List.drop_set_of_lt (by omega)]
   exact hwd2
  ·rw [nv_set_succ (by omega), hVi, hui, Nat.pow_succ]
   exact msStep hv hsd.symm hD1
 ·rintro e h1 ei ⟨w, cy, bo, f0, f1, f5, f7, f9, f10, rfl, hw, lw, hcy, hbo, hwd, hv⟩
  simp (disch := first | omega | (simp only [vd]; done) | (simp only [vd]; omega)) only [vs, reduceIte, Nat.reduceEqDiff]
  refine ⟨w, cy, bo, f0, f1, f5, f7, f9, f10, rfl, hw, lw, hcy, hbo, ?_, ?_⟩
  ·rw [drop_getD (l := w) (n := n + 2) (by omega), drop_getD (l := u) (n := n + 2) (by omega)] at hwd
   exact (List.cons.inj hwd).1
  ·rw [List.take_of_length_le (l := V) (by omega)] at hv
   exact hv
theorem digit_ab {e : Env} (pre w0 post V : List Nat) (b cap n p : Nat) (hB : h.blk b = some ⟨88, 1, u32L (pre ++ w0 ++ post)⟩) (hwl : w0.length = n + 3) (hn : V.length = n + 2) (hVl : V.length < 1099511627776) (hpre : pre.length < 1099511627776)
  (lwr : Lim w0) (lv : Lim V) (e133 : e 133 = .int .i64 ((n + 2 : Nat) : Int)) (e134 : e 134 = .int .i64 0)
  (f0 : e 0 = .slice (some ⟨b, pre.length, none⟩) (n + 2 + 1) cap) (f1 : e 1 = u32S V) (f5 : e 5 = .int .i64 ((n + 2 : Nat) : Int)) (f7 : e 7 = .int .u64 ((p + 1 : Nat) : Int)) (f10 : e 10 = .int .u64 0) :
  W Try.prog cfg (sub (bodyOf Try.f124) [1,1,1,1,1,1,1,1,1,1,1,0,1]) e h (fun x e1 h1 => x = .normal ∧ ∃ (w : List Nat) (cy : Nat), e1 0 = .slice (some ⟨b, pre.length, none⟩) (n + 2 + 1) cap ∧ e1 5 = .int .i64 ((n + 2 : Nat) : Int) ∧ e1 7 = .int .u64 ((p + 1 : Nat) : Int) ∧ e1 10 = .int .u64 cy ∧
   h1 = h.set b (some ⟨88, 1, u32L (pre ++ w ++ post)⟩) ∧ w.length = n + 3 ∧ Lim w ∧ cy ≤ 1 ∧ w.getD (n + 2) 0 = w0.getD (n + 2) 0 ∧ nv (w.take (n + 2)) + WB ^ (n + 2) * cy = nv (w0.take (n + 2)) + nv V) := by
 have lVt : ∀ k, nv (V.take (k + 1)) = nv (V.take k) + WB ^ k * V.getD k 0 := fun k => nv_take_getD V k
 refine W.range (fun i e h1 => ∃ (w : List Nat) (cy : Nat), e 0 = .slice (some ⟨b, pre.length, none⟩) (n + 2 + 1) cap ∧ e 1 = u32S V ∧ e 5 = .int .i64 ((n + 2 : Nat) : Int) ∧ e 7 = .int .u64 ((p + 1 : Nat) : Int) ∧ e 10 = .int .u64 cy ∧
   h1 = h.set b (some ⟨88, 1, u32L (pre ++ w ++ post)⟩) ∧ w.length = n + 3 ∧ Lim w ∧ cy ≤ 1 ∧ w.drop i = w0.drop i ∧ nv (w.take i) + WB ^ i * cy = nv (w0.take i) + nv (V.take i)) (n + 2) (by omega) rfl e134 e133 ?_ ?_ ?_
 ·exact ⟨w0, 0, f0, f1, f5, f7, f10, (VH.set_self hB).symm, hwl, lwr, by omega, rfl, by simp [nv]⟩
 ·rintro i e h1 hi ei en ⟨w, cy, f0, f1, f5, f7, f10, rfl, hw, lw, hcy, hwd, hv⟩
  have hwi : w.getD i 0 = w0.getD i 0 := by
   rw [drop_getD (l := w) (n := i) (by omega), drop_getD (l := w0) (n := i) (by omega)] at hwd
   exact (List.cons.inj hwd).1
  have hwd2 : w.drop (i + 1) = w0.drop (i + 1) := by
   rw [drop_getD (l := w) (n := i) (by omega), drop_getD (l := w0) (n := i) (by omega)] at hwd
   exact (List.cons.inj hwd).2
  have bx := lv.getD i
  have bu := lwr.getD i
  have hVi := lVt i
  have hui : nv (w0.take (i + 1)) = nv (w0.take i) + WB ^ i * w0.getD i 0 := nv_take_getD w0 i
  generalize hx : V.getD i 0 = x at *
  generalize hy : w0.getD i 0 = y' at *
  refine W.block ?_
  refine W.rseq ?_
  simp (disch := first | omega | (simp only [vd]; done) | (simp only [vd]; omega)) only [vs, reduceIte, Nat.reduceEqDiff, ei]
  refine W.dseq (fun _ => True) (by rfl) ?_
  simp (disch := first | omega | (simp only [vd]; done) | (simp only [vd]; omega)) only [vs, reduceIte, Nat.reduceEqDiff, f0, f1, f10, hx, rd1_set, getD_mid, hwi, Int.toNat_natCast]
  have hs : (cy : Int) + (y' + x) = ((cy + (y' + x) : Nat) : Int) := by omega
  rw [hs]
  have hsl : cy + (y' + x) < 18446744073709551616 := by omega
  generalize hsd : cy + (y' + x) = s at *
  refine W.rseq ?_
  simp (disch := first | omega | (simp only [vd]; done) | (simp only [vd]; omega)) only [vs, reduceIte, Nat.reduceEqDiff, f0, wrap_u32m, rd1_set, Int.toNat_natCast]
  have hr1 : ((s : Int) % 4294967296).toNat = s % 4294967296 := by omega
  rw [hr1, set_mid (by omega)]
  refine W.reg ?_
  simp (disch := first | omega | (simp only [vd]; done) | (simp only [vd]; omega)) only [vs, reduceIte, Nat.reduceEqDiff]
  have hc1 : (s : Int) / 4294967296 = ((s / 4294967296 : Nat) : Int) := by omega
  rw [hc1]
  refine ⟨ei, en, w.set i (s % 4294967296), s / 4294967296, f0, f1, f5, f7, rfl, rfl, by rw [List.length_set]; exact hw, lw.set (Nat.mod_lt _ (by decide)), by omega, ?_, ?_⟩
  ·rw [List.drop_set_of_lt (by omega)]
   exact hwd2
  ·rw [nv_set_succ (by omega), hVi, hui, Nat.pow_succ]
   exact abStep hv hsd.symm
 ·rintro e h1 ei ⟨w, cy, f0, f1, f5, f7, f10, rfl, hw, lw, hcy, hwd, hv⟩
  simp (disch := first | omega | (simp only [vd]; done) | (simp only [vd]; omega)) only [vs, reduceIte, Nat.reduceEqDiff]
  refine ⟨w, cy, f0, f5, f7, f10, rfl, hw, lw, hcy, ?_, ?_⟩
  ·rw [drop_getD (l := w) (n := n + 2) (by omega), drop_getD (l := w0) (n := n + 2) (by omega)] at hwd
   exact (List.cons.inj hwd).1
  ·rw [List.take_of_length_le (l := V) (by omega)] at hv
   exact hv
theorem digit_end {e : Env} (pre u w1 post V : List Nat) (b cap n q D bo' : Nat) (hB : h.blk b = some ⟨88, 1, u32L (pre ++ w1 ++ post)⟩) (hu : u.length = n + 2 + 1) (hn : V.length = n + 2) (hVl : V.length < 1099511627776) (hpre : pre.length < 1099511627776)
  (lwr : Lim w1) (hwl : w1.length = n + 3) (lv : Lim V) (hV0 : 0 < nv V) (hVW : Hid (nv V < WB ^ (n + 2))) (hqb : q ≤ 4294967295) (hge : nv u / nv V ≤ q) (hle : (q - 1) * nv V ≤ nv u)
  (hb1 : (D : Int) / 9223372036854775808 = (bo' : Int)) (hb01 : bo' = 0 ∨ bo' = 1) (hsum : Hid (nv w1 + q * nv V = nv u + WB ^ (n + 2) * (WB * bo')))
  (f0 : e 0 = .slice (some ⟨b, pre.length, none⟩) (n + 2 + 1) cap) (f1 : e 1 = u32S V) (f5 : e 5 = .int .i64 ((n + 2 : Nat) : Int)) (f7 : e 7 = .int .u64 q) (f13 : e 13 = .int .u64 D)
  (hq : ∀ u', u'.length = u.length → Lim u' → nv u' = nv u % nv V → Q (.int .u32 ((nv u / nv V : Nat) : Int)) (h.set b (some ⟨88, 1, u32L (pre ++ u' ++ post)⟩))) :
  W Try.prog cfg (sub (bodyOf Try.f124) [1,1,1,1,1,1,1,1,1]) e h (fun x e1 h2 => (x = .normal ∨ x = .ret) ∧ ∃ e' h1 v, Fz cfg.base e1 h2 e' h1 ∧ ressV cfg Try.f124 e' h1 = some v ∧ Q v h1) := by
 have hq32 : IntKind.u32.wrap (q : Int) = (q : Int) := wrap_u32 (by omega) (by omega)
 have hwp : Hid (nv w1 < WB ^ (n + 2) * WB) := ⟨by
  have := nv_lt lwr
  rw [hwl, Nat.pow_succ] at this
  exact this⟩
 rcases hb01 with rfl | rfl
 ·obtain ⟨hs1, hs2⟩ := kn_le hsum.out
  have hqe : nv u / nv V = q := div_eq_of_bounds hs1 hge hV0
  refine W.seq (W.rseq ?_)
  simp (disch := first | omega | (simp only [vd]; done) | (simp only [vd]; omega)) only [vs, reduceIte, Nat.reduceEqDiff, f13, hb1]
  refine W.cond true (by rfl) (fun _ => W.rseq ?_) nofun
  simp (disch := first | omega | (simp only [vd]; done) | (simp only [vd]; omega)) only [vs, reduceIte, Nat.reduceEqDiff, f7, hq32]
  have hfin := hq w1 (by rw [hwl]; omega) lwr (by
   have := Nat.div_add_mod (nv u) (nv V)
   rw [hqe, Nat.mul_comm] at this
   omega)
  rw [hqe] at hfin
  rw [VH.set_self hB] at hfin
  exact W.ret ⟨.inr rfl, _, _, _, .refl _ _, ress_t rfl, hfin⟩
 ·have hlt2 : nv u < q * nv V := kn_lt2 hsum.out hwp.out
  have hq0 : 0 < q := by
   rcases Nat.eq_zero_or_pos q with h0 | h0
   ·rw [h0] at hlt2; simp at hlt2
   ·exact h0
  obtain ⟨p, rfl⟩ : ∃ p, q = p + 1 := ⟨q - 1, by omega⟩
  simp only [Nat.add_sub_cancel] at hle
  have hqe : nv u / nv V = p := by
   have : nv u / nv V < p + 1 := Nat.div_lt_of_lt_mul (by rw [Nat.mul_comm]; exact hlt2)
   exact div_eq_of_bounds hle (by omega) hV0
  have hrem : nv u % nv V + p * nv V = nv u := by
   have := Nat.div_add_mod (nv u) (nv V)
   rw [hqe, Nat.mul_comm] at this
   omega
  have hremlt := Nat.mod_lt (nv u) hV0
  generalize hR : nv u % nv V = R at *
  refine W.seq (W.rseq ?_)
  simp (disch := first | omega | (simp only [vd]; done) | (simp only [vd]; omega)) only [vs, reduceIte, Nat.reduceEqDiff, f13, hb1]
  refine W.cond false (by rfl) nofun (fun _ => W.skip ?_)
  simp (disch := first | omega | (simp only [vd]; done) | (simp only [vd]; omega)) only [vs, reduceIte, Nat.reduceEqDiff]
  refine W.rseq ?_
  simp (disch := first | omega | (simp only [vd]; done) | (simp only [vd]; omega)) only [vs, reduceIte, Nat.reduceEqDiff]
  refine W.seq (W.rseq ?_)
  simp (disch := first | omega | (simp only [vd]; done) | (simp only [vd]; omega)) only [vs, reduceIte, Nat.reduceEqDiff, f5]
  refine W.mono (digit_ab pre w1 post V b cap n p hB hwl hn (by omega) hpre lwr lv rfl rfl f0 f1 f5 f7 rfl) ?_
  rintro x e h1 ⟨rfl, w, cy, f0, f5, f7, f10, rfl, hw, lw, hcy, hwm, hv⟩
  simp (disch := first | omega | (simp only [vd]; done) | (simp only [vd]; omega)) only [vs, reduceIte, Nat.reduceEqDiff]
  have hfg : cy + w1.getD (n + 2) 0 = WB ∧ nv (w.take (n + 2)) = R := by
   have hmw := nv_take_getD w1 (n + 2)
   rw [List.take_of_length_le (l := w1) (i := n + 2 + 1) (by rw [hwl]; exact Nat.le_refl _)] at hmw
   have lwt2 := nv_lt (lw.take (n + 2))
   rw [List.length_take, Nat.min_eq_left (by rw [hw]; exact Nat.le_succ _)] at lwt2
   exact kn_fin (N := nv (w.take (n + 2))) hsum.out hrem (kn_join hv hmw) lwt2 hremlt hVW.out
  clear hv
  obtain ⟨hf1, hf2⟩ := hfg
  have br := lwr.getD (n + 2)
  generalize hrr : w1.getD (n + 2) 0 = r0 at *
  have hf3 : cy + r0 = 4294967296 := hf1
  have hz : (r0 : Int) + (cy : Int) = 4294967296 := by omega
  refine W.rseq ?_
  simp (disch := first | omega | (simp only [vd]; done) | (simp only [vd]; omega)) only [vs, reduceIte, Nat.reduceEqDiff, f0, f5, f10, rd1_set, getD_mid, hwm, wrap_u32m, hz, set_set, Int.toNat_natCast]
  have hz2 : ((4294967296 : Int) % 4294967296).toNat = 0 := by decide
  rw [hz2, set_mid (by omega)]
  have hp1 : ((p + 1 : Nat) : Int) - 1 = (p : Int) := by omega
  refine W.rseq ?_
  simp (disch := first | omega | (simp only [vd]; done) | (simp only [vd]; omega)) only [vs, reduceIte, Nat.reduceEqDiff, f7, hp1]
  have hfin := hq (w.set (n + 2) 0) (by rw [List.length_set]; omega) (lw.set (by decide)) (by
   have := nv_set_succ (l := w) (i := n + 2) (x := 0) (by omega)
   rw [List.take_of_length_le (by rw [List.length_set]; omega)] at this
   rw [this, hf2, Nat.mul_zero, Nat.add_zero])
  rw [hqe] at hfin
  exact W.ret ⟨.inr rfl, _, _, _, .refl _ _, ress_t rfl, hfin⟩
set_option maxHeartbeats 4000000 in
theorem digit_ok (pre u post V : List Nat) (b cap : Nat) (hB : h.blk b = some ⟨88, 1, u32L (pre ++ u ++ post)⟩) (hu : u.length = V.length + 1) (hV2 : 2 ≤ V.length) (hVl : V.length < 1099511627776) (hpre : pre.length < 1099511627776)
  (lu : Lim u) (lv : Lim V) (hv1 : 0 < V.getD (V.length - 1) 0) (hlt : nv u < WB * nv V)
  (hq : ∀ u', u'.length = u.length → Lim u' → nv u' = nv u % nv V → Q (.int .u32 ((nv u / nv V : Nat) : Int)) (h.set b (some ⟨88, 1, u32L (pre ++ u' ++ post)⟩))) :
  Runs Try.prog cfg 124 [.slice (some ⟨b, pre.length, none⟩) (V.length + 1) cap, u32S V] h Q c := by
 obtain ⟨n, hn⟩ : ∃ n, V.length = n + 2 := ⟨V.length - 2, by omega⟩
 refine Runs.go Try.func124 rfl rfl (.refl _ _) ?_
 refine W.rseq ?_
 simp (disch := first | omega | (simp only [vd]; done) | (simp only [vd]; omega)) only [vs, reduceIte, Nat.reduceEqDiff]
 refine W.rseq ?_
 simp (disch := first | omega | (simp only [vd]; done) | (simp only [vd]; omega)) only [vs, reduceIte, Nat.reduceEqDiff]
 have b0 := lu.getD (n + 2)
 have b1 := lu.getD (n + 1)
 have b2 := lu.getD n
 have c1 := lv.getD (n + 1)
 have c2 := lv.getD n
 rw [hn] at hu hv1 ⊢
 simp only [show n + 2 - 1 = n + 1 by omega] at hv1
 generalize hu0 : u.getD (n + 2) 0 = u0 at *
 generalize hu1 : u.getD (n + 1) 0 = u1 at *
 generalize hu2 : u.getD n 0 = u2 at *
 generalize hx1 : V.getD (n + 1) 0 = v1 at *
 generalize hx2 : V.getD n 0 = v2 at *
 have e1 : (((n + 2 : Nat) : Int) - 1) = ((n + 1 : Nat) : Int) := by omega
 have e2 : (((n + 2 : Nat) : Int) - 2) = (n : Int) := by omega
 refine W.dseq (fun _ => True) (by rfl) ?_
 simp (disch := first | omega | (simp only [vd]; done) | (simp only [vd]; omega)) only [vs, reduceIte, Nat.reduceEqDiff, e1, rd1_of hB, getD_mid, hu0, hu1, hn, Int.toNat_natCast]
 have ht : (u0 : Int) * 4294967296 + u1 = ((u0 * 4294967296 + u1 : Nat) : Int) := by omega
 rw [ht]
 generalize htop : u0 * 4294967296 + u1 = top at *
 have htl : top < 18446744073709551616 := by omega
 refine W.rseq ?_
 simp (disch := first | omega | (simp only [vd]; done) | (simp only [vd]; omega)) only [vs, reduceIte, Nat.reduceEqDiff, e1, hx1, Int.toNat_natCast]
 have hq0 : min (IntKind.u64.wrap ((top : Int) / v1)) 4294967295 = ((min (top / v1) 4294967295 : Nat) : Int) := by
  have h1 : (top : Int) / v1 = ((top / v1 : Nat) : Int) := by simp
  have h2 : top / v1 ≤ top := Nat.div_le_self _ _
  rw [h1, wrap_u64 (Int.natCast_nonneg _) (by omega)]
  omega
 rw [hq0]
 have hq0l : min (top / v1) 4294967295 * v1 ≤ top := Nat.le_trans (Nat.mul_le_mul_right _ (Nat.min_le_left _ _)) (Nat.div_mul_le_self _ _)
 have hq0b : min (top / v1) 4294967295 ≤ 4294967295 := Nat.min_le_right _ _
 have fV := nv_top2 hn
 have fU := nv_top3 (l := u) (n := n) (by omega)
 rw [hu0, hu1, hu2] at fU
 rw [hx1, hx2] at fV
 have lV := nv_lt (lv.take n)
 have lU := nv_lt (lu.take n)
 rw [List.length_take, Nat.min_eq_left (by omega)] at lV lU
 have hqs : nv u / nv V ≤ min (top / v1) 4294967295 := by
  have hVP : v1 * (WB ^ n * WB) ≤ nv V := by
   have : v1 * (WB ^ n * WB) = WB ^ n * (v1 * WB) := by rw [Nat.mul_left_comm]
   rw [this, fV, Nat.mul_add]
   omega
  have hUP : nv u < (top + 1) * (WB ^ n * WB) := by
   have h1 : (top + 1) * (WB ^ n * WB) = WB ^ n * (top * WB) + WB ^ n * WB := by rw [Nat.mul_left_comm, Nat.add_mul, Nat.one_mul, Nat.mul_add]
   have h2 : WB ^ n * (u2 + 1) ≤ WB ^ n * WB := Nat.mul_le_mul_left _ b2
   rw [Nat.mul_add (WB ^ n) u2] at h2
   rw [h1, fU, htop, Nat.mul_add]
   omega
  have h1 := kn_ge hVP hUP (Nat.div_mul_le_self (nv u) (nv V))
  have h2 : nv u / nv V < WB := Nat.div_lt_of_lt_mul (by rw [Nat.mul_comm]; exact hlt)
  exact Nat.le_min.2 ⟨(Nat.le_div_iff_mul_le hv1).2 h1, Nat.le_of_lt_succ h2⟩
 generalize min (top / v1) 4294967295 = q0 at *
 refine W.seq (W.rseq ?_)
 have hr0 : (top : Int) - ((q0 * v1 : Nat) : Int) = ((top - q0 * v1 : Nat) : Int) := (Int.ofNat_sub hq0l).symm
 have hm0 : IntKind.u64.wrap ((q0 : Int) * v1) = ((q0 * v1 : Nat) : Int) := by
  rw [← Int.natCast_mul, wrap_u64 (Int.natCast_nonneg _) (by omega)]
 have hrl : IntKind.u64.wrap ((top - q0 * v1 : Nat) : Int) = ((top - q0 * v1 : Nat) : Int) := wrap_u64 (Int.natCast_nonneg _) (by omega)
 simp (disch := first | omega | (simp only [vd]; done) | (simp only [vd]; omega)) only [vs, reduceIte, Nat.reduceEqDiff, e1, hx1, hm0, hr0, hrl, Int.toNat_natCast]
 refine W.mono (digit_est pre u post V b cap n u0 u1 u2 v1 v2 top q0 hB hu hn (by omega) hpre lu lv hv1 hu0 hu1 hu2 hx1 hx2 htop hq0l hq0b hqs rfl rfl rfl rfl rfl) ?_
 rintro x e h' ⟨rfl, q, e0, e1', e5, e7, rfl, hge, hle, hqb⟩
 clear htop fU fV lV lU hqs hq0l hq0b hm0 hr0 hrl ht htl hu0 hu1 hu2 hx1 hx2 b0 b1 b2 c1 c2
 simp (disch := first | omega | (simp only [vd]; done) | (simp only [vd]; omega)) only [vs, reduceIte, Nat.reduceEqDiff]
 refine W.rseq ?_
 simp (disch := first | omega | (simp only [vd]; done) | (simp only [vd]; omega)) only [vs, reduceIte, Nat.reduceEqDiff]
 refine W.seq (W.rseq ?_)
 simp (disch := first | omega | (simp only [vd]; done) | (simp only [vd]; omega)) only [vs, reduceIte, Nat.reduceEqDiff, e5]
 refine W.mono (digit_ms pre u post V b cap n q hB hu hn (by omega) hpre lu lv hqb rfl rfl e0 e1' e5 e7 rfl rfl) ?_
 rintro x e h1 ⟨rfl, w, cy, bo, f0, f1, f5, f7, f9, f10, rfl, hw, lw, hcy, hbo, hwm, hv⟩
 simp (disch := first | omega | (simp only [vd]; done) | (simp only [vd]; omega)) only [vs, reduceIte, Nat.reduceEqDiff]
 have bu := lu.getD (n + 2)
 have hU : nv u = nv (u.take (n + 2)) + WB ^ (n + 2) * u.getD (n + 2) 0 := by
  have := nv_take_getD u (n + 2)
  rw [List.take_of_length_le (by omega)] at this
  exact this
 have hV0 : 0 < nv V := by
  rcases Nat.eq_zero_or_pos (nv V) with h0 | h0
  ·rw [h0] at hlt
   simp at hlt
  ·exact h0
 have hVW : nv V < WB ^ (n + 2) := by
  have := nv_lt lv
  rw [hn] at this
  exact this
 generalize hy : u.getD (n + 2) 0 = y at *
 have hq32 : IntKind.u32.wrap (q : Int) = (q : Int) := wrap_u32 (by omega) (by omega)
 have hcy2 : (cy : Int) = (cy : Int) % 4294967296 := by omega
 obtain ⟨D, hD, hDl, hD1, hD2⟩ := sub_borrow (y := y) (s := cy) (bo := bo) bu hbo
 rw [← hcy2] at hD
 have hcy3 : cy % 4294967296 = cy := Nat.mod_eq_of_lt hcy
 rw [hcy3] at hD1
 refine W.rseq ?_
 simp (disch := first | omega | (simp only [vd]; done) | (simp only [vd]; omega)) only [vs, reduceIte, Nat.reduceEqDiff, f0, f5, f9, f10, rd1_set, getD_mid, hwm, hD, Int.toNat_natCast]
 refine W.rseq ?_
 simp (disch := first | omega | (simp only [vd]; done) | (simp only [vd]; omega)) only [vs, reduceIte, Nat.reduceEqDiff, f0, f5, wrap_u32m, rd1_set, Int.toNat_natCast]
 have hr1 : ((D : Int) % 4294967296).toNat = D % 4294967296 := by omega
 rw [hr1, set_mid (by omega)]
 generalize hrd : D % 4294967296 = r at *
 have hb1 : (D : Int) / 9223372036854775808 = ((D / 9223372036854775808 : Nat) : Int) := by omega
 generalize hbd : D / 9223372036854775808 = bo' at *
 have hr32 : r < 4294967296 := by omega
 have hwv : nv (w.set (n + 2) r) = nv (w.take (n + 2)) + WB ^ (n + 2) * r := by
  have := nv_set_succ (l := w) (i := n + 2) (x := r) (by omega)
  rw [List.take_of_length_le (by rw [List.length_set]; omega)] at this
  exact this
 have lwt := nv_lt (lw.take (n + 2))
 rw [List.length_take, Nat.min_eq_left (by omega)] at lwt
 have hsum : nv (w.set (n + 2) r) + q * nv V = nv u + WB ^ (n + 2) * (WB * bo') := by
  rw [hwv, hU]
  exact kn_sum (B := WB) hv hD1
 exact digit_end pre u (w.set (n + 2) r) post V b cap n q D bo' blk_set hu hn (by omega) hpre (lw.set (by simp only [WB]; omega)) (by rw [List.length_set]; exact hw) lv hV0 ⟨hVW⟩ hqb hge hle hb1 (by omega) ⟨hsum⟩ f0 f1 f5 f7 rfl (fun u' g1 g2 g3 => by rw [set_set]; exact hq u' g1 g2 g3)
end Go.Proofs.Ytjpknabdmmkobaa
end

section
open Go Go.QM
namespace Go.Proofs.Ytjpknabdmmkobaa
variable {h : VH} {Q : Value → VH → Prop} {c : Cw Q}
theorem sl_mut {C : Cfg} {e' s b0 b1 b len cap : Nat} {z z' : Value} {k k' : IntKind} {kk : TK} {lo hi : Int} (he : C.T e' = some ⟨kk, 1, b1, z'⟩) (h0 : 0 ≤ lo) (h1 : lo ≤ hi) (h2 : hi ≤ cap) (h3 : lo < cap) :
  slcT C (some ⟨.slice e', s, b0, z⟩) (.slice (some ⟨b, 0, none⟩) len cap) (some (.int k lo)) (some (.int k' hi)) none = some (.slice (some ⟨b, lo.toNat, none⟩) (hi.toNat - lo.toNat) (cap - lo.toNat)) := by
 unfold slcT
 simp only [numV, he, Option.bind_some]
 have : cutB len cap (some lo) (some hi) none = some (lo.toNat, hi.toNat, cap) := by
  unfold cutB
  simp
  omega
 simp only [this, Option.map_some]
 rw [if_neg (by omega)]
 simp
theorem sl_mut0 {C : Cfg} {e' s b0 b1 b len cap : Nat} {z z' : Value} {k' : IntKind} {kk : TK} {hi : Int} (he : C.T e' = some ⟨kk, 1, b1, z'⟩) (h1 : 0 ≤ hi) (h2 : hi ≤ cap) :
  slcT C (some ⟨.slice e', s, b0, z⟩) (.slice (some ⟨b, 0, none⟩) len cap) none (some (.int k' hi)) none = some (.slice (some ⟨b, 0, none⟩) hi.toNat cap) := by
 unfold slcT
 simp only [numV, he, Option.bind_some]
 have : cutB len cap none (some hi) none = some (0, hi.toNat, cap) := by
  unfold cutB
  simp
  omega
 simp only [this, Option.map_some]
 simp
theorem ap_nil {h : VH} (l : List Nat) (hl : l.length < 1099511627776) (h0 : l ≠ []) : appV cfg 37 (.slice none 0 0) (u32S l) h = some (.slice (some ⟨h.next, 0, none⟩) l.length l.length, h.push ⟨88, 1, u32L l⟩) := by
 have hl0 : l.length ≠ 0 := fun e => h0 (List.eq_nil_of_length_eq_zero e)
 unfold appV
 simp only [t_Suint32, t_uint32, Option.bind_some, rdS_u32S]
 rw [if_neg hl0, if_pos ⟨by omega, by omega, by decide⟩]
theorem fzT_u32t {b b' len cap ty : Nat} {l : List Nat} (hb : b' = b) (hl : len ≤ l.length) : fzT b ⟨ty, 1, u32L l⟩ (.slice (some ⟨b', 0, none⟩) len cap) = u32S (l.take len) := by
 rw [fzT_sl hb (by simp only [u32L_len]; omega)]
 unfold u32S u32L
 simp only [List.drop_zero, Nat.mul_one, List.length_take, Nat.min_eq_left hl, List.map_take]
theorem digit_at (pre u post V : List Nat) (b o len cap : Nat) (ho : pre.length = o) (hlen : len = V.length + 1) (hB : h.blk b = some ⟨88, 1, u32L (pre ++ u ++ post)⟩) (hu : u.length = V.length + 1) (hV2 : 2 ≤ V.length) (hVl : V.length < 1099511627776) (hpre : pre.length < 1099511627776)
  (lu : Lim u) (lv : Lim V) (hv1 : 0 < V.getD (V.length - 1) 0) (hlt : nv u < WB * nv V)
  (hq : ∀ u', u'.length = u.length → Lim u' → nv u' = nv u % nv V → Q (.int .u32 ((nv u / nv V : Nat) : Int)) (h.set b (some ⟨88, 1, u32L (pre ++ u' ++ post)⟩))) :
  Runs Try.prog cfg 124 [.slice (some ⟨b, o, none⟩) len cap, u32S V] h Q c := by
 subst ho
 subst hlen
 exact digit_ok pre u post V b cap hB hu hV2 hVl hpre lu lv hv1 hlt hq
theorem dig_top {n : Nat} (hn : n ≠ 0) : (dig n).getD ((dig n).length - 1) 0 ≠ 0 := by
 induction n using Nat.strongRecOn with
 | _ n ih =>
  rw [dig_pos hn]
  by_cases h : n / WB = 0
  ·rw [h, dig_zero]
   simp only [List.length_cons, List.length_nil, Nat.zero_add, Nat.sub_self, List.getD_cons_zero]
   have h1 := Nat.div_add_mod n WB
   rw [h, Nat.mul_zero, Nat.zero_add] at h1
   omega
  ·have h1 := ih (n / WB) (Nat.div_lt_self (by omega) (by decide)) h
   have h2 : (dig (n / WB)).length ≠ 0 := fun e => h (dig_nil.1 (List.eq_nil_of_length_eq_zero e))
   obtain ⟨k, hk⟩ : ∃ k, (dig (n / WB)).length = k + 1 := ⟨(dig (n / WB)).length - 1, by omega⟩
   rw [hk] at h1
   simp only [List.length_cons, hk, Nat.add_sub_cancel, List.getD_cons_succ] at h1 ⊢
   exact h1
theorem nv_nil : nv [] = 0 := rfl
theorem divide_loop {e : Env} {x0 y0 : List Nat} (L0 V : List Nat) (A m d : Nat) (hx : d + m + 2 < 1099511627776) (hl0 : L0.length = m + d + 3) (lL0 : Lim L0) (hV : V.length = m + 2) (lV : Lim V) (hV1 : 0 < V.getD (m + 1) 0) (hy0 : y0.length = m + 2)
  (hst : Hid (nv L0 < nv V * WB ^ (d + 1))) (hVK : Hid (nv V * WB ≤ WB ^ (m + 3))) (hVp : 0 < nv V) (hA : A = nv L0)
  (e0 : e 0 = u32S x0) (e1 : e 1 = u32S y0) (e9 : e 9 = .slice (some ⟨h.next, 0, none⟩) (m + d + 3) (m + d + 3)) (e10 : e 10 = u32S V) (e11 : e 11 = .slice (some ⟨h.next + 2, 0, none⟩) (d + 1) (d + 1)) (e12 : e 12 = .int .i64 (d : Int)) :
  W Try.prog cfg (sub (bodyOf Try.f111) [1,1,1,1,1,1,0,1]) e (((h.push ⟨88, 1, u32L L0⟩).skip).push ⟨88, 1, u32L (List.replicate (d + 1) 0)⟩) (fun x e1 h1 => x = .normal ∧ ∃ (L qs : List Nat), e1 0 = u32S x0 ∧ e1 1 = u32S y0 ∧ e1 8 = e 8 ∧
   e1 9 = .slice (some ⟨h.next, 0, none⟩) (m + d + 3) (m + d + 3) ∧ e1 11 = .slice (some ⟨h.next + 2, 0, none⟩) (d + 1) (d + 1) ∧ h1 = ((h.push ⟨88, 1, u32L L⟩).skip).push ⟨88, 1, u32L qs⟩ ∧ L.length = m + d + 3 ∧ qs.length = d + 1 ∧ Lim L ∧ Lim qs ∧
   A = nv L + nv V * nv qs ∧ nv L < nv V) := by
 refine W.block (W.loop (fun k e' h1 => ∃ (L qs : List Nat), k ≤ d + 1 ∧ e' 0 = u32S x0 ∧ e' 1 = u32S y0 ∧ e' 8 = e 8 ∧ e' 9 = .slice (some ⟨h.next, 0, none⟩) (m + d + 3) (m + d + 3) ∧ e' 10 = u32S V ∧ e' 11 = .slice (some ⟨h.next + 2, 0, none⟩) (d + 1) (d + 1) ∧ e' 12 = .int .i64 ((k : Int) - 1) ∧
  h1 = ((h.push ⟨88, 1, u32L L⟩).skip).push ⟨88, 1, u32L qs⟩ ∧ L.length = m + d + 3 ∧ qs.length = d + 1 ∧ Lim L ∧ Lim qs ∧ Hid (A = nv L + nv V * (WB ^ k * nv (qs.drop k)) ∧ nv L < nv V * WB ^ k)) (d + 1) ?_ ?_)
 ·refine ⟨L0, List.replicate (d + 1) 0, Nat.le_refl _, e0, e1, rfl, e9, e10, e11, ?_, rfl, hl0, List.length_replicate .., lL0, Lim.rep _, ⟨⟨?_, hst.out⟩⟩⟩
  ·rw [e12]; congr 1; omega
  ·rw [List.drop_of_length_le (by rw [List.length_replicate]; exact Nat.le_refl _), nv_nil, Nat.mul_zero, Nat.mul_zero, Nat.add_zero]
   exact hA
 rintro k e' h1 ⟨L, qs, hk, f0, f1, f8, f9, f10, f11, f12, rfl, hL, hqs, lL, lq, hv⟩
 by_cases h0 : 0 < k
 ·obtain ⟨i, rfl⟩ : ∃ i, k = i + 1 := ⟨k - 1, by omega⟩
  have e9 : (((i + 1 : Nat) : Int) - 1) = i := by omega
  rw [e9] at f12
  refine W.seq (W.rseq ?_)
  simp (disch := first | omega | (simp only [vd]; done) | (simp only [vd]; omega)) only [vs, reduceIte, Nat.reduceEqDiff, f12]
  refine W.cond true (by rfl) (fun _ => W.skip ?_) nofun
  refine W.seq (W.block ?_)
  obtain ⟨pre, u, post, rfl, hpi, hul⟩ := split3 L i (m + 3) (by omega)
  have lpre : Lim pre := fun z hz => lL z (by simp [hz])
  have lu : Lim u := fun z hz => lL z (by simp [hz])
  have lpost : Lim post := fun z hz => lL z (by simp [hz])
  have hsp : ∀ w : List Nat, w.length = m + 3 → nv (pre ++ w ++ post) = nv pre + WB ^ i * (nv w + WB ^ (m + 3) * nv post) := by
   intro w hw
   rw [List.append_assoc, nv_append, nv_append, hpi, hw]
  have hv1 := hv.out.1
  have hv2 := hv.out.2
  rw [Nat.pow_succ] at hv1 hv2
  have hpl := nv_lt lpre
  rw [hpi] at hpl
  have hst := dv_step (X := WB ^ i) (B := WB) (K := WB ^ (m + 3)) (q := nv u / nv V) (r := nv u % nv V) (hsp u hul) hv1 hv2 hpl hVK.out (Nat.div_add_mod (nv u) (nv V)).symm (Nat.mod_lt _ hVp)
  clear hv1 hv2 hpl
  clear hv
  obtain ⟨hp0, hu2, hA2, hl2⟩ := hst
  have hHA : Hid (A = nv pre + WB ^ i * (nv u % nv V) + nv V * (WB ^ i * (nv u / nv V + WB * nv (qs.drop (i + 1))))) := ⟨hA2⟩
  have hHl : Hid (nv pre + WB ^ i * (nv u % nv V) < nv V * WB ^ i) := ⟨hl2⟩
  have hHs : Hid (∀ w : List Nat, w.length = m + 3 → nv (pre ++ w ++ post) = nv pre + WB ^ i * (nv w + WB ^ (m + 3) * nv post)) := ⟨hsp⟩
  clear hA2 hl2 hsp
  refine W.reg ?_
  simp (disch := first | omega | (simp only [vd]; done) | (simp only [vd]; omega)) only [vs, reduceIte, Nat.reduceEqDiff, f1, f9, f10, f11, f12, hy0, sl_mut (C := cfg) t_uint32, Int.toNat_natCast]
  refine digit_at pre u post V h.next i _ _ hpi ?_ ?_ (by omega) (by omega) (by omega) (by omega) lu lV (by rw [hV]; exact hV1) hu2 (fun u' g1 g2 g3 => ?_)
  ·omega
  ·rw [blk_push_ne (by simp only [next_push, next_skip]; omega), blk_skip_ne (by simp only [next_push]; omega), blk_push]
  have hq32 : nv u / nv V < WB := Nat.div_lt_of_lt_mul (by rw [Nat.mul_comm]; exact hu2)
  generalize hqd : nv u / nv V = qd at *
  simp (disch := first | omega | (simp only [vd]; done) | (simp only [vd]; omega)) only [vs, reduceIte, Nat.reduceEqDiff, set_push, Int.toNat_natCast]
  refine W.reg ?_
  simp (disch := first | omega | (simp only [vd]; done) | (simp only [vd]; omega)) only [vs, reduceIte, Nat.reduceEqDiff, f12]
  refine ⟨i, by omega, pre ++ u' ++ post, qs.set i qd, by omega, f0, f1, f8, f9, f10, f11, rfl, rfl, ?_, by rw [List.length_set]; exact hqs, ?_, lq.set hq32, ⟨?_⟩⟩
  ·simp only [List.length_append] at hL ⊢
   omega
  ·exact (lpre.append g2).append lpost
  ·rw [hHs.out u' (by omega), hp0, Nat.mul_zero, Nat.add_zero, g3, drop_set_self (by omega)]
   exact ⟨hHA.out, hHl.out⟩
 ·obtain rfl : k = 0 := by omega
  refine W.seq (W.rseq ?_)
  simp (disch := first | omega | (simp only [vd]; done) | (simp only [vd]; omega)) only [vs, reduceIte, Nat.reduceEqDiff, f12]
  refine W.cond false (by rfl) nofun (fun _ => W.exit ?_)
  simp (disch := first | omega | (simp only [vd]; done) | (simp only [vd]; omega)) only [vs, reduceIte, Nat.reduceEqDiff]
  refine ⟨L, qs, f0, f1, f8, f9, f11, rfl, hL, hqs, lL, lq, ?_, ?_⟩
  ·have := hv.out.1
   rw [Nat.pow_zero, Nat.one_mul, List.drop_zero] at this
   exact this
  ·have := hv.out.2
   rw [Nat.pow_zero, Nat.mul_one] at this
   exact this
theorem divide_ok (x y : Nat) (hx : (dig x).length < 1099511627776) (hy : (dig y).length < 1099511627776) (hy0 : y ≠ 0) (hq : ∀ h1, h.le h1 → Q (.tuple #[u32S (dig (x / y)), u32S (dig (x % y))]) h1) :
  Runs Try.prog cfg 111 [u32S (dig x), u32S (dig y)] h Q c := by
 have la := Lim_dig x
 have lb := Lim_dig y
 refine Runs.go Try.func111 rfl rfl (.refl _ _) ?_
 refine W.rseq ?_
 simp (disch := first | omega | (simp only [vd]; done) | (simp only [vd]; omega)) only [vs, reduceIte, Nat.reduceEqDiff]
 refine W.seq (W.rseq ?_)
 simp (disch := first | omega | (simp only [vd]; done) | (simp only [vd]; omega)) only [vs, reduceIte, Nat.reduceEqDiff]
 refine compare_ok x y (by omega) (by omega) ?_
 by_cases hlt : x < y
 ·have hc : cmpN x y = -1 := by simp [cmpN, hlt]
  simp (disch := first | omega | (simp only [vd]; done) | (simp only [vd]; omega)) only [vs, reduceIte, Nat.reduceEqDiff, hc]
  refine W.cond true (by rfl) (fun _ => ?_) nofun
  rw [Nat.div_eq_of_lt hlt, Nat.mod_eq_of_lt hlt, dig_zero] at hq
  by_cases h0 : dig x = []
  ·refine W.rseq ?_
   have : u32S (dig x) = fS 0 #[] := by rw [h0]; rfl
   have ha : appV cfg 37 (.slice none 0 0) (u32S (dig x)) h = some (.slice none 0 0, h) := by
    unfold appV
    simp only [t_Suint32, t_uint32, Option.bind_some, rdS_u32S, h0]
    rfl
   simp (disch := first | omega | (simp only [vd]; done) | (simp only [vd]; omega)) only [vs, reduceIte, Nat.reduceEqDiff, ha]
   rw [h0] at hq
   exact W.ret ⟨.inr rfl, _, _, _, .nils [4, 5] (.refl _ _), ress_l rfl rfl, hq _ (VH.le_refl _)⟩
  ·refine W.rseq ?_
   simp (disch := first | omega | (simp only [vd]; done) | (simp only [vd]; omega)) only [vs, reduceIte, Nat.reduceEqDiff, ap_nil _ hx h0]
   refine W.ret ⟨.inr rfl, _, _, _, .nils [4] (.env [5] h.next blk_push (Nat.zero_le _) (.refl _ _)), ress_l rfl ?_, hq _ ?_⟩
   ·simp [resV, put_some, fzT, fz1, u32L_len, nilT, nil1, u32S]
    have : List.take (dig x).length (u32L (dig x)) = u32L (dig x) := List.take_of_length_le (by rw [u32L_len]; exact Nat.le_refl _)
    rw [this]
    exact ⟨rfl, rfl⟩
   ·exact VH.le_set (VH.le_push _ _) (Nat.le_refl _) _
 ·have hc : ¬ (cmpN x y < 0) := by unfold cmpN; rw [if_neg hlt]; split <;> omega
  simp (disch := first | omega | (simp only [vd]; done) | (simp only [vd]; omega)) only [vs, reduceIte, Nat.reduceEqDiff, hc]
  refine W.cond false (by rfl) nofun (fun _ => ?_)
  refine W.skip ?_
  simp (disch := first | omega | (simp only [vd]; done) | (simp only [vd]; omega)) only [vs, reduceIte, Nat.reduceEqDiff]
  have hl0 : 0 < (dig y).length := by
   rcases Nat.eq_zero_or_pos (dig y).length with h0 | h0
   ·exact absurd (dig_nil.1 (List.eq_nil_of_length_eq_zero h0)) hy0
   ·exact h0
  by_cases h1 : (dig y).length = 1
  ·have h1i : ((dig y).length : Int) = 1 := by omega
   refine W.seq (W.rseq ?_)
   simp (disch := first | omega | (simp only [vd]; done) | (simp only [vd]; omega)) only [vs, reduceIte, Nat.reduceEqDiff, h1i]
   refine W.cond true (by rfl) (fun _ => ?_) nofun
   have hd : (dig y).getD 0 0 = y := by
    have := nv_dig y
    cases hdy : dig y with
    | nil => rw [hdy] at h1; simp at h1
    | cons d l =>
     rw [hdy] at h1 this
     have hl : l = [] := List.eq_nil_of_length_eq_zero (by simpa using h1)
     subst hl
     simpa [nv] using this
   have hyl : y < 4294967296 := by
    have := lb.getD 0
    rw [hd] at this
    exact this
   have z0 : (0 : Int).toNat = 0 := rfl
   refine W.rseq ?_
   simp (disch := first | omega | (simp only [vd]; done) | (simp only [vd]; omega)) only [vs, reduceIte, Nat.reduceEqDiff, z0, hd]
   refine shortDivide_ok (dig x) y hx la hyl (by omega) fun h1 hx1 => ?_
   rw [nv_dig]
   simp (disch := first | omega | (simp only [vd]; done) | (simp only [vd]; omega)) only [vs, reduceIte, Nat.reduceEqDiff, extV]
   refine W.rseq ?_
   simp (disch := first | omega | (simp only [vd]; done) | (simp only [vd]; omega)) only [vs, reduceIte, Nat.reduceEqDiff]
   have e1 : [Value.int .u32 ((x % y : Nat) : Int)] = u32L [x % y] := rfl
   rw [e1]
   refine Runs.frz 0 _ rfl blk_push rfl ?_
   have hm : x % y < WB := Nat.lt_trans (Nat.mod_lt _ (by omega)) hyl
   simp (disch := first | omega | (simp only [vd]; done) | (simp only [vd]; omega)) only [vs, reduceIte, Nat.reduceEqDiff]
   refine trim_ok _ (by simp) ?_
   rw [trimL_dig (Lim.cons hm Lim.nil)]
   have hv : nv [x % y] = x % y := by simp [nv]
   rw [hv]
   simp (disch := first | omega | (simp only [vd]; done) | (simp only [vd]; omega)) only [vs, reduceIte, Nat.reduceEqDiff]
   exact W.ret ⟨.inr rfl, _, _, _, .refl _ _, ress_l rfl rfl, hq _ (hx1.trans (VH.le_skip _))⟩
  ·have h1i : ¬ ((dig y).length : Int) = 1 := by omega
   refine W.seq (W.rseq ?_)
   simp (disch := first | omega | (simp only [vd]; done) | (simp only [vd]; omega)) only [vs, reduceIte, Nat.reduceEqDiff, h1i]
   refine W.cond false (by rfl) nofun (fun _ => ?_)
   refine W.skip ?_
   simp (disch := first | omega | (simp only [vd]; done) | (simp only [vd]; omega)) only [vs, reduceIte, Nat.reduceEqDiff]
   have hx0 : (dig y).length ≤ (dig x).length := dig_mono (by omega)
   have e1 : (((dig y).length : Int) - 1).toNat = (dig y).length - 1 := by omega
   have htop : (dig y).getD ((dig y).length - 1) 0 ≠ 0 := dig_top hy0
   have htl := lb.getD ((dig y).length - 1)
   refine W.rseq ?_
   simp (disch := first | omega | (simp only [vd]; done) | (simp only [vd]; omega)) only [vs, reduceIte, Nat.reduceEqDiff, e1]
   refine LeadingZeros32_ok _ htl htop fun n hn hn1 hn2 => ?_
   simp (disch := first | omega | (simp only [vd]; done) | (simp only [vd]; omega)) only [vs, reduceIte, Nat.reduceEqDiff]
   refine W.dseqZ (fun _ => True) (by rfl) ?_
   simp (disch := first | omega | (simp only [vd]; done) | (simp only [vd]; omega)) only [vs, reduceIte, Nat.reduceEqDiff]
   refine shift_ok (dig x) n hx la (by omega) fun L0 hL0 lL0 hv0 => ?_
   simp (disch := first | omega | (simp only [vd]; done) | (simp only [vd]; omega)) only [vs, reduceIte, Nat.reduceEqDiff, sl_mut0 (C := cfg) t_uint32]
   refine shift_ok (dig y) n hy lb (by omega) fun V0 hV0 lV0 hw0 => ?_
   simp (disch := first | omega | (simp only [vd]; done) | (simp only [vd]; omega)) only [vs, reduceIte, Nat.reduceEqDiff, sl_mut0 (C := cfg) t_uint32, Int.toNat_natCast]
   refine WF.one 10 (h.next + 1) rfl (blk_push' rfl) (WF.done ?_)
   simp (disch := first | omega | (simp only [vd]; done) | (simp only [vd]; omega)) only [vs, reduceIte, Nat.reduceEqDiff, fzT_u32t]
   refine W.gen [0, 1, 8, 9, 10] (fun e he => ?_)
   simp only [List.forall_mem_cons, List.not_mem_nil, false_implies, implies_true, and_true, e0_zero, e0_succ, put_some, put_none, reduceIte, Nat.reduceEqDiff] at he
   obtain ⟨e0, e1, e8, e9, e10⟩ := he
   obtain ⟨p, r, hp, hpr, hp0, hp1, hpi⟩ := pow_parts (n := n) (by omega)
   rw [hp] at hn1 hv0 hw0
   rw [nv_dig] at hv0 hw0
   have hp' := hp
   clear hn2 hpi hp hc
   obtain ⟨m, hm⟩ : ∃ m, (dig y).length = m + 2 := ⟨(dig y).length - 2, by omega⟩
   obtain ⟨d, hd⟩ : ∃ d, (dig x).length = m + 2 + d := ⟨(dig x).length - (m + 2), by omega⟩
   have hVt : nv (V0.take (m + 2)) = y * p ∧ y * p < WB ^ (m + 2) := by
    have h1 : y = nv ((dig y).take (m + 1)) + WB ^ (m + 1) * (dig y).getD (m + 1) 0 := by
     have := nv_take_getD (dig y) (m + 1)
     rw [List.take_of_length_le (l := dig y) (by rw [hm]; exact Nat.le_refl _), nv_dig] at this
     exact this
    have h2 := nv_lt (lb.take (m + 1))
    rw [List.length_take, hm, Nat.min_eq_left (Nat.le_succ _)] at h2
    have h3 : (dig y).length - 1 = m + 1 := by rw [hm]; rfl
    rw [h3] at hn1
    have h4 := dv_top h1 h2 hpr hn1
    have h5 : y * p < WB ^ (m + 2) := by rw [Nat.pow_succ WB (m + 1)]; exact h4
    have h6 := nv_take_getD V0 (m + 2)
    rw [List.take_of_length_le (l := V0) (by rw [hV0, hm]; exact Nat.le_refl _), hw0] at h6
    refine ⟨?_, h5⟩
    rcases Nat.eq_zero_or_pos (V0.getD (m + 2) 0) with h7 | h7
    ·rw [h7, Nat.mul_zero, Nat.add_zero] at h6
     exact h6.symm
    ·exfalso
     have h8 := Nat.mul_le_mul_left (WB ^ (m + 2)) h7
     rw [Nat.mul_one] at h8
     exact absurd h5 (Nat.not_lt.2 (Nat.le_trans h8 (h6 ▸ Nat.le_add_left _ _)))
   have lV := lV0.take (m + 2)
   have hVl : (V0.take (m + 2)).length = m + 2 := by rw [List.length_take]; omega
   rw [hm] at e10
   generalize V0.take (m + 2) = V at *
   obtain ⟨hVn, hVlt⟩ := hVt
   have hyge : WB ^ (m + 1) ≤ y := by
    rcases Nat.lt_or_ge y (WB ^ (m + 1)) with h1 | h1
    ·have := dig_len.2 h1
     omega
    ·exact h1
   have hV1 : 0 < V.getD (m + 1) 0 := by
    rcases Nat.eq_zero_or_pos (V.getD (m + 1) 0) with h1 | h1
    ·exfalso
     have h2 := nv_take_getD V (m + 1)
     rw [List.take_of_length_le (l := V) (by rw [hVl]; exact Nat.le_refl _), h1, Nat.mul_zero, Nat.add_zero, hVn] at h2
     have h3 := nv_lt (lV.take (m + 1))
     rw [List.length_take, hVl, Nat.min_eq_left (Nat.le_succ _), ← h2] at h3
     have h4 : y * 1 ≤ y * p := Nat.mul_le_mul_left _ hp0
     rw [Nat.mul_one] at h4
     exact absurd h3 (Nat.not_lt.2 (Nat.le_trans hyge h4))
    ·exact h1
   have hst : Hid (nv L0 < nv V * WB ^ (d + 1)) := ⟨by
    rw [hv0, hVn]
    refine dv_start (Xa := WB ^ (m + 2 + d)) ?_ hyge ?_ hp0
    ·rw [← hd]; exact dig_len.1 (Nat.le_refl _)
    ·rw [← Nat.pow_add]; congr 1; omega⟩
   have hVK : Hid (nv V * WB ≤ WB ^ (m + 3)) := ⟨by
    rw [Nat.pow_succ WB (m + 2), hVn]
    exact Nat.mul_le_mul_right _ (Nat.le_of_lt hVlt)⟩
   have hV0' : 0 < nv V := by rw [hVn]; exact Nat.mul_pos (by omega) hp0
   clear hVlt hyge
   have hz : ((((dig x).length : Int) - ((dig y).length : Int)) + 1) = ((d + 1 : Nat) : Int) := by omega
   refine W.rseq ?_
   simp (disch := first | omega | (simp only [vd]; done) | (simp only [vd]; omega)) only [vs, reduceIte, Nat.reduceEqDiff, e0, e1, hz, Int.toNat_natCast]
   refine W.seqZ (W.rseq ?_)
   have hz2 : (((d + 1 : Nat) : Int) - 1) = (d : Int) := by omega
   simp (disch := first | omega | (simp only [vd]; done) | (simp only [vd]; omega)) only [vs, reduceIte, Nat.reduceEqDiff, hz2]
   have hd3 : (dig x).length + 1 = m + d + 3 := by omega
   have hd4 : ((dig x).length : Int) + 1 = ((m + d + 3 : Nat) : Int) := by omega
   refine W.mono (divide_loop (x0 := dig x) (y0 := dig y) L0 V (x * p) m d (by omega) (by omega) lL0 hVl lV hV1 hm hst hVK hV0' hv0.symm e0 e1 ?_ ?_ ?_ ?_) ?_
   ·simp (disch := first | omega | (simp only [vd]; done) | (simp only [vd]; omega)) only [vs, reduceIte, Nat.reduceEqDiff, e9]
    rw [hd3]
   ·simp (disch := first | omega | (simp only [vd]; done) | (simp only [vd]; omega)) only [vs, reduceIte, Nat.reduceEqDiff, e10]
   ·rfl
   ·rfl
   rintro x1 e' h1 ⟨rfl, L, qs, f0, f1, f8, f9, f11, rfl, hL, hqs, lL, lq, hA, hlt2⟩
   have f8' : e' 8 = .int .u64 n := by
    rw [f8]
    simp (disch := first | omega | (simp only [vd]; done) | (simp only [vd]; omega)) only [vs, reduceIte, Nat.reduceEqDiff, e8]
   simp (disch := first | omega | (simp only [vd]; done) | (simp only [vd]; omega)) only [vs, reduceIte, Nat.reduceEqDiff]
   have hB1 : (((h.push ⟨88, 1, u32L L⟩).skip).push ⟨88, 1, u32L qs⟩).blk (h.next + 2) = some ⟨88, 1, u32L qs⟩ := blk_push' rfl
   refine WF.one 11 (h.next + 2) rfl hB1 ?_
   refine WF.one 9 h.next (B := ⟨88, 1, u32L L⟩) rfl ?_ (WF.done ?_)
   ·rw [blk_set_ne (by omega), blk_push_ne (by simp only [next_push, next_skip]; omega), blk_skip_ne (by simp only [next_push]; omega), blk_push]
   simp (disch := first | omega | (simp only [vd]; done) | (simp only [vd]; omega)) only [vs, reduceIte, Nat.reduceEqDiff, f9, f11, fzT_u32t]
   have hle : h.le (((((h.push ⟨88, 1, u32L L⟩).skip).push ⟨88, 1, u32L qs⟩).set (h.next + 2) none).set h.next none) := VH.le_set (VH.le_set ((VH.le_push _ _).trans ((VH.le_skip _).trans (VH.le_push _ _))) (by omega) _) (Nat.le_refl _) _
   obtain ⟨hq1, hq2⟩ := dv_end (x := x) (y := y) (p := p) (q := nv qs) (r := nv L) (by rw [← hVn]; exact hA) (by rw [← hVn]; exact hlt2) hp0
   have htk : nv (L.take (m + 2)) = nv L := nv_take_of_lt (by
    have := nv_lt lV
    rw [hVl] at this
    exact Nat.lt_trans hlt2 this)
   clear hA hlt2 hst hVK hV0 hVn hV0' hw0 hv0
   refine W.dseq (fun _ => True) (by rfl) ?_
   simp (disch := first | omega | (simp only [vd]; done) | (simp only [vd]; omega)) only [vs, reduceIte, Nat.reduceEqDiff]
   refine trim_ok qs (by omega) ?_
   rw [trimL_dig lq, hq1]
   simp (disch := first | omega | (simp only [vd]; done) | (simp only [vd]; omega)) only [vs, reduceIte, Nat.reduceEqDiff, f1, hm, Int.toNat_natCast]
   refine trim_ok _ (by rw [List.length_take]; omega) ?_
   rw [trimL_dig (lL.take _), htk]
   simp (disch := first | omega | (simp only [vd]; done) | (simp only [vd]; omega)) only [vs, reduceIte, Nat.reduceEqDiff, f8']
   refine unshift_ok _ n ?_ (Lim_dig _) (by omega) fun h2 hx2 => ?_
   ·have := trimL_len (L.take (m + 2))
    rw [trimL_dig (lL.take _), htk, List.length_take] at this
    omega
   have hfin : nv (dig (nv L)) / 2 ^ n = x % y := by
    rw [nv_dig, hq2, hp', Nat.mul_div_cancel _ hp0]
   rw [hfin]
   simp (disch := first | omega | (simp only [vd]; done) | (simp only [vd]; omega)) only [vs, reduceIte, Nat.reduceEqDiff, gr_le hx2]
   exact W.ret ⟨.inr rfl, _, _, _, .refl _ _, ress_l rfl rfl, hq _ ((VH.le_skip _).trans ((VH.le_skip _).trans ((VH.le_skip _).trans hx2)))⟩
end Go.Proofs.Ytjpknabdmmkobaa
end

section
open Go Go.QM
namespace Go.Proofs.Ytjpknabdmmkobaa
variable {h : VH} {Q : Value → VH → Prop} {c : Cw Q}
theorem sg_abs {n : Bool} {x : Nat} : sg n x = 0 ↔ x = 0 := by cases n <;> simp [sg]
theorem dm_pos {n2 : Bool} {x y : Nat} (hy : y ≠ 0) : sg false x / sg n2 y = sg n2 (x / y) ∧ sg false x % sg n2 y = sg false (x % y) := by
 cases n2 <;> simp [sg, Int.ediv_neg, Int.emod_neg]
theorem dm_neg {n2 : Bool} {x y : Nat} (hy : y ≠ 0) (hr : x % y ≠ 0) : sg true x / sg n2 y = sg (!n2) (x / y + 1) ∧ sg true x % sg n2 y = sg false (y - x % y) := by
 have h1 := Nat.div_add_mod x y
 have h2 := Nat.mod_lt x (Nat.pos_of_ne_zero hy)
 have h3 : (-(x : Int)) / (y : Int) = -((x / y + 1 : Nat) : Int) ∧ (-(x : Int)) % (y : Int) = ((y - x % y : Nat) : Int) := by
  refine (Int.ediv_emod_unique (by omega)).2 ⟨?_, by omega, by omega⟩
  have e1 : ((y - x % y : Nat) : Int) = (y : Int) - ((x % y : Nat) : Int) := by omega
  have e2 : (x : Int) = (y : Int) * ((x / y : Nat) : Int) + ((x % y : Nat) : Int) := by exact_mod_cast h1.symm
  rw [e1, Int.mul_neg, Int.natCast_add, Int.mul_add]
  omega
 cases n2
 ·simp only [sg, if_true, if_false, Bool.false_eq_true, Bool.not_false]
  exact h3
 ·simp only [sg, if_true, if_false, Bool.false_eq_true, Bool.not_true, Int.ediv_neg, Int.emod_neg, h3.1, h3.2, Int.neg_neg]
  exact ⟨trivial, trivial⟩
theorem dm_neg0 {n2 : Bool} {x y : Nat} (hy : y ≠ 0) (hr : x % y = 0) : sg true x / sg n2 y = sg (!n2) (x / y) ∧ sg true x % sg n2 y = sg false 0 := by
 have h1 := Nat.div_add_mod x y
 have h3 : (-(x : Int)) / (y : Int) = -((x / y : Nat) : Int) ∧ (-(x : Int)) % (y : Int) = 0 := by
  refine (Int.ediv_emod_unique (by omega)).2 ⟨?_, by omega, by omega⟩
  have e2 : (x : Int) = (y : Int) * ((x / y : Nat) : Int) + ((x % y : Nat) : Int) := by exact_mod_cast h1.symm
  rw [Int.mul_neg]
  omega
 cases n2
 ·simp only [sg, if_true, if_false, Bool.false_eq_true, Bool.not_false]
  exact h3
 ·simp only [sg, if_true, if_false, Bool.false_eq_true, Bool.not_true, Int.ediv_neg, Int.emod_neg, h3.1, h3.2, Int.neg_neg]
  exact ⟨trivial, rfl⟩
theorem dig_small {n : Nat} (h : n < WB) (h0 : n ≠ 0) : dig n = [n] := by
 rw [dig_pos h0, Nat.mod_eq_of_lt h, Nat.div_eq_of_lt h, dig_zero]
theorem DivMod_ok (n1 n2 : Bool) (a b : List Nat) (ha : a.length < 1099511627776) (hb : b.length < 1099511627776) (la : Lim a) (lb : Lim b)
  (hq1 : nv b ≠ 0 → ∀ h1, h.le h1 → Q (.tuple #[zV (sg n1 (nv a) / sg n2 (nv b)), zV (sg n1 (nv a) % sg n2 (nv b)), .bool true]) h1)
  (hq0 : nv b = 0 → ∀ h1, h.le h1 → Q (.tuple #[zV 0, zV 0, .bool false]) h1) :
  Runs Try.prog cfg 89 [.agg #[.bool n1, u32S a], .agg #[.bool n2, u32S b]] h Q c := by
 have hdx := trimL_len a
 have hdy := trimL_len b
 rw [trimL_dig la] at hdx
 rw [trimL_dig lb] at hdy
 refine Runs.go Try.func89 rfl rfl (.refl _ _) ?_
 refine W.rseqZ ?_
 simp (disch := first | omega | (simp only [vd]; done) | (simp only [vd]; omega)) only [vs, reduceIte, Nat.reduceEqDiff, Value.cells]
 refine WF.d3 2 rfl (WF.d2 3 rfl (WF.done ?_))
 simp (disch := first | omega | (simp only [vd]; done) | (simp only [vd]; omega)) only [vs, reduceIte, Nat.reduceEqDiff, next_push, next_skip]
 refine W.gen [2, 3, 4, 5, 6] (fun e he => ?_)
 simp only [List.forall_mem_cons, List.not_mem_nil, false_implies, implies_true, and_true, e0_zero, e0_succ, put_some, put_none, reduceIte, Nat.reduceEqDiff] at he
 obtain ⟨e2, e3, e4, e5, e6⟩ := he
 have hle : h.le ((h.skip.skip.push ⟨39, 0, [.bool false, .slice none 0 0]⟩).push ⟨39, 0, [.bool false, .slice none 0 0]⟩) := (VH.le_skip _).trans ((VH.le_skip _).trans ((VH.le_push _ _).trans (VH.le_push _ _)))
 have hR1 : ((h.skip.skip.push ⟨39, 0, [.bool false, .slice none 0 0]⟩).push ⟨39, 0, [.bool false, .slice none 0 0]⟩).blk (h.next + 1 + 1) = some ⟨39, 0, [.bool false, .slice none 0 0]⟩ := by
  rw [blk_push_ne (by simp only [next_push, next_skip]; omega)]
  exact blk_push' rfl
 have hR2 : ((h.skip.skip.push ⟨39, 0, [.bool false, .slice none 0 0]⟩).push ⟨39, 0, [.bool false, .slice none 0 0]⟩).blk (h.next + 1 + 1 + 1) = some ⟨39, 0, [.bool false, .slice none 0 0]⟩ := blk_push' rfl
 have hn1 : h.next + 1 + 1 + 1 < ((h.skip.skip.push ⟨39, 0, [.bool false, .slice none 0 0]⟩).push ⟨39, 0, [.bool false, .slice none 0 0]⟩).next := by simp only [next_push, next_skip]; omega
 have hr : h.next ≤ h.next + 1 + 1 := by omega
 generalize (h.skip.skip.push ⟨39, 0, [.bool false, .slice none 0 0]⟩).push ⟨39, 0, [.bool false, .slice none 0 0]⟩ = H at *
 generalize h.next + 1 + 1 = r at *
 refine W.rseq ?_
 simp (disch := first | omega | (simp only [vd]; done) | (simp only [vd]; omega)) only [vs, reduceIte, Nat.reduceEqDiff, e3]
 refine magnitude_ok n2 b (by omega) fun h1 hx1 => ?_
 rw [trimL_dig lb]
 simp (disch := first | omega | (simp only [vd]; done) | (simp only [vd]; omega)) only [vs, reduceIte, Nat.reduceEqDiff]
 by_cases hb0 : nv b = 0
 ·have hl0 : ((dig (nv b)).length : Int) = 0 := by rw [hb0, dig_zero]; rfl
  refine W.seq (W.rseq ?_)
  simp (disch := first | omega | (simp only [vd]; done) | (simp only [vd]; omega)) only [vs, reduceIte, Nat.reduceEqDiff, hl0]
  refine W.cond true (by rfl) (fun _ => ?_) nofun
  have hR1' : h1.blk r = some ⟨39, 0, [.bool false, .slice none 0 0]⟩ := by rw [hx1.2 r (by omega)]; exact hR1
  have hR2' : h1.blk (r + 1) = some ⟨39, 0, [.bool false, .slice none 0 0]⟩ := by rw [hx1.2 (r + 1) (by omega)]; exact hR2
  have k1 := wr_s2 (y0 := .bool false) (y1 := .slice none 0 0) hR1'
  have hR3' : (h1.set r (some ⟨39, 0, [.bool false, .slice none 0 0]⟩)).blk (r + 1) = some ⟨39, 0, [.bool false, .slice none 0 0]⟩ := by rw [blk_set_ne (by omega)]; exact hR2'
  have k2 := wr_s2 (y0 := .bool false) (y1 := .slice none 0 0) hR3'
  refine W.rseq ?_
  simp (disch := first | omega | (simp only [vd]; done) | (simp only [vd]; omega)) only [vs, reduceIte, Nat.reduceEqDiff, e4, e5, k1, k2]
  refine W.ret ⟨.inr rfl, ?_⟩
  change Fin cfg _ _ _ _
  refine Fin.nilc r 1 rfl (by rw [blk_set_ne (by omega), blk_set]) ?_
  refine Fin.nilc (r + 1) 1 rfl (by rw [blk_set_ne (by omega), blk_set]) ?_
  refine Fin.done (v := .tuple #[zV 0, zV 0, .bool false]) ?_ (hq0 hb0 _ (VH.le_set (VH.le_set (VH.le_set (VH.le_set (hle.trans hx1) hr _) (by omega) _) hr _) (by omega) _))
  refine ress_cct rfl ?_ ?_ rfl
  ·simp (disch := first | omega | (simp only [vd]; done) | (simp only [vd]; omega)) only [vs, reduceIte, Nat.reduceEqDiff, e4]
   rw [rdN_set_ne (by omega), rdN_set, zV_zero]
   rfl
  ·simp (disch := first | omega | (simp only [vd]; done) | (simp only [vd]; omega)) only [vs, reduceIte, Nat.reduceEqDiff, e5]
   rw [rdN_set, zV_zero]
   rfl
 ·have hl0 : ¬ ((dig (nv b)).length : Int) = 0 := by
   intro h0
   exact hb0 (dig_nil.1 (List.eq_nil_of_length_eq_zero (by omega)))
  refine W.seq (W.rseq ?_)
  simp (disch := first | omega | (simp only [vd]; done) | (simp only [vd]; omega)) only [vs, reduceIte, Nat.reduceEqDiff, hl0]
  refine W.cond false (by rfl) nofun (fun _ => ?_)
  refine W.skip ?_
  simp (disch := first | omega | (simp only [vd]; done) | (simp only [vd]; omega)) only [vs, reduceIte, Nat.reduceEqDiff]
  refine W.rseq ?_
  simp (disch := first | omega | (simp only [vd]; done) | (simp only [vd]; omega)) only [vs, reduceIte, Nat.reduceEqDiff, e2]
  refine magnitude_ok n1 a (by omega) fun h2 hx2 => ?_
  rw [trimL_dig la]
  simp (disch := first | omega | (simp only [vd]; done) | (simp only [vd]; omega)) only [vs, reduceIte, Nat.reduceEqDiff]
  refine divide_ok (nv a) (nv b) (by omega) (by omega) hb0 fun h3 hx3 => ?_
  simp (disch := first | omega | (simp only [vd]; done) | (simp only [vd]; omega)) only [vs, reduceIte, Nat.reduceEqDiff, extV]
  have hx13 := hx1.trans (hx2.trans hx3)
  have hdq : (dig (nv a / nv b)).length ≤ (dig (nv a)).length := dig_mono (Nat.div_le_self _ _)
  have hrlt := Nat.mod_lt (nv a) (Nat.pos_of_ne_zero hb0)
  have hdr : (dig (nv a % nv b)).length ≤ (dig (nv b)).length := dig_mono (Nat.le_of_lt hrlt)
  refine W.gen [2, 3, 4, 5, 7, 8, 9] (fun e he => ?_)
  simp only [List.forall_mem_cons, List.not_mem_nil, false_implies, implies_true, and_true, e0_zero, e0_succ, put_some, put_none, reduceIte, Nat.reduceEqDiff, e2, e3, e4, e5] at he
  obtain ⟨e2, e3, e4, e5, e7, e8, e9⟩ := he
  have fin : ∀ (e : Env) (G : VH) (q r' : Nat), h3.le G → e 2 = fP 0 #[Value.bool n1, u32S a] → e 3 = fP 0 #[Value.bool n2, u32S b] → e 4 = .pointer (some ⟨r, 0, none⟩) → e 5 = .pointer (some ⟨r + 1, 0, none⟩) → e 8 = u32S (dig q) → e 9 = u32S (dig r') →
    (dig q).length < 4611686018427387904 → (dig r').length < 4611686018427387904 → sg n1 (nv a) / sg n2 (nv b) = sg (n1 != n2) q → sg n1 (nv a) % sg n2 (nv b) = sg false r' →
    W Try.prog cfg (sub (bodyOf Try.f89) [1,1,1,1,1]) e G (fun x e1 h2 => (x = .normal ∨ x = .ret) ∧ ∃ e' h1 v, Fz cfg.base e1 h2 e' h1 ∧ ressV cfg Try.f89 e' h1 = some v ∧ Q v h1) := by
   intro e G q r' hG e2 e3 e4 e5 e8 e9 hlq hlr hz1 hz2
   refine W.rseq ?_
   simp (disch := first | omega | (simp only [vd]; done) | (simp only [vd]; omega)) only [vs, reduceIte, Nat.reduceEqDiff, e2, e3, e8]
   refine signed_ok (n1 != n2) _ hlq (Lim_dig _) fun h4 hx4 => ?_
   rw [nv_dig, ← hz1, zV]
   simp (disch := first | omega | (simp only [vd]; done) | (simp only [vd]; omega)) only [vs, reduceIte, Nat.reduceEqDiff, e9]
   refine signed_ok false _ hlr (Lim_dig _) fun h5 hx5 => ?_
   rw [nv_dig, ← hz2, zV]
   simp (disch := first | omega | (simp only [vd]; done) | (simp only [vd]; omega)) only [vs, reduceIte, Nat.reduceEqDiff]
   have hx := (hx13.trans hG).trans (hx4.trans hx5)
   have hR1' : h5.blk r = some ⟨39, 0, [.bool false, .slice none 0 0]⟩ := by rw [hx.2 r (by omega)]; exact hR1
   have hR2' : h5.blk (r + 1) = some ⟨39, 0, [.bool false, .slice none 0 0]⟩ := by rw [hx.2 (r + 1) (by omega)]; exact hR2
   have k1 := wr_s2 (y0 := .bool (decide (sg n1 (nv a) / sg n2 (nv b) < 0))) (y1 := u32S (dig (sg n1 (nv a) / sg n2 (nv b)).natAbs)) hR1'
   simp (disch := first | omega | (simp only [vd]; done) | (simp only [vd]; omega)) only [vs, reduceIte, Nat.reduceEqDiff, e4, k1]
   have hR3' : (h5.set r (some ⟨39, 0, [.bool (decide (sg n1 (nv a) / sg n2 (nv b) < 0)), u32S (dig (sg n1 (nv a) / sg n2 (nv b)).natAbs)]⟩)).blk (r + 1) = some ⟨39, 0, [.bool false, .slice none 0 0]⟩ := by rw [blk_set_ne (by omega)]; exact hR2'
   have k2 := wr_s2 (y0 := .bool (decide (sg n1 (nv a) % sg n2 (nv b) < 0))) (y1 := u32S (dig (sg n1 (nv a) % sg n2 (nv b)).natAbs)) hR3'
   simp (disch := first | omega | (simp only [vd]; done) | (simp only [vd]; omega)) only [vs, reduceIte, Nat.reduceEqDiff, e5, k2]
   refine W.ret ⟨.inr rfl, ?_⟩
   change Fin cfg _ _ _ _
   refine Fin.done (ress_cct rfl ?_ ?_ rfl) (hq1 hb0 _ (VH.le_set (VH.le_set (hle.trans hx) hr _) (by omega) _))
   ·simp (disch := first | omega | (simp only [vd]; done) | (simp only [vd]; omega)) only [vs, reduceIte, Nat.reduceEqDiff, e4]
    rw [rdN_set_ne (by omega), rdN_set]
    rfl
   ·simp (disch := first | omega | (simp only [vd]; done) | (simp only [vd]; omega)) only [vs, reduceIte, Nat.reduceEqDiff, e5]
    rw [rdN_set]
    rfl
  cases n1 with
  | false =>
   refine W.seq (W.rseq ?_)
   simp (disch := first | omega | (simp only [vd]; done) | (simp only [vd]; omega)) only [vs, reduceIte, Nat.reduceEqDiff, e2, e9]
   refine W.cond false (by rfl) nofun (fun _ => ?_)
   refine W.skip ?_
   simp (disch := first | omega | (simp only [vd]; done) | (simp only [vd]; omega)) only [vs, reduceIte, Nat.reduceEqDiff]
   have hz := dm_pos (n2 := n2) (x := nv a) hb0
   have e1 : (false != n2) = n2 := by cases n2 <;> rfl
   exact fin _ _ (nv a / nv b) (nv a % nv b) (VH.le_refl _) e2 e3 e4 e5 e8 e9 (by omega) (by omega) (by rw [e1]; exact hz.1) hz.2
  | true =>
   by_cases hr0 : nv a % nv b = 0
   ·have hl1 : ((dig (nv a % nv b)).length : Int) = 0 := by rw [hr0, dig_zero]; rfl
    refine W.seq (W.rseq ?_)
    simp (disch := first | omega | (simp only [vd]; done) | (simp only [vd]; omega)) only [vs, reduceIte, Nat.reduceEqDiff, e2, e9, hl1]
    refine W.cond false (by rfl) nofun (fun _ => ?_)
    refine W.skip ?_
    simp (disch := first | omega | (simp only [vd]; done) | (simp only [vd]; omega)) only [vs, reduceIte, Nat.reduceEqDiff]
    have hz := dm_neg0 (n2 := n2) (x := nv a) hb0 hr0
    have e1 : (true != n2) = !n2 := by cases n2 <;> rfl
    rw [← hr0] at hz
    exact fin _ _ (nv a / nv b) (nv a % nv b) (VH.le_refl _) e2 e3 e4 e5 e8 e9 (by omega) (by omega) (by rw [e1]; exact hz.1) hz.2
   ·have hl1 : 0 < (dig (nv a % nv b)).length := by
     rcases Nat.eq_zero_or_pos (dig (nv a % nv b)).length with h0 | h0
     ·exact absurd (dig_nil.1 (List.eq_nil_of_length_eq_zero h0)) hr0
     ·exact h0
    refine W.seq (W.rseq ?_)
    simp (disch := first | omega | (simp only [vd]; done) | (simp only [vd]; omega)) only [vs, reduceIte, Nat.reduceEqDiff, e2, e9]
    refine W.cond true (by rfl) (fun _ => ?_) nofun
    refine W.reg ?_
    simp (disch := first | omega | (simp only [vd]; done) | (simp only [vd]; omega)) only [vs, reduceIte, Nat.reduceEqDiff, e7, e8, e9]
    have e1 : [Value.int .u32 1] = u32L [1] := rfl
    rw [e1]
    refine Runs.frz 1 _ rfl blk_push rfl ?_
    simp (disch := first | omega | (simp only [vd]; done) | (simp only [vd]; omega)) only [vs, reduceIte, Nat.reduceEqDiff]
    refine plus_ok _ _ (by omega) (by simp) (Lim_dig _) (Lim.cons (by decide) Lim.nil) fun h4 hx4 => ?_
    have hv1 : nv [1] = 1 := rfl
    rw [nv_dig, hv1]
    simp (disch := first | omega | (simp only [vd]; done) | (simp only [vd]; omega)) only [vs, reduceIte, Nat.reduceEqDiff, e7, e9]
    refine minus_ok _ _ (by omega) (by omega) (Lim_dig _) (Lim_dig _) hdr (by rw [nv_dig, nv_dig]; omega) fun h5 hx5 => ?_
    rw [nv_dig, nv_dig]
    simp (disch := first | omega | (simp only [vd]; done) | (simp only [vd]; omega)) only [vs, reduceIte, Nat.reduceEqDiff]
    have hz := dm_neg (n2 := n2) (x := nv a) hb0 hr0
    have e1 : (true != n2) = !n2 := by cases n2 <;> rfl
    have hl2 : (dig (nv a / nv b + 1)).length ≤ (dig (nv a)).length + 2 := dig_add_le (k := (dig (nv a)).length + 1) (by omega) (by
     have : (dig 1).length = 1 := by rw [dig_small (by decide) (by decide)]; rfl
     omega)
    have hl3 : (dig (nv b - nv a % nv b)).length ≤ (dig (nv b)).length := dig_mono (Nat.sub_le _ _)
    exact fin _ _ (nv a / nv b + 1) (nv b - nv a % nv b) ((VH.le_skip _).trans (hx4.trans hx5)) e2 e3 e4 e5 rfl rfl (by omega) (by omega) (by rw [e1]; exact hz.1) hz.2
theorem Gcd_ok (n1 n2 : Bool) (a b : List Nat) (ha : a.length < 1099511627776) (hb : b.length < 1099511627776) (la : Lim a) (lb : Lim b) (hq : ∀ h1, h.le h1 → Q (zV ((Nat.gcd (nv a) (nv b) : Nat) : Int)) h1) :
  Runs Try.prog cfg 129 [.agg #[.bool n1, u32S a], .agg #[.bool n2, u32S b]] h Q c := by
 have hdx := trimL_len a
 have hdy := trimL_len b
 rw [trimL_dig la] at hdx
 rw [trimL_dig lb] at hdy
 refine Runs.go Try.func129 rfl rfl (.refl _ _) ?_
 refine W.rseqZ ?_
 simp (disch := first | omega | (simp only [vd]; done) | (simp only [vd]; omega)) only [vs, reduceIte, Nat.reduceEqDiff, Value.cells]
 refine WF.d2 2 rfl (WF.d1 3 rfl (WF.done ?_))
 try simp (disch := first | omega | (simp only [vd]; done) | (simp only [vd]; omega)) only [vs, reduceIte, Nat.reduceEqDiff, next_push, next_skip]
 have hle : h.le (h.skip.skip.push ⟨39, 0, [.bool false, .slice none 0 0]⟩) := (VH.le_skip _).trans ((VH.le_skip _).trans (VH.le_push _ _))
 have hR : (h.skip.skip.push ⟨39, 0, [.bool false, .slice none 0 0]⟩).blk (h.next + 1 + 1) = some ⟨39, 0, [.bool false, .slice none 0 0]⟩ := blk_push
 have hn : h.next + 1 + 1 < (h.skip.skip.push ⟨39, 0, [.bool false, .slice none 0 0]⟩).next := Nat.lt_succ_self _
 have hhr : h.next ≤ h.next + 1 + 1 := by omega
 generalize h.skip.skip.push ⟨39, 0, [.bool false, .slice none 0 0]⟩ = H at *
 generalize h.next + 1 + 1 = r at *
 refine W.dseq (fun _ => True) (by rfl) ?_
 simp (disch := first | omega | (simp only [vd]; done) | (simp only [vd]; omega)) only [vs, reduceIte, Nat.reduceEqDiff]
 refine Normalize_ok n1 a ha la fun h1 hx1 => ?_
 rw [zV, sg_nat]
 simp (disch := first | omega | (simp only [vd]; done) | (simp only [vd]; omega)) only [vs, reduceIte, Nat.reduceEqDiff, gr_le hx1]
 refine Normalize_ok n2 b hb lb fun h2 hx2 => ?_
 rw [zV, sg_nat]
 simp (disch := first | omega | (simp only [vd]; done) | (simp only [vd]; omega)) only [vs, reduceIte, Nat.reduceEqDiff, gr_le hx2]
 refine W.gen [4, 5, 6] (fun e he => ?_)
 simp only [List.forall_mem_cons, List.not_mem_nil, false_implies, implies_true, and_true, e0_zero, e0_succ, put_some, put_none, reduceIte, Nat.reduceEqDiff] at he
 obtain ⟨e4, e5, e6⟩ := he
 refine W.seq (W.mono (Q := fun x e1 h' => x = .normal ∧ e1 4 = .pointer (some ⟨r, 0, none⟩) ∧ e1 5 = u32S (dig (Nat.gcd (nv a) (nv b))) ∧ h2.le h' ∧ (dig (Nat.gcd (nv a) (nv b))).length < 1099511627776)
  (W.block (W.loop (fun k e h' => ∃ x, e 4 = .pointer (some ⟨r, 0, none⟩) ∧ e 5 = u32S (dig x) ∧ e 6 = u32S (dig k) ∧ h2.le h' ∧ (dig x).length < 1099511627776 ∧ (dig k).length < 1099511627776 ∧ Nat.gcd x k = Nat.gcd (nv a) (nv b)) (nv b) ?_ ?_)) ?_)
 ·exact ⟨nv a, e4, e5, e6, VH.le_refl _, by omega, by omega, rfl⟩
 ·rintro y e h' ⟨x, f4, f5, f6, hx, hlx, hly, hg⟩
  by_cases h0 : y = 0
  ·subst h0
   have hl : ((dig 0).length : Int) = 0 := by rw [dig_zero]; rfl
   refine W.seq (W.rseq ?_)
   simp (disch := first | omega | (simp only [vd]; done) | (simp only [vd]; omega)) only [vs, reduceIte, Nat.reduceEqDiff, f6, hl]
   refine W.cond false (by rfl) nofun (fun _ => W.exit ?_)
   simp (disch := first | omega | (simp only [vd]; done) | (simp only [vd]; omega)) only [vs, reduceIte, Nat.reduceEqDiff]
   rw [Nat.gcd_zero_right] at hg
   exact ⟨f4, by rw [← hg]; exact f5, hx, by rw [← hg]; exact hlx⟩
  ·have hl : 0 < (dig y).length := by
    rcases Nat.eq_zero_or_pos (dig y).length with h1 | h1
    ·exact absurd (dig_nil.1 (List.eq_nil_of_length_eq_zero h1)) h0
    ·exact h1
   refine W.seq (W.rseq ?_)
   simp (disch := first | omega | (simp only [vd]; done) | (simp only [vd]; omega)) only [vs, reduceIte, Nat.reduceEqDiff, f6]
   refine W.cond true (by rfl) (fun _ => W.skip ?_) nofun
   refine W.block ?_
   refine W.rseq ?_
   simp (disch := first | omega | (simp only [vd]; done) | (simp only [vd]; omega)) only [vs, reduceIte, Nat.reduceEqDiff, f5, f6]
   refine divide_ok x y hlx hly h0 fun h3 hx3 => ?_
   simp (disch := first | omega | (simp only [vd]; done) | (simp only [vd]; omega)) only [vs, reduceIte, Nat.reduceEqDiff, extV]
   refine W.reg ?_
   simp (disch := first | omega | (simp only [vd]; done) | (simp only [vd]; omega)) only [vs, reduceIte, Nat.reduceEqDiff, f6]
   refine ⟨x % y, Nat.mod_lt _ (Nat.pos_of_ne_zero h0), y, f4, rfl, rfl, hx.trans hx3, hly, ?_, ?_⟩
   ·have := dig_mono (Nat.le_of_lt (Nat.mod_lt x (Nat.pos_of_ne_zero h0)))
    omega
   ·rw [← hg, Nat.gcd_comm x y, Nat.gcd_rec y x, Nat.gcd_comm]
 rintro x e h' ⟨rfl, f4, f5, hx, hlg⟩
 simp (disch := first | omega | (simp only [vd]; done) | (simp only [vd]; omega)) only [vs, reduceIte, Nat.reduceEqDiff]
 refine W.rseq ?_
 simp (disch := first | omega | (simp only [vd]; done) | (simp only [vd]; omega)) only [vs, reduceIte, Nat.reduceEqDiff, f5]
 refine signed_ok false _ (by omega) (Lim_dig _) fun h4 hx4 => ?_
 rw [nv_dig, zV]
 have hsg : sg false (Nat.gcd (nv a) (nv b)) = ((Nat.gcd (nv a) (nv b) : Nat) : Int) := rfl
 rw [hsg]
 obtain ⟨h5, k1, k2, k3, k4⟩ := fin_z (z := ((Nat.gcd (nv a) (nv b) : Nat) : Int)) hle hR hn hhr (hx1.trans (hx2.trans (hx.trans hx4)))
 rw [dec_f (show ¬ (((Nat.gcd (nv a) (nv b) : Nat) : Int) < 0) by omega)] at k1
 simp (disch := first | omega | (simp only [vd]; done) | (simp only [vd]; omega)) only [vs, reduceIte, Nat.reduceEqDiff, f4, k1]
 refine W.ret ⟨.inr rfl, _, _, _, .refl _ _, ress_c rfl ?_, hq _ k4⟩
 simp (disch := first | omega | (simp only [vd]; done) | (simp only [vd]; omega)) only [vs, reduceIte, Nat.reduceEqDiff, f4, k3]
end Go.Proofs.Ytjpknabdmmkobaa
end

section
open Go Go.QM
namespace Go.Proofs.Ytjpknabdmmkobaa
variable {h : VH} {Q : Value → VH → Prop} {c : Cw Q}
theorem ap_u32 {h : VH} (l : List Nat) (hl : l.length < 1099511627776 + 1099511627776) : ∃ v h', appV cfg 37 (.slice none 0 0) (u32S l) h = some (v, h') ∧ Own h.next 88 1 h' v l.length (u32L l) ∧ h.le h' := by
 by_cases h0 : l = []
 ·subst h0
  refine ⟨.slice none 0 0, h, ?_, Own.nil, VH.le_refl _⟩
  unfold appV
  simp only [t_Suint32, t_uint32, Option.bind_some, rdS_u32S]
  rfl
 ·have hl0 : l.length ≠ 0 := fun e => h0 (List.eq_nil_of_length_eq_zero e)
  refine ⟨.slice (some ⟨h.next, 0, none⟩) l.length l.length, h.push ⟨88, 1, u32L l⟩, ?_, ⟨by simp [u32L_len], .inr ⟨h.next, rfl, by omega, Nat.le_refl _, Nat.lt_succ_self _, blk_push⟩⟩, VH.le_push _ _⟩
  unfold appV
  simp only [t_Suint32, t_uint32, Option.bind_some, rdS_u32S]
  rw [if_neg hl0, if_pos ⟨by omega, by omega, by decide⟩]
theorem u32S_fS {l : List Nat} : u32S l = fS l.length (u32L l).toArray := rfl
theorem r_trim_ok (m : List Nat) (hm : m.length < 1099511627776 + 1099511627776) (hq : ∀ h1, h.le h1 → Q (u32S (trimL m)) h1) : Runs Try.prog cfg 63 [u32S m] h Q c := by
 refine Runs.go Try.func63 rfl rfl (.refl _ _) ?_
 refine W.rseq ?_
 simp (disch := first | omega | (simp only [vd]; done) | (simp only [vd]; omega)) only [vs, reduceIte, Nat.reduceEqDiff]
 refine W.rseq ?_
 simp (disch := first | omega | (simp only [vd]; done) | (simp only [vd]; omega)) only [vs, reduceIte, Nat.reduceEqDiff]
 refine W.seq (W.mono (Q := fun x e1 h1 => x = .normal ∧ e1 0 = u32S m ∧ ∃ n : Nat, e1 3 = .int .i64 (n : Int) ∧ h1 = h ∧ n ≤ m.length ∧ m.take n = trimL m) (W.block (W.loop (fun n e h' => e 0 = u32S m ∧ e 3 = .int .i64 (n : Int) ∧ h' = h ∧ n ≤ m.length ∧ trimL (m.take n) = trimL m) m.length ?_ ?_)) ?_)
 ·exact ⟨rfl, rfl, rfl, Nat.le_refl _, by simp⟩
 ·rintro n e h' ⟨e0, e3, rfl, hn, ht⟩
  have e1 : ((n : Int) - 1).toNat = n - 1 := by omega
  by_cases hz0 : 0 < n
  ·by_cases hz : m.getD (n - 1) 0 = 0
   ·refine W.seq (W.rseq ?_)
    simp (disch := first | omega | (simp only [vd]; done) | (simp only [vd]; omega)) only [vs, reduceIte, Nat.reduceEqDiff, e0, e3, e1]
    refine W.cond true (by rfl) (fun _ => W.skip ?_) nofun
    refine W.block (W.reg ?_)
    simp (disch := first | omega | (simp only [vd]; done) | (simp only [vd]; omega)) only [vs, reduceIte, Nat.reduceEqDiff, e0, e3, e1]
    refine ⟨n - 1, by omega, ?_, by omega, ?_⟩
    ·congr 1; omega
    ·rw [← ht]
     obtain ⟨n, rfl⟩ : ∃ k, n = k + 1 := ⟨n - 1, by omega⟩
     rw [take_succ_getD (by omega)]
     simp only [Nat.add_sub_cancel] at hz ⊢
     rw [hz, trimL_snoc]
   ·refine W.seq (W.rseq ?_)
    simp (disch := first | omega | (simp only [vd]; done) | (simp only [vd]; omega)) only [vs, reduceIte, Nat.reduceEqDiff, e0, e3, e1]
    refine W.cond false (by rfl) nofun (fun _ => W.exit ?_)
    simp (disch := first | omega | (simp only [vd]; done) | (simp only [vd]; omega)) only [vs, reduceIte, Nat.reduceEqDiff]
    refine ⟨e0, n, e3, hn, ?_⟩
    rw [← ht]
    obtain ⟨n, rfl⟩ : ∃ k, n = k + 1 := ⟨n - 1, by omega⟩
    simp only [Nat.add_sub_cancel] at hz
    refine (trimL_last (by rw [List.length_take]; omega) ?_).symm
    rw [take_succ_getD (by omega)]
    simpa [Nat.min_eq_left (show n ≤ m.length by omega)] using hz
  ·obtain rfl : n = 0 := by omega
   refine W.seq (W.rseq ?_)
   simp (disch := first | omega | (simp only [vd]; done) | (simp only [vd]; omega)) only [vs, reduceIte, Nat.reduceEqDiff, e0, e3, e1]
   refine W.cond false (by rfl) nofun (fun _ => W.exit ?_)
   simp (disch := first | omega | (simp only [vd]; done) | (simp only [vd]; omega)) only [vs, reduceIte, Nat.reduceEqDiff]
   exact ⟨e0, 0, e3, by omega, by rw [← ht]; rfl⟩
 rintro x e h' ⟨rfl, e0, n, e3, rfl, hn, ht⟩
 simp (disch := first | omega | (simp only [vd]; done) | (simp only [vd]; omega)) only [vs, reduceIte, Nat.reduceEqDiff]
 have hl := trimL_len m
 obtain ⟨v, h2, ha, ho, hx⟩ := ap_u32 (h := h') (trimL m) (by omega)
 refine W.rseq ?_
 simp (disch := first | omega | (simp only [vd]; done) | (simp only [vd]; omega)) only [vs, reduceIte, Nat.reduceEqDiff, e0, e3, ht, ha, ho.seen, Int.toNat_natCast]
 refine W.ret ⟨.inr rfl, ?_⟩
 change Fin cfg _ _ _ _
 refine Fin.own 2 rfl ho fun h3 hx3 _ => ?_
 exact Fin.done (ress_1 rfl rfl) (hq _ (hx3 _ hx (Nat.le_refl _)))
def cmpL (m n : List Nat) : Int := if m.length < n.length then -1 else if n.length < m.length then 1 else cmpN (nv m) (nv n)
theorem cmpL_dig (x y : Nat) : cmpL (dig x) (dig y) = cmpN x y := by
 unfold cmpL
 split
 ·rename_i h
  have := dig_length_lt h
  rw [cmpN, if_pos this]
 ·split
  ·rename_i h
   have := dig_length_lt h
   rw [cmpN, if_neg (by omega), if_neg (by omega)]
  ·rw [nv_dig, nv_dig]
theorem r_cmp_ok (a b : List Nat) (ha : a.length < 1099511627776 + 1099511627776) (hb : b.length < 1099511627776 + 1099511627776) (la : Lim a) (lb : Lim b) (hq : Q (.int .i64 (cmpL a b)) h) : Runs Try.prog cfg 66 [u32S a, u32S b] h Q c := by
 unfold cmpL at hq
 refine Runs.go Try.func66 rfl rfl (.refl _ _) ?_
 refine W.rseq ?_
 simp (disch := first | omega | (simp only [vd]; done) | (simp only [vd]; omega)) only [vs, reduceIte, Nat.reduceEqDiff]
 by_cases hl : a.length = b.length
 ·rw [if_neg (by omega), if_neg (by omega)] at hq
  refine W.seq (W.rseq ?_)
  simp (disch := first | omega | (simp only [vd]; done) | (simp only [vd]; omega)) only [vs, reduceIte, Nat.reduceEqDiff]
  refine W.cond false (by rfl) nofun (fun _ => W.skip ?_)
  simp (disch := first | omega | (simp only [vd]; done) | (simp only [vd]; omega)) only [vs, reduceIte, Nat.reduceEqDiff]
  refine W.seq (W.rseq ?_)
  simp (disch := first | omega | (simp only [vd]; done) | (simp only [vd]; omega)) only [vs, reduceIte, Nat.reduceEqDiff]
  refine W.block (W.loop (fun n e h' => e 0 = u32S a ∧ e 1 = u32S b ∧ e 5 = .int .i64 ((n : Int) - 1) ∧ h' = h ∧ n ≤ a.length ∧ a.drop n = b.drop n) a.length ?_ ?_)
  ·exact ⟨rfl, rfl, rfl, rfl, Nat.le_refl _, by rw [List.drop_of_length_le (Nat.le_refl _), List.drop_of_length_le (by omega)]⟩
  rintro n e h' ⟨e0, e1, e5, rfl, hn, hd⟩
  by_cases h0 : 0 < n
  ·obtain ⟨k, rfl⟩ : ∃ k, n = k + 1 := ⟨n - 1, by omega⟩
   have e7 : (((k + 1 : Nat) : Int) - 1) = k := by omega
   rw [e7] at e5
   have hka : k < a.length := by omega
   have hkb : k < b.length := by omega
   refine W.seq (W.rseq ?_)
   simp (disch := first | omega | (simp only [vd]; done) | (simp only [vd]; omega)) only [vs, reduceIte, Nat.reduceEqDiff, e5]
   refine W.cond true (by rfl) (fun _ => W.skip ?_) nofun
   refine W.seq (W.block (W.dseq (fun _ => True) (by rfl) ?_))
   by_cases hz : a.getD k 0 = b.getD k 0
   ·simp (disch := first | omega | (simp only [vd]; done) | (simp only [vd]; omega)) only [vs, reduceIte, Nat.reduceEqDiff, e0, e1, e5, Int.toNat_natCast]
    refine W.cond false (by rfl) nofun (fun _ => W.skip ?_)
    refine W.reg ?_
    simp (disch := first | omega | (simp only [vd]; done) | (simp only [vd]; omega)) only [vs, reduceIte, Nat.reduceEqDiff, e0, e1, e5]
    refine ⟨k, by omega, rfl, by omega, ?_⟩
    rw [drop_getD hka, drop_getD hkb, hz, hd]
   ·simp (disch := first | omega | (simp only [vd]; done) | (simp only [vd]; omega)) only [vs, reduceIte, Nat.reduceEqDiff, e0, e1, e5, Int.toNat_natCast]
    refine W.cond true (by rfl) (fun _ => ?_) nofun
    refine W.seq (W.dseq (fun _ => True) (by rfl) ?_)
    by_cases hlt : a.getD k 0 < b.getD k 0
    ·simp (disch := first | omega | (simp only [vd]; done) | (simp only [vd]; omega)) only [vs, reduceIte, Nat.reduceEqDiff, e0, e1, e5, Int.toNat_natCast]
     refine W.cond true (by rfl) (fun _ => W.rseq ?_) nofun
     simp (disch := first | omega | (simp only [vd]; done) | (simp only [vd]; omega)) only [vs, reduceIte, Nat.reduceEqDiff]
     have := nv_lt_of hl hka la hd hlt
     simp only [cmpN, if_pos this] at hq
     exact W.ret ⟨.inr rfl, _, _, _, .refl _ _, ress_t rfl, hq⟩
    ·simp (disch := first | omega | (simp only [vd]; done) | (simp only [vd]; omega)) only [vs, reduceIte, Nat.reduceEqDiff, e0, e1, e5, Int.toNat_natCast]
     refine W.cond false (by rfl) nofun (fun _ => W.skip ?_)
     refine W.rseq ?_
     simp (disch := first | omega | (simp only [vd]; done) | (simp only [vd]; omega)) only [vs, reduceIte, Nat.reduceEqDiff]
     have := nv_lt_of hl.symm hkb lb hd.symm (by omega)
     simp only [cmpN, if_neg (show ¬ nv a < nv b by omega), if_neg (show ¬ nv a = nv b by omega)] at hq
     exact W.ret ⟨.inr rfl, _, _, _, .refl _ _, ress_t rfl, hq⟩
  ·obtain rfl : n = 0 := by omega
   refine W.seq (W.rseq ?_)
   simp (disch := first | omega | (simp only [vd]; done) | (simp only [vd]; omega)) only [vs, reduceIte, Nat.reduceEqDiff, e5]
   refine W.cond false (by rfl) nofun (fun _ => W.exit ?_)
   simp (disch := first | omega | (simp only [vd]; done) | (simp only [vd]; omega)) only [vs, reduceIte, Nat.reduceEqDiff]
   refine W.rseq ?_
   simp (disch := first | omega | (simp only [vd]; done) | (simp only [vd]; omega)) only [vs, reduceIte, Nat.reduceEqDiff]
   have : nv a = nv b := congrArg nv hd
   simp only [cmpN, if_neg (show ¬ nv a < nv b by omega), if_pos this] at hq
   exact W.ret ⟨.inr rfl, _, _, _, .refl _ _, ress_t rfl, hq⟩
 ·refine W.seq (W.rseq ?_)
  simp (disch := first | omega | (simp only [vd]; done) | (simp only [vd]; omega)) only [vs, reduceIte, Nat.reduceEqDiff]
  refine W.cond true (by rfl) (fun _ => ?_) nofun
  by_cases hlt : a.length < b.length
  ·refine W.seq (W.rseq ?_)
   simp (disch := first | omega | (simp only [vd]; done) | (simp only [vd]; omega)) only [vs, reduceIte, Nat.reduceEqDiff]
   refine W.cond true (by rfl) (fun _ => W.rseq ?_) nofun
   simp (disch := first | omega | (simp only [vd]; done) | (simp only [vd]; omega)) only [vs, reduceIte, Nat.reduceEqDiff]
   rw [if_pos hlt] at hq
   exact W.ret ⟨.inr rfl, _, _, _, .refl _ _, ress_t rfl, hq⟩
  ·refine W.seq (W.rseq ?_)
   simp (disch := first | omega | (simp only [vd]; done) | (simp only [vd]; omega)) only [vs, reduceIte, Nat.reduceEqDiff]
   refine W.cond false (by rfl) nofun (fun _ => W.skip ?_)
   refine W.rseq ?_
   simp (disch := first | omega | (simp only [vd]; done) | (simp only [vd]; omega)) only [vs, reduceIte, Nat.reduceEqDiff]
   rw [if_neg hlt, if_pos (by omega)] at hq
   exact W.ret ⟨.inr rfl, _, _, _, .refl _ _, ress_t rfl, hq⟩
theorem r_Make_ok (neg : Bool) (m : List Nat) (hm : m.length < 1099511627776 + 1099511627776) (lm : Lim m) (hq : ∀ h1, h.le h1 → Q (zV (sg neg (nv m))) h1) : Runs Try.prog cfg 67 [.bool neg, u32S m] h Q c := by
 refine Runs.go Try.func67 rfl rfl (.refl _ _) ?_
 refine W.rseqZ ?_
 simp (disch := first | omega | (simp only [vd]; done) | (simp only [vd]; omega)) only [vs, reduceIte, Nat.reduceEqDiff, Value.cells]
 refine WF.done ?_
 try simp (disch := first | omega | (simp only [vd]; done) | (simp only [vd]; omega)) only [vs, reduceIte, Nat.reduceEqDiff, next_push, next_skip]
 have hle : h.le (h.push ⟨39, 0, [.bool false, .slice none 0 0]⟩) := VH.le_push _ _
 have hR : (h.push ⟨39, 0, [.bool false, .slice none 0 0]⟩).blk (h.next) = some ⟨39, 0, [.bool false, .slice none 0 0]⟩ := blk_push
 have hn : h.next < (h.push ⟨39, 0, [.bool false, .slice none 0 0]⟩).next := Nat.lt_succ_self _
 have hhr : h.next ≤ h.next := by omega
 generalize h.push ⟨39, 0, [.bool false, .slice none 0 0]⟩ = H at *
 refine W.rseq ?_
 simp (disch := first | omega | (simp only [vd]; done) | (simp only [vd]; omega)) only [vs, reduceIte, Nat.reduceEqDiff]
 refine r_trim_ok m hm fun h1 hx1 => ?_
 rw [trimL_dig lm]
 simp (disch := first | omega | (simp only [vd]; done) | (simp only [vd]; omega)) only [vs, reduceIte, Nat.reduceEqDiff]
 have hl : (dig (nv m)).length ≤ m.length := by rw [← trimL_dig lm]; exact trimL_len m
 obtain ⟨h5, k1, k2, k3, k4⟩ := fin_z (z := sg neg (nv m)) hle hR hn hhr hx1
 rw [sg_nat] at k1
 cases neg with
 | false =>
  have e1 : decide (sg false (nv m) < 0) = false := by simp [sg]
  rw [e1] at k1
  refine W.rseq ?_
  simp (disch := first | omega | (simp only [vd]; done) | (simp only [vd]; omega)) only [vs, reduceIte, Nat.reduceEqDiff, k1]
  refine W.ret ⟨.inr rfl, _, _, _, .refl _ _, ress_c rfl ?_, hq _ k4⟩
  simp (disch := first | omega | (simp only [vd]; done) | (simp only [vd]; omega)) only [vs, reduceIte, Nat.reduceEqDiff, k3]
 | true =>
  by_cases h0 : nv m = 0
  ·have e1 : decide (sg true (nv m) < 0) = false := by simp [sg, h0]
   have hl0 : ((dig (nv m)).length : Int) = 0 := by rw [h0, dig_zero]; rfl
   rw [e1] at k1
   refine W.rseq ?_
   simp (disch := first | omega | (simp only [vd]; done) | (simp only [vd]; omega)) only [vs, reduceIte, Nat.reduceEqDiff, hl0, k1]
   refine W.ret ⟨.inr rfl, _, _, _, .refl _ _, ress_c rfl ?_, hq _ k4⟩
   simp (disch := first | omega | (simp only [vd]; done) | (simp only [vd]; omega)) only [vs, reduceIte, Nat.reduceEqDiff, k3]
  ·have e1 : decide (sg true (nv m) < 0) = true := by simp [sg]; omega
   have hl0 : 0 < (dig (nv m)).length := by
    rcases Nat.eq_zero_or_pos (dig (nv m)).length with h1 | h1
    ·exact absurd (dig_nil.1 (List.eq_nil_of_length_eq_zero h1)) h0
    ·exact h1
   rw [e1] at k1
   refine W.rseq ?_
   simp (disch := first | omega | (simp only [vd]; done) | (simp only [vd]; omega)) only [vs, reduceIte, Nat.reduceEqDiff, k1]
   refine W.ret ⟨.inr rfl, _, _, _, .refl _ _, ress_c rfl ?_, hq _ k4⟩
   simp (disch := first | omega | (simp only [vd]; done) | (simp only [vd]; omega)) only [vs, reduceIte, Nat.reduceEqDiff, k3]
end Go.Proofs.Ytjpknabdmmkobaa
end

section
open Go Go.QM
namespace Go.Proofs.Ytjpknabdmmkobaa
variable {h : VH} {Q : Value → VH → Prop} {c : Cw Q}
theorem r_word_ok (neg : Bool) (n : Int) (h1 : 0 ≤ n) (h2 : n < 18446744073709551616) (hq : ∀ h1, h.le h1 → Q (zV (sg neg n.toNat)) h1) : Runs Try.prog cfg 65 [.bool neg, .int .u64 n] h Q c := by
 refine Runs.go Try.func65 rfl rfl (.refl _ _) ?_
 refine W.rseqZ ?_
 simp (disch := first | omega | (simp only [vd]; done) | (simp only [vd]; omega)) only [vs, reduceIte, Nat.reduceEqDiff, Value.cells]
 refine WF.done ?_
 try simp (disch := first | omega | (simp only [vd]; done) | (simp only [vd]; omega)) only [vs, reduceIte, Nat.reduceEqDiff, next_push, next_skip]
 have hle : h.le (h.push ⟨39, 0, [.bool false, .slice none 0 0]⟩) := VH.le_push _ _
 have hR : (h.push ⟨39, 0, [.bool false, .slice none 0 0]⟩).blk (h.next) = some ⟨39, 0, [.bool false, .slice none 0 0]⟩ := blk_push
 have hn : h.next < (h.push ⟨39, 0, [.bool false, .slice none 0 0]⟩).next := Nat.lt_succ_self _
 have hhr : h.next ≤ h.next := by omega
 generalize h.push ⟨39, 0, [.bool false, .slice none 0 0]⟩ = H at *
 refine W.rseq ?_
 simp (disch := first | omega | (simp only [vd]; done) | (simp only [vd]; omega)) only [vs, reduceIte, Nat.reduceEqDiff, wrap_u32m]
 have h3 : 0 ≤ n / 4294967296 ∧ n / 4294967296 < 4294967296 := by omega
 have e3 : n / 4294967296 % 4294967296 = n / 4294967296 := by omega
 rw [u32L_two (by omega) (by omega)]
 refine Runs.frz 1 _ rfl blk_push rfl ?_
 simp (disch := first | omega | (simp only [vd]; done) | (simp only [vd]; omega)) only [vs, reduceIte, Nat.reduceEqDiff, e3]
 have hl : Lim [(n % 4294967296).toNat, (n / 4294967296).toNat] := Lim.cons (by simp only [WB]; omega) (Lim.cons (by simp only [WB]; omega) Lim.nil)
 have hv : nv [(n % 4294967296).toNat, (n / 4294967296).toNat] = n.toNat := by simp only [nv, WB]; omega
 refine r_Make_ok neg _ (by simp) hl fun h4 hx4 => ?_
 rw [hv, zV]
 obtain ⟨h5, k1, k2, k3, k4⟩ := fin_z (z := sg neg n.toNat) hle hR hn hhr ((VH.le_skip _).trans hx4)
 simp (disch := first | omega | (simp only [vd]; done) | (simp only [vd]; omega)) only [vs, reduceIte, Nat.reduceEqDiff, k1]
 refine W.ret ⟨.inr rfl, _, _, _, .refl _ _, ress_c rfl ?_, hq _ k4⟩
 simp (disch := first | omega | (simp only [vd]; done) | (simp only [vd]; omega)) only [vs, reduceIte, Nat.reduceEqDiff, k3]
theorem r_Small_ok (n : Int) (h1 : -9223372036854775808 ≤ n) (h2 : n < 9223372036854775808) (hq : ∀ h1, h.le h1 → Q (zV n) h1) : Runs Try.prog cfg 23 [.int .i64 n] h Q c := by
 refine Runs.go Try.func23 rfl rfl (.refl _ _) ?_
 refine W.rseqZ ?_
 simp (disch := first | omega | (simp only [vd]; done) | (simp only [vd]; omega)) only [vs, reduceIte, Nat.reduceEqDiff, Value.cells]
 refine WF.done ?_
 try simp (disch := first | omega | (simp only [vd]; done) | (simp only [vd]; omega)) only [vs, reduceIte, Nat.reduceEqDiff, next_push, next_skip]
 have hle : h.le (h.push ⟨39, 0, [.bool false, .slice none 0 0]⟩) := VH.le_push _ _
 have hR : (h.push ⟨39, 0, [.bool false, .slice none 0 0]⟩).blk (h.next) = some ⟨39, 0, [.bool false, .slice none 0 0]⟩ := blk_push
 have hn : h.next < (h.push ⟨39, 0, [.bool false, .slice none 0 0]⟩).next := Nat.lt_succ_self _
 have hhr : h.next ≤ h.next := by omega
 generalize h.push ⟨39, 0, [.bool false, .slice none 0 0]⟩ = H at *
 by_cases h0 : n < 0
 ·refine W.seq (W.rseq ?_)
  simp (disch := first | omega | (simp only [vd]; done) | (simp only [vd]; omega)) only [vs, reduceIte, Nat.reduceEqDiff]
  refine W.cond true (by rfl) (fun _ => ?_) nofun
  have hw : IntKind.u64.wrap (0 - IntKind.u64.wrap n) = -n := by rw [wrap_u64m, wrap_u64m]; omega
  refine W.rseq ?_
  simp (disch := first | omega | (simp only [vd]; done) | (simp only [vd]; omega)) only [vs, reduceIte, Nat.reduceEqDiff, hw]
  refine r_word_ok true (-n) (by omega) (by omega) fun h4 hx4 => ?_
  have hz : sg true (-n).toNat = n := by simp [sg]; omega
  rw [hz, zV]
  obtain ⟨h5, k1, k2, k3, k4⟩ := fin_z (z := n) hle hR hn hhr hx4
  simp (disch := first | omega | (simp only [vd]; done) | (simp only [vd]; omega)) only [vs, reduceIte, Nat.reduceEqDiff]
  rw [decide_eq_true h0] at k1
  simp (disch := first | omega | (simp only [vd]; done) | (simp only [vd]; omega)) only [vs, reduceIte, Nat.reduceEqDiff, k1]
  refine W.ret ⟨.inr rfl, _, _, _, .refl _ _, ress_c rfl ?_, hq _ k4⟩
  simp (disch := first | omega | (simp only [vd]; done) | (simp only [vd]; omega)) only [vs, reduceIte, Nat.reduceEqDiff, k3]
 ·refine W.seq (W.rseq ?_)
  simp (disch := first | omega | (simp only [vd]; done) | (simp only [vd]; omega)) only [vs, reduceIte, Nat.reduceEqDiff]
  refine W.cond false (by rfl) nofun (fun _ => ?_)
  refine W.skip ?_
  simp (disch := first | omega | (simp only [vd]; done) | (simp only [vd]; omega)) only [vs, reduceIte, Nat.reduceEqDiff]
  refine W.rseq ?_
  simp (disch := first | omega | (simp only [vd]; done) | (simp only [vd]; omega)) only [vs, reduceIte, Nat.reduceEqDiff]
  refine r_word_ok false n (by omega) (by omega) fun h4 hx4 => ?_
  have hz : sg false n.toNat = n := by simp [sg]; omega
  rw [hz, zV]
  obtain ⟨h5, k1, k2, k3, k4⟩ := fin_z (z := n) hle hR hn hhr hx4
  simp (disch := first | omega | (simp only [vd]; done) | (simp only [vd]; omega)) only [vs, reduceIte, Nat.reduceEqDiff]
  rw [decide_eq_false h0] at k1
  simp (disch := first | omega | (simp only [vd]; done) | (simp only [vd]; omega)) only [vs, reduceIte, Nat.reduceEqDiff, k1]
  refine W.ret ⟨.inr rfl, _, _, _, .refl _ _, ress_c rfl ?_, hq _ k4⟩
  simp (disch := first | omega | (simp only [vd]; done) | (simp only [vd]; omega)) only [vs, reduceIte, Nat.reduceEqDiff, k3]
theorem r_Normalize_ok (n1 : Bool) (a : List Nat) (ha : a.length < 1099511627776) (la : Lim a) (hq : ∀ h1, h.le h1 → Q (zV (sg n1 (nv a))) h1) : Runs Try.prog cfg 64 [.agg #[.bool n1, u32S a]] h Q c := by
 refine Runs.go Try.func64 rfl rfl (.refl _ _) ?_
 refine W.rseqZ ?_
 simp (disch := first | omega | (simp only [vd]; done) | (simp only [vd]; omega)) only [vs, reduceIte, Nat.reduceEqDiff, Value.cells]
 refine WF.d1 1 rfl (WF.done ?_)
 try simp (disch := first | omega | (simp only [vd]; done) | (simp only [vd]; omega)) only [vs, reduceIte, Nat.reduceEqDiff, next_push, next_skip]
 have hle : h.le (h.skip.push ⟨39, 0, [.bool false, .slice none 0 0]⟩) := (VH.le_skip _).trans (VH.le_push _ _)
 have hR : (h.skip.push ⟨39, 0, [.bool false, .slice none 0 0]⟩).blk (h.next + 1) = some ⟨39, 0, [.bool false, .slice none 0 0]⟩ := blk_push
 have hn : h.next + 1 < (h.skip.push ⟨39, 0, [.bool false, .slice none 0 0]⟩).next := Nat.lt_succ_self _
 have hhr : h.next ≤ h.next + 1 := by omega
 generalize h.skip.push ⟨39, 0, [.bool false, .slice none 0 0]⟩ = H at *
 generalize h.next + 1 = r at *
 refine W.rseq ?_
 simp (disch := first | omega | (simp only [vd]; done) | (simp only [vd]; omega)) only [vs, reduceIte, Nat.reduceEqDiff]
 refine r_Make_ok n1 a (by omega) la fun h4 hx4 => ?_
 rw [zV]
 obtain ⟨h5, k1, k2, k3, k4⟩ := fin_z (z := sg n1 (nv a)) hle hR hn hhr hx4
 simp (disch := first | omega | (simp only [vd]; done) | (simp only [vd]; omega)) only [vs, reduceIte, Nat.reduceEqDiff, k1]
 refine W.ret ⟨.inr rfl, _, _, _, .refl _ _, ress_c rfl ?_, hq _ k4⟩
 simp (disch := first | omega | (simp only [vd]; done) | (simp only [vd]; omega)) only [vs, reduceIte, Nat.reduceEqDiff, k3]
theorem sg_not {n : Bool} {x : Nat} : sg (!n) x = - sg n x := by cases n <;> simp [sg]
theorem r_Neg_ok (n1 : Bool) (a : List Nat) (ha : a.length < 1099511627776) (la : Lim a) (hq : ∀ h1, h.le h1 → Q (zV (- sg n1 (nv a))) h1) : Runs Try.prog cfg 47 [.agg #[.bool n1, u32S a]] h Q c := by
 refine Runs.go Try.func47 rfl rfl (.refl _ _) ?_
 refine W.rseqZ ?_
 simp (disch := first | omega | (simp only [vd]; done) | (simp only [vd]; omega)) only [vs, reduceIte, Nat.reduceEqDiff, Value.cells]
 refine WF.d1 1 rfl (WF.done ?_)
 try simp (disch := first | omega | (simp only [vd]; done) | (simp only [vd]; omega)) only [vs, reduceIte, Nat.reduceEqDiff, next_push, next_skip]
 have hle : h.le (h.skip.push ⟨39, 0, [.bool false, .slice none 0 0]⟩) := (VH.le_skip _).trans (VH.le_push _ _)
 have hR : (h.skip.push ⟨39, 0, [.bool false, .slice none 0 0]⟩).blk (h.next + 1) = some ⟨39, 0, [.bool false, .slice none 0 0]⟩ := blk_push
 have hn : h.next + 1 < (h.skip.push ⟨39, 0, [.bool false, .slice none 0 0]⟩).next := Nat.lt_succ_self _
 have hhr : h.next ≤ h.next + 1 := by omega
 generalize h.skip.push ⟨39, 0, [.bool false, .slice none 0 0]⟩ = H at *
 generalize h.next + 1 = r at *
 refine W.rseq ?_
 simp (disch := first | omega | (simp only [vd]; done) | (simp only [vd]; omega)) only [vs, reduceIte, Nat.reduceEqDiff]
 refine r_Make_ok (!n1) a (by omega) la fun h4 hx4 => ?_
 rw [sg_not, zV]
 obtain ⟨h5, k1, k2, k3, k4⟩ := fin_z (z := - sg n1 (nv a)) hle hR hn hhr hx4
 simp (disch := first | omega | (simp only [vd]; done) | (simp only [vd]; omega)) only [vs, reduceIte, Nat.reduceEqDiff, k1]
 refine W.ret ⟨.inr rfl, _, _, _, .refl _ _, ress_c rfl ?_, hq _ k4⟩
 simp (disch := first | omega | (simp only [vd]; done) | (simp only [vd]; omega)) only [vs, reduceIte, Nat.reduceEqDiff, k3]
theorem r_Abs_ok (n1 : Bool) (a : List Nat) (ha : a.length < 1099511627776) (la : Lim a) (hq : ∀ h1, h.le h1 → Q (zV (nv a : Int)) h1) : Runs Try.prog cfg 119 [.agg #[.bool n1, u32S a]] h Q c := by
 refine Runs.go Try.func119 rfl rfl (.refl _ _) ?_
 refine W.rseqZ ?_
 simp (disch := first | omega | (simp only [vd]; done) | (simp only [vd]; omega)) only [vs, reduceIte, Nat.reduceEqDiff, Value.cells]
 refine WF.d1 1 rfl (WF.done ?_)
 try simp (disch := first | omega | (simp only [vd]; done) | (simp only [vd]; omega)) only [vs, reduceIte, Nat.reduceEqDiff, next_push, next_skip]
 have hle : h.le (h.skip.push ⟨39, 0, [.bool false, .slice none 0 0]⟩) := (VH.le_skip _).trans (VH.le_push _ _)
 have hR : (h.skip.push ⟨39, 0, [.bool false, .slice none 0 0]⟩).blk (h.next + 1) = some ⟨39, 0, [.bool false, .slice none 0 0]⟩ := blk_push
 have hn : h.next + 1 < (h.skip.push ⟨39, 0, [.bool false, .slice none 0 0]⟩).next := Nat.lt_succ_self _
 have hhr : h.next ≤ h.next + 1 := by omega
 generalize h.skip.push ⟨39, 0, [.bool false, .slice none 0 0]⟩ = H at *
 generalize h.next + 1 = r at *
 refine W.rseq ?_
 simp (disch := first | omega | (simp only [vd]; done) | (simp only [vd]; omega)) only [vs, reduceIte, Nat.reduceEqDiff]
 refine r_Make_ok false a (by omega) la fun h4 hx4 => ?_
 have hz : sg false (nv a) = (nv a : Int) := rfl
 rw [hz, zV]
 obtain ⟨h5, k1, k2, k3, k4⟩ := fin_z (z := (nv a : Int)) hle hR hn hhr hx4
 rw [dec_f (show ¬ ((nv a : Int) < 0) by omega)] at k1
 simp (disch := first | omega | (simp only [vd]; done) | (simp only [vd]; omega)) only [vs, reduceIte, Nat.reduceEqDiff, k1]
 refine W.ret ⟨.inr rfl, _, _, _, .refl _ _, ress_c rfl ?_, hq _ k4⟩
 simp (disch := first | omega | (simp only [vd]; done) | (simp only [vd]; omega)) only [vs, reduceIte, Nat.reduceEqDiff, k3]
theorem sgn_of {n : Bool} {x : Nat} : (sg n x).sign = if x = 0 then 0 else if n = true then -1 else 1 := by
 by_cases h : x = 0
 ·subst h; simp [sg_zero]
 ·rw [if_neg h]
  cases n
  ·simp only [sg, Bool.false_eq_true, if_false]; exact Int.sign_eq_one_of_pos (by omega)
  ·simp only [sg, if_true]; exact Int.sign_eq_neg_one_of_neg (by omega)
theorem r_Sign_ok (n1 : Bool) (a : List Nat) (ha : a.length < 1099511627776) (la : Lim a) (hq : ∀ h1, h.le h1 → Q (.int .i64 (sg n1 (nv a)).sign) h1) : Runs Try.prog cfg 20 [.agg #[.bool n1, u32S a]] h Q c := by
 rw [sgn_of] at hq
 refine Runs.go Try.func20 rfl rfl (.refl _ _) ?_
 refine W.rseqZ ?_
 simp (disch := first | omega | (simp only [vd]; done) | (simp only [vd]; omega)) only [vs, reduceIte, Nat.reduceEqDiff, Value.cells]
 refine WF.d0 1 rfl (WF.done ?_)
 simp (disch := first | omega | (simp only [vd]; done) | (simp only [vd]; omega)) only [vs, reduceIte, Nat.reduceEqDiff, next_push]
 have hdx := trimL_len a
 rw [trimL_dig la] at hdx
 refine W.seq (W.block ?_)
 refine W.rseq ?_
 simp (disch := first | omega | (simp only [vd]; done) | (simp only [vd]; omega)) only [vs, reduceIte, Nat.reduceEqDiff]
 refine r_trim_ok a (by omega) fun h1 hx1 => ?_
 rw [trimL_dig la]
 have hx : h.le h1 := (VH.le_skip _).trans hx1
 by_cases h0 : nv a = 0
 ·have hl : ((dig (nv a)).length : Int) = 0 := by rw [h0, dig_zero]; rfl
  rw [if_pos h0] at hq
  simp (disch := first | omega | (simp only [vd]; done) | (simp only [vd]; omega)) only [vs, reduceIte, Nat.reduceEqDiff, hl]
  refine W.cond true (by rfl) (fun _ => ?_) nofun
  refine W.rseq ?_
  simp (disch := first | omega | (simp only [vd]; done) | (simp only [vd]; omega)) only [vs, reduceIte, Nat.reduceEqDiff]
  exact W.ret ⟨.inr rfl, _, _, _, .refl _ _, ress_t rfl, hq _ hx⟩
 ·have hl : 0 < (dig (nv a)).length := by
   rcases Nat.eq_zero_or_pos (dig (nv a)).length with h1 | h1
   ·exact absurd (dig_nil.1 (List.eq_nil_of_length_eq_zero h1)) h0
   ·exact h1
  rw [if_neg h0] at hq
  simp (disch := first | omega | (simp only [vd]; done) | (simp only [vd]; omega)) only [vs, reduceIte, Nat.reduceEqDiff]
  refine W.cond false (by rfl) nofun (fun _ => ?_)
  cases n1 with
  | true =>
   refine W.rseq ?_
   simp (disch := first | omega | (simp only [vd]; done) | (simp only [vd]; omega)) only [vs, reduceIte, Nat.reduceEqDiff]
   refine W.cond true (by rfl) (fun _ => ?_) nofun
   refine W.rseq ?_
   simp (disch := first | omega | (simp only [vd]; done) | (simp only [vd]; omega)) only [vs, reduceIte, Nat.reduceEqDiff]
   exact W.ret ⟨.inr rfl, _, _, _, .refl _ _, ress_t rfl, hq _ hx⟩
  | false =>
   refine W.rseq ?_
   simp (disch := first | omega | (simp only [vd]; done) | (simp only [vd]; omega)) only [vs, reduceIte, Nat.reduceEqDiff]
   refine W.cond false (by rfl) nofun (fun _ => ?_)
   refine W.skip ?_
   simp (disch := first | omega | (simp only [vd]; done) | (simp only [vd]; omega)) only [vs, reduceIte, Nat.reduceEqDiff]
   refine W.rseq ?_
   simp (disch := first | omega | (simp only [vd]; done) | (simp only [vd]; omega)) only [vs, reduceIte, Nat.reduceEqDiff]
   exact W.ret ⟨.inr rfl, _, _, _, .refl _ _, ress_t rfl, hq _ hx⟩
theorem r_Cmp_ok (n1 n2 : Bool) (a b : List Nat) (ha : a.length < 1099511627776) (hb : b.length < 1099511627776) (la : Lim a) (lb : Lim b) (hq : ∀ h1, h.le h1 → Q (.int .i64 (sg n1 (nv a) - sg n2 (nv b)).sign) h1) :
  Runs Try.prog cfg 24 [.agg #[.bool n1, u32S a], .agg #[.bool n2, u32S b]] h Q c := by
 refine Runs.go Try.func24 rfl rfl (.refl _ _) ?_
 refine W.rseqZ ?_
 simp (disch := first | omega | (simp only [vd]; done) | (simp only [vd]; omega)) only [vs, reduceIte, Nat.reduceEqDiff]
 refine WF.d1 2 rfl (WF.d0 3 rfl (WF.done ?_))
 simp (disch := first | omega | (simp only [vd]; done) | (simp only [vd]; omega)) only [vs, reduceIte, Nat.reduceEqDiff, next_push, next_skip]
 have hle : h.le h.skip.skip := (VH.le_skip _).trans (VH.le_skip _)
 generalize h.skip.skip = H at *
 have hdx := trimL_len a
 have hdy := trimL_len b
 rw [trimL_dig la] at hdx
 rw [trimL_dig lb] at hdy
 refine W.dseq (fun _ => True) (by rfl) ?_
 simp (disch := first | omega | (simp only [vd]; done) | (simp only [vd]; omega)) only [vs, reduceIte, Nat.reduceEqDiff]
 refine r_Sign_ok n1 a ha la fun h1 hx1 => ?_
 simp (disch := first | omega | (simp only [vd]; done) | (simp only [vd]; omega)) only [vs, reduceIte, Nat.reduceEqDiff, gr_le hx1]
 refine r_Sign_ok n2 b hb lb fun h2 hx2 => ?_
 simp (disch := first | omega | (simp only [vd]; done) | (simp only [vd]; omega)) only [vs, reduceIte, Nat.reduceEqDiff, gr_le hx2]
 generalize hx : sg n1 (nv a) = x at *
 generalize hy : sg n2 (nv b) = y at *
 have hxa : x.natAbs = nv a := by rw [← hx, sg_nat]
 have hya : y.natAbs = nv b := by rw [← hy, sg_nat]
 have hsx : x.sign = if x < 0 then -1 else if x = 0 then 0 else 1 := by
  split
  ·exact Int.sign_eq_neg_one_of_neg ‹_›
  ·split
   ·rename_i h; rw [h]; rfl
   ·exact Int.sign_eq_one_of_pos (by omega)
 have hsy : y.sign = if y < 0 then -1 else if y = 0 then 0 else 1 := by
  split
  ·exact Int.sign_eq_neg_one_of_neg ‹_›
  ·split
   ·rename_i h; rw [h]; rfl
   ·exact Int.sign_eq_one_of_pos (by omega)
 by_cases hs : x.sign = y.sign
 ·refine W.seq (W.rseq ?_)
  simp (disch := first | omega | (simp only [vd]; done) | (simp only [vd]; omega)) only [vs, reduceIte, Nat.reduceEqDiff, hs]
  refine W.cond false (by simp [rd_tmp, put_some]; rfl) nofun (fun _ => W.skip ?_)
  simp (disch := first | omega | (simp only [vd]; done) | (simp only [vd]; omega)) only [vs, reduceIte, Nat.reduceEqDiff]
  refine W.dseq (fun _ => True) (by rfl) ?_
  simp (disch := first | omega | (simp only [vd]; done) | (simp only [vd]; omega)) only [vs, reduceIte, Nat.reduceEqDiff]
  refine r_trim_ok a (by omega) fun h3 hx3 => ?_
  rw [trimL_dig la]
  simp (disch := first | omega | (simp only [vd]; done) | (simp only [vd]; omega)) only [vs, reduceIte, Nat.reduceEqDiff, gr_le hx3]
  refine r_trim_ok b (by omega) fun h4 hx4 => ?_
  rw [trimL_dig lb]
  simp (disch := first | omega | (simp only [vd]; done) | (simp only [vd]; omega)) only [vs, reduceIte, Nat.reduceEqDiff, gr_le hx4]
  refine r_cmp_ok _ _ (by omega) (by omega) (Lim_dig _) (Lim_dig _) ?_
  rw [cmpL_dig]
  have hm : IntKind.i64.wrap (y.sign * cmpN (nv a) (nv b)) = (x - y).sign := by
   have h5 : y.sign * cmpN (nv a) (nv b) = (x - y).sign := by
    rw [← hxa, ← hya, ← hs]
    have h6 : (x - y).sign = if x - y < 0 then -1 else if x - y = 0 then 0 else 1 := by
     split
     ·exact Int.sign_eq_neg_one_of_neg ‹_›
     ·split
      ·rename_i h; rw [h]; rfl
      ·exact Int.sign_eq_one_of_pos (by omega)
    rw [h6, hsx]
    rw [hsx, hsy] at hs
    unfold cmpN
    repeat' split
    all_goals omega
   rw [h5]
   have h7 : -1 ≤ (x - y).sign ∧ (x - y).sign ≤ 1 := by
    rcases Int.sign_trichotomy (x - y) with h | h | h <;> omega
   rw [wrap_i64 (by omega) (by omega)]
  simp (disch := first | omega | (simp only [vd]; done) | (simp only [vd]; omega)) only [vs, reduceIte, Nat.reduceEqDiff, hm]
  exact W.ret ⟨.inr rfl, _, _, _, .refl _ _, ress_t rfl, hq _ (hle.trans (hx1.trans (hx2.trans (hx3.trans hx4))))⟩
 ·refine W.seq (W.rseq ?_)
  simp (disch := first | omega | (simp only [vd]; done) | (simp only [vd]; omega)) only [vs, reduceIte, Nat.reduceEqDiff]
  refine W.cond true (by rfl) (fun _ => ?_) nofun
  by_cases hlt : x.sign < y.sign
  ·refine W.seq (W.rseq ?_)
   simp (disch := first | omega | (simp only [vd]; done) | (simp only [vd]; omega)) only [vs, reduceIte, Nat.reduceEqDiff]
   refine W.cond true (by rfl) (fun _ => W.rseq ?_) nofun
   simp (disch := first | omega | (simp only [vd]; done) | (simp only [vd]; omega)) only [vs, reduceIte, Nat.reduceEqDiff]
   have : (x - y).sign = -1 := Int.sign_eq_neg_one_of_neg (by
    rw [hsx, hsy] at hlt
    split at hlt <;> split at hlt <;> (try split at hlt) <;> (try split at hlt) <;> omega)
   rw [this] at hq
   exact W.ret ⟨.inr rfl, _, _, _, .refl _ _, ress_t rfl, hq _ (hle.trans (hx1.trans hx2))⟩
  ·refine W.seq (W.rseq ?_)
   simp (disch := first | omega | (simp only [vd]; done) | (simp only [vd]; omega)) only [vs, reduceIte, Nat.reduceEqDiff]
   refine W.cond false (by rfl) nofun (fun _ => W.skip ?_)
   refine W.rseq ?_
   simp (disch := first | omega | (simp only [vd]; done) | (simp only [vd]; omega)) only [vs, reduceIte, Nat.reduceEqDiff]
   have : (x - y).sign = 1 := Int.sign_eq_one_of_pos (by
    rw [hsx, hsy] at hlt hs
    split at hlt <;> split at hlt <;> (try split at hlt) <;> (try split at hlt) <;> simp_all <;> omega)
   rw [this] at hq
   exact W.ret ⟨.inr rfl, _, _, _, .refl _ _, ress_t rfl, hq _ (hle.trans (hx1.trans hx2))⟩
theorem nv_inj {a b : List Nat} (la : Lim a) (lb : Lim b) (hl : a.length = b.length) (h : nv a = nv b) : a = b := by
 induction a generalizing b with
 | nil => exact (List.eq_nil_of_length_eq_zero hl.symm).symm
 | cons x a ih =>
  cases b with
  | nil => simp at hl
  | cons y b =>
   simp only [nv] at h
   have h1 := la.head
   have h2 := lb.head
   simp only [WB] at h h1 h2
   have h3 : nv a = nv b ∧ x = y := by omega
   rw [h3.2, ih la.tail lb.tail (by simpa using hl) h3.1]
theorem cmpN_zero {x y : Nat} : cmpN x y = 0 ↔ x = y := by
 unfold cmpN
 split
 ·constructor <;> intro h <;> omega
 ·split
  ·constructor <;> intro h <;> omega
  ·constructor <;> intro h <;> omega
theorem r_Same_ok (x y : Raw) (ha : x.2.length < 1099511627776) (hb : y.2.length < 1099511627776) (la : Lim x.2) (lb : Lim y.2) (hq : ∀ h1, h.le h1 → Q (.bool (decide (x = y))) h1) :
  Runs Try.prog cfg 27 [iV x, iV y] h Q c := by
 obtain ⟨n1, a⟩ := x
 obtain ⟨n2, b⟩ := y
 dsimp only at ha hb la lb
 refine Runs.go Try.func27 rfl rfl (.refl _ _) ?_
 refine W.rseqZ ?_
 simp (disch := first | omega | (simp only [vd]; done) | (simp only [vd]; omega)) only [vs, reduceIte, Nat.reduceEqDiff]
 refine WF.d1 2 rfl (WF.d0 3 rfl (WF.done ?_))
 simp (disch := first | omega | (simp only [vd]; done) | (simp only [vd]; omega)) only [vs, reduceIte, Nat.reduceEqDiff, next_push, next_skip]
 have hle : h.le h.skip.skip := (VH.le_skip _).trans (VH.le_skip _)
 generalize h.skip.skip = H at *
 by_cases h1 : n1 = n2
 ·subst h1
  have e1 : (n1 == n1) = true := by simp
  by_cases h2 : a.length = b.length
  ·skip
   refine W.rseq ?_
   simp (disch := first | omega | (simp only [vd]; done) | (simp only [vd]; omega)) only [vs, reduceIte, Nat.reduceEqDiff, e1]
   refine r_cmp_ok a b (by omega) (by omega) la lb ?_
   have e2 : cmpL a b = cmpN (nv a) (nv b) := by unfold cmpL; rw [if_neg (by omega), if_neg (by omega)]
   rw [e2]
   by_cases h3 : nv a = nv b
   ·have e3 : cmpN (nv a) (nv b) = 0 := cmpN_zero.2 h3
    have := nv_inj la lb h2 h3
    subst this
    rw [decide_eq_true rfl] at hq
    simp (disch := first | omega | (simp only [vd]; done) | (simp only [vd]; omega)) only [vs, reduceIte, Nat.reduceEqDiff, e3]
    exact W.ret ⟨.inr rfl, _, _, _, .refl _ _, ress_t rfl, hq _ hle⟩
   ·have e3 : ¬ (cmpN (nv a) (nv b) = 0) := fun e => h3 (cmpN_zero.1 e)
    rw [decide_eq_false (by rintro ⟨⟩; exact h3 rfl)] at hq
    simp (disch := first | omega | (simp only [vd]; done) | (simp only [vd]; omega)) only [vs, reduceIte, Nat.reduceEqDiff, e3]
    exact W.ret ⟨.inr rfl, _, _, _, .refl _ _, ress_t rfl, hq _ hle⟩
  ·have h2' : ¬ (a.length : Int) = b.length := by omega
   rw [decide_eq_false (by rintro ⟨⟩; exact h2 rfl)] at hq
   refine W.rseq ?_
   simp (disch := first | omega | (simp only [vd]; done) | (simp only [vd]; omega)) only [vs, reduceIte, Nat.reduceEqDiff, e1]
   exact W.ret ⟨.inr rfl, _, _, _, .refl _ _, ress_t rfl, hq _ hle⟩
 ·have e1 : (n1 == n2) = false := by simp [h1]
  rw [decide_eq_false (by rintro ⟨⟩; exact h1 rfl)] at hq
  refine W.rseq ?_
  simp (disch := first | omega | (simp only [vd]; done) | (simp only [vd]; omega)) only [vs, reduceIte, Nat.reduceEqDiff, e1]
  exact W.ret ⟨.inr rfl, _, _, _, .refl _ _, ress_t rfl, hq _ hle⟩
end Go.Proofs.Ytjpknabdmmkobaa
end
