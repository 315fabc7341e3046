/- Part 7 of the proof: Ra3, Ra4, Ra5, Bits, Ra6, Ra7, Ra8. -/
import Derived.Test.YtjpknabdmmkobaaZ6
set_option linter.unusedVariables false
set_option linter.unusedSimpArgs false
section
open Go Go.QM
namespace Go.Proofs.Ytjpknabdmmkobaa
variable {h : VH} {Q : Value → VH → Prop} {c : Cw Q}
theorem ap_own {h : VH} {n0 : Nat} {v : Value} {out : List Nat} {x : Nat} (ho : Own n0 88 1 h v out.length (u32L out)) (hl : out.length < 1099511627776 + 1099511627776 + 1099511627776) (hn0 : n0 ≤ h.next) :
  ∃ v' h', appV cfg 37 v (.slice (some ⟨h.next, 0, none⟩) 1 1) (h.push ⟨88, 1, [.int .u32 (x : Int)]⟩) = some (v', h') ∧ Own n0 88 1 h' v' (out ++ [x]).length (u32L (out ++ [x])) ∧ (∀ g : VH, g.le h → g.next ≤ n0 → g.le h') := by
 obtain ⟨v', h', h1, h2, h3, _⟩ := (ho.mono (VH.le_push h ⟨88, 1, [.int .u32 (x : Int)]⟩)).app (C := cfg) (t := 37) (m := 1) rfl t_Suint32 t_uint32 (rdS_p rfl rfl) (by decide) rfl (by decide) (by omega) (by omega) (by simp only [next_push]; omega)
 refine ⟨v', h', h1, ?_, fun g hg hg2 => h3 g (hg.trans (VH.le_push _ _)) hg2⟩
 have e1 : u32L (out ++ [x]) = u32L out ++ [.int .u32 (x : Int)] := by simp [u32L]
 rw [e1, List.length_append]
 exact h2
theorem nv_one (x : Nat) : nv [x] = x := by simp [nv]
theorem sm_step {N X A B cy x y s : Nat} (hv : N + X * cy = A + B) (hs : cy + x + y = s) : (N + X * (s % 4294967296)) + X * 4294967296 * (s / 4294967296) = (A + X * x) + (B + X * y) := by
 have h2 : X * (s % 4294967296) + X * (4294967296 * (s / 4294967296)) = X * s := by rw [← Nat.mul_add, Nat.mod_add_div]
 have h3 : X * s = X * cy + X * x + X * y := by rw [← hs, Nat.mul_add, Nat.mul_add]
 rw [Nat.mul_assoc]
 omega
theorem r_sum_ok (a b : List Nat) (ha : a.length < 1099511627776) (hb : b.length < 1099511627776) (la : Lim a) (lb : Lim b) (hq : ∀ out h1, h.le h1 → Lim out → out.length ≤ max a.length b.length + 1 → nv out = nv a + nv b → Q (u32S out) h1) :
  Runs Try.prog cfg 79 [u32S a, u32S b] h Q c := by
 refine Runs.go Try.func79 rfl rfl (.refl _ _) ?_
 refine W.rseq ?_
 simp (disch := first | omega | (simp only [vd]; done) | (simp only [vd]; omega)) only [vs, reduceIte, Nat.reduceEqDiff]
 refine W.rseq ?_
 simp (disch := first | omega | (simp only [vd]; done) | (simp only [vd]; omega)) only [vs, reduceIte, Nat.reduceEqDiff]
 refine W.rseq ?_
 simp (disch := first | omega | (simp only [vd]; done) | (simp only [vd]; omega)) only [vs, reduceIte, Nat.reduceEqDiff]
 refine W.seq (W.rseq ?_)
 simp (disch := first | omega | (simp only [vd]; done) | (simp only [vd]; omega)) only [vs, reduceIte, Nat.reduceEqDiff]
 refine W.gen [0, 1, 5, 6, 7] (fun e he => ?_)
 simp only [List.forall_mem_cons, List.not_mem_nil, false_implies, implies_true, and_true, e0_zero, e0_succ, put_some, put_none, reduceIte, Nat.reduceEqDiff] at he
 obtain ⟨e0, e1, e5, e6, e7⟩ := he
 generalize hn : max a.length b.length = n at *
 have hn1 : a.length ≤ n := by omega
 have hn2 : b.length ≤ n := by omega
 refine W.mono (Q := fun x e1 h1 => x = .normal ∧ ∃ (cy : Nat) (out : List Nat), e1 6 = .int .u64 cy ∧ Own h.next 88 1 h1 (e1 5) out.length (u32L out) ∧ h.le h1 ∧ Lim out ∧ out.length = n ∧ cy ≤ 1 ∧ nv out + WB ^ n * cy = nv a + nv b)
  (W.block (W.loop (fun k e h1 => ∃ (i cy : Nat) (out : List Nat), k = n - i ∧ i ≤ n ∧ e 0 = u32S a ∧ e 1 = u32S b ∧ e 7 = .int .i64 i ∧ e 6 = .int .u64 cy ∧ Own h.next 88 1 h1 (e 5) out.length (u32L out) ∧ h.le h1 ∧ Lim out ∧ out.length = i ∧ cy ≤ 1 ∧ nv out + WB ^ i * cy = nv (a.take i) + nv (b.take i)) n ?_ ?_)) ?_
 ·refine ⟨0, 0, [], rfl, Nat.zero_le _, e0, e1, e7, e6, ?_, VH.le_refl _, Lim.nil, rfl, Nat.zero_le _, rfl⟩
  rw [e5]
  exact Own.nil
 ·rintro k e h1 ⟨i, cy, out, rfl, hi, e0, e1, e7, e6, ho, hle, lo, hol, hcy, hv⟩
  by_cases hlt : i < n
  ·refine W.seq (W.mono (Q := fun x e1 h2 => x = .normal ∧ h2 = h1 ∧ e1 0 = u32S a ∧ e1 1 = u32S b ∧ e1 7 = .int .i64 i ∧ e1 6 = .int .u64 cy ∧ e1 5 = e 5) ?_ ?_)
   ·by_cases hia : i < a.length
    ·skip
     refine W.rseq ?_
     simp (disch := first | omega | (simp only [vd]; done) | (simp only [vd]; omega)) only [vs, reduceIte, Nat.reduceEqDiff, e0, e1, e7]
     refine W.cond true (by rfl) (fun _ => ?_) nofun
     refine W.skip ?_
     simp (disch := first | omega | (simp only [vd]; done) | (simp only [vd]; omega)) only [vs, reduceIte, Nat.reduceEqDiff, e0, e1, e7, e6]
    ·skip
     refine W.rseq ?_
     simp (disch := first | omega | (simp only [vd]; done) | (simp only [vd]; omega)) only [vs, reduceIte, Nat.reduceEqDiff, e0, e1, e7]
     refine W.cond true (by rfl) (fun _ => ?_) nofun
     refine W.skip ?_
     simp (disch := first | omega | (simp only [vd]; done) | (simp only [vd]; omega)) only [vs, reduceIte, Nat.reduceEqDiff, e0, e1, e7, e6]
   rintro x e2 h2 ⟨rfl, rfl, e0, e1, e7, e6, e5⟩
   simp (disch := first | omega | (simp only [vd]; done) | (simp only [vd]; omega)) only [vs, reduceIte, Nat.reduceEqDiff]
   have ba := la.getD i
   have bb := lb.getD i
   have hai := nv_take_getD a i
   have hbi := nv_take_getD b i
   refine W.seq (W.block ?_)
   refine W.seq (W.mono (Q := fun x e1 h3 => x = .normal ∧ h3 = h2 ∧ e1 0 = u32S a ∧ e1 1 = u32S b ∧ e1 7 = .int .i64 i ∧ e1 6 = .int .u64 ((cy + a.getD i 0 : Nat) : Int) ∧ e1 5 = e 5) ?_ ?_)
   ·by_cases hia : i < a.length
    ·skip
     refine W.rseq ?_
     simp (disch := first | omega | (simp only [vd]; done) | (simp only [vd]; omega)) only [vs, reduceIte, Nat.reduceEqDiff, e0, e7]
     refine W.cond true (by rfl) (fun _ => ?_) nofun
     refine W.reg ?_
     simp (disch := first | omega | (simp only [vd]; done) | (simp only [vd]; omega)) only [vs, reduceIte, Nat.reduceEqDiff, e0, e1, e6, e7, e5, Int.toNat_natCast, Int.natCast_add]
    ·have hz : a.getD i 0 = 0 := by simp [List.getElem?_eq_none (Nat.le_of_not_lt hia)]
     refine W.rseq ?_
     simp (disch := first | omega | (simp only [vd]; done) | (simp only [vd]; omega)) only [vs, reduceIte, Nat.reduceEqDiff, e0, e7]
     refine W.cond false (by rfl) nofun (fun _ => ?_)
     refine W.skip ?_
     simp (disch := first | omega | (simp only [vd]; done) | (simp only [vd]; omega)) only [vs, reduceIte, Nat.reduceEqDiff, e0, e1, e6, e7, e5, hz, Nat.add_zero]
   rintro x e3 h3 ⟨rfl, rfl, e0, e1, e7, e6, e5⟩
   simp (disch := first | omega | (simp only [vd]; done) | (simp only [vd]; omega)) only [vs, reduceIte, Nat.reduceEqDiff]
   refine W.seq (W.mono (Q := fun x e1 h4 => x = .normal ∧ h4 = h3 ∧ e1 0 = u32S a ∧ e1 1 = u32S b ∧ e1 7 = .int .i64 i ∧ e1 6 = .int .u64 ((cy + a.getD i 0 + b.getD i 0 : Nat) : Int) ∧ e1 5 = e 5) ?_ ?_)
   ·by_cases hib : i < b.length
    ·skip
     refine W.rseq ?_
     simp (disch := first | omega | (simp only [vd]; done) | (simp only [vd]; omega)) only [vs, reduceIte, Nat.reduceEqDiff, e1, e7]
     refine W.cond true (by rfl) (fun _ => ?_) nofun
     refine W.reg ?_
     have hs : ((cy + a.getD i 0 : Nat) : Int) + ((b.getD i 0 : Nat) : Int) = ((cy + a.getD i 0 + b.getD i 0 : Nat) : Int) := by omega
     simp (disch := first | omega | (simp only [vd]; done) | (simp only [vd]; omega)) only [vs, reduceIte, Nat.reduceEqDiff, e0, e1, e6, e7, e5, hs, Int.toNat_natCast]
    ·have hz : b.getD i 0 = 0 := by simp [List.getElem?_eq_none (Nat.le_of_not_lt hib)]
     refine W.rseq ?_
     simp (disch := first | omega | (simp only [vd]; done) | (simp only [vd]; omega)) only [vs, reduceIte, Nat.reduceEqDiff, e1, e7]
     refine W.cond false (by rfl) nofun (fun _ => ?_)
     refine W.skip ?_
     simp (disch := first | omega | (simp only [vd]; done) | (simp only [vd]; omega)) only [vs, reduceIte, Nat.reduceEqDiff, e0, e1, e6, e7, e5, hz, Nat.add_zero]
   rintro x e4 h4 ⟨rfl, rfl, e0, e1, e7, e6, e5⟩
   simp (disch := first | omega | (simp only [vd]; done) | (simp only [vd]; omega)) only [vs, reduceIte, Nat.reduceEqDiff]
   generalize hx : a.getD i 0 = x at *
   generalize hy : b.getD i 0 = y at *
   have hsl : cy + x + y < 18446744073709551616 := by omega
   generalize hs : cy + x + y = s at *
   have hm : (s : Int) % 4294967296 = ((s % 4294967296 : Nat) : Int) := by omega
   obtain ⟨v', h', hap, ho', hle'⟩ := ap_own (h := h4) (x := s % 4294967296) ho (by omega) hle.1
   refine W.rseq ?_
   simp (disch := first | omega | (simp only [vd]; done) | (simp only [vd]; omega)) only [vs, reduceIte, Nat.reduceEqDiff, e5, e6, ho.seen, wrap_u32m, hm, hap, ho'.seen]
   have hd : (s : Int) / 4294967296 = ((s / 4294967296 : Nat) : Int) := by omega
   refine W.reg ?_
   simp (disch := first | omega | (simp only [vd]; done) | (simp only [vd]; omega)) only [vs, reduceIte, Nat.reduceEqDiff, e6, hd]
   refine W.reg ?_
   simp (disch := first | omega | (simp only [vd]; done) | (simp only [vd]; omega)) only [vs, reduceIte, Nat.reduceEqDiff, e7]
   refine ⟨n - (i + 1), by omega, i + 1, s / 4294967296, out ++ [s % 4294967296], rfl, by omega, ?_⟩
   simp (disch := first | omega | (simp only [vd]; done) | (simp only [vd]; omega)) only [vs, reduceIte, Nat.reduceEqDiff, e0, e1, Int.natCast_add, Int.cast_ofNat_Int]
   refine ⟨ho', hle' h hle (Nat.le_refl _), lo.append (Lim.cons (Nat.mod_lt _ (by decide)) Lim.nil), by rw [List.length_append, hol]; rfl, by omega, ?_⟩
   rw [nv_append, hol, hai, hbi, nv_one, Nat.pow_succ]
   exact sm_step hv hs
  ·obtain rfl : i = n := by omega
   refine W.seq (W.rseq ?_)
   simp (disch := first | omega | (simp only [vd]; done) | (simp only [vd]; omega)) only [vs, reduceIte, Nat.reduceEqDiff, e0, e1, e7]
   refine W.cond false (by rfl) nofun (fun _ => W.exit ?_)
   simp (disch := first | omega | (simp only [vd]; done) | (simp only [vd]; omega)) only [vs, reduceIte, Nat.reduceEqDiff]
   refine ⟨cy, out, e6, ho, hle, lo, hol, hcy, ?_⟩
   rw [List.take_of_length_le hn1, List.take_of_length_le hn2] at hv
   exact hv
 rintro x e1 h1 ⟨rfl, cy, out, e6, ho, hle, lo, hol, hcy, hv⟩
 simp (disch := first | omega | (simp only [vd]; done) | (simp only [vd]; omega)) only [vs, reduceIte, Nat.reduceEqDiff]
 obtain ⟨v', h', hap, ho', hle'⟩ := ap_own (h := h1) (x := cy) ho (by omega) hle.1
 refine W.rseq ?_
 simp (disch := first | omega | (simp only [vd]; done) | (simp only [vd]; omega)) only [vs, reduceIte, Nat.reduceEqDiff, e6, ho.seen, hap, ho'.seen]
 refine W.ret ⟨.inr rfl, ?_⟩
 change Fin cfg _ _ _ _
 refine Fin.own 4 rfl ho' fun h3 hx3 _ => ?_
 exact Fin.done (ress_1 rfl rfl) (hq (out ++ [cy]) _ (hx3 _ (hle' h hle (Nat.le_refl _)) (Nat.le_refl _)) (lo.append (Lim.cons (by simp only [WB]; omega) Lim.nil)) (by simp [hol]) (by rw [nv_append, hol, nv_one]; exact hv))
theorem df_step {N X B A bo x y r bo' : Nat} (hv : N + B = A + X * bo) (hr : r + (bo + y) = x + 4294967296 * bo') : (N + X * r) + (B + X * y) = (A + X * x) + X * 4294967296 * bo' := by
 have h1 : X * (r + (bo + y)) = X * (x + 4294967296 * bo') := by rw [hr]
 simp only [Nat.mul_add] at h1
 rw [Nat.mul_assoc]
 omega
theorem df_end {N X B A bo : Nat} (hv : N + B = A + X * bo) (hb : bo ≤ 1) (hN : N < X) (hAB : B ≤ A) : N = A - B := by
 rcases Nat.le_one_iff_eq_zero_or_eq_one.1 hb with rfl | rfl
 ·rw [Nat.mul_zero, Nat.add_zero] at hv; omega
 ·rw [Nat.mul_one] at hv; omega
theorem r_difference_ok (a b : List Nat) (ha : a.length < 1099511627776 + 1099511627776) (hb : b.length < 1099511627776) (la : Lim a) (lb : Lim b) (hbl : b.length ≤ a.length) (hab : nv b ≤ nv a) (hq : ∀ out h1, h.le h1 → Lim out → out.length = a.length → nv out = nv a - nv b → Q (u32S out) h1) :
  Runs Try.prog cfg 80 [u32S a, u32S b] h Q c := by
 refine Runs.go Try.func80 rfl rfl (.refl _ _) ?_
 refine W.rseq ?_
 simp (disch := first | omega | (simp only [vd]; done) | (simp only [vd]; omega)) only [vs, reduceIte, Nat.reduceEqDiff]
 refine W.rseq ?_
 simp (disch := first | omega | (simp only [vd]; done) | (simp only [vd]; omega)) only [vs, reduceIte, Nat.reduceEqDiff]
 refine W.rseq ?_
 simp (disch := first | omega | (simp only [vd]; done) | (simp only [vd]; omega)) only [vs, reduceIte, Nat.reduceEqDiff]
 refine W.seq (W.rseq ?_)
 simp (disch := first | omega | (simp only [vd]; done) | (simp only [vd]; omega)) only [vs, reduceIte, Nat.reduceEqDiff]
 refine W.gen [0, 1, 5, 6, 7] (fun e he => ?_)
 simp only [List.forall_mem_cons, List.not_mem_nil, false_implies, implies_true, and_true, e0_zero, e0_succ, put_some, put_none, reduceIte, Nat.reduceEqDiff] at he
 obtain ⟨e0, e1, e5, e6, e7⟩ := he
 refine W.mono (Q := fun x e1 h1 => x = .normal ∧ ∃ (bo : Nat) (out : List Nat), Own h.next 88 1 h1 (e1 5) out.length (u32L out) ∧ h.le h1 ∧ Lim out ∧ out.length = a.length ∧ bo ≤ 1 ∧ nv out + nv b = nv a + WB ^ a.length * bo)
  (W.block (W.loop (fun k e h1 => ∃ (i bo : Nat) (out : List Nat), k = a.length - i ∧ i ≤ a.length ∧ e 0 = u32S a ∧ e 1 = u32S b ∧ e 7 = .int .i64 i ∧ e 6 = .int .u64 bo ∧ Own h.next 88 1 h1 (e 5) out.length (u32L out) ∧ h.le h1 ∧ Lim out ∧ out.length = i ∧ bo ≤ 1 ∧ nv out + nv (b.take i) = nv (a.take i) + WB ^ i * bo) a.length ?_ ?_)) ?_
 ·refine ⟨0, 0, [], rfl, Nat.zero_le _, e0, e1, e7, e6, ?_, VH.le_refl _, Lim.nil, rfl, Nat.zero_le _, rfl⟩
  rw [e5]
  exact Own.nil
 ·rintro k e h1 ⟨i, bo, out, rfl, hi, e0, e1, e7, e6, ho, hle, lo, hol, hbo, hv⟩
  by_cases hlt : i < a.length
  ·refine W.seq (W.rseq ?_)
   simp (disch := first | omega | (simp only [vd]; done) | (simp only [vd]; omega)) only [vs, reduceIte, Nat.reduceEqDiff, e0, e7]
   refine W.cond true (by rfl) (fun _ => W.skip ?_) nofun
   have ba := la.getD i
   have bb := lb.getD i
   have hai := nv_take_getD a i
   have hbi := nv_take_getD b i
   refine W.seq (W.block ?_)
   refine W.rseq ?_
   simp (disch := first | omega | (simp only [vd]; done) | (simp only [vd]; omega)) only [vs, reduceIte, Nat.reduceEqDiff, e6]
   refine W.seq (W.mono (Q := fun x e1 h3 => x = .normal ∧ h3 = h1 ∧ e1 0 = u32S a ∧ e1 1 = u32S b ∧ e1 7 = .int .i64 i ∧ e1 8 = .int .u64 ((bo + b.getD i 0 : Nat) : Int) ∧ e1 5 = e 5) ?_ ?_)
   ·by_cases hib : i < b.length
    ·skip
     refine W.rseq ?_
     simp (disch := first | omega | (simp only [vd]; done) | (simp only [vd]; omega)) only [vs, reduceIte, Nat.reduceEqDiff, e1, e7]
     refine W.cond true (by rfl) (fun _ => ?_) nofun
     refine W.reg ?_
     simp (disch := first | omega | (simp only [vd]; done) | (simp only [vd]; omega)) only [vs, reduceIte, Nat.reduceEqDiff, e0, e1, e7, Int.toNat_natCast, Int.natCast_add]
    ·have hz : b.getD i 0 = 0 := by simp [List.getElem?_eq_none (Nat.le_of_not_lt hib)]
     refine W.rseq ?_
     simp (disch := first | omega | (simp only [vd]; done) | (simp only [vd]; omega)) only [vs, reduceIte, Nat.reduceEqDiff, e1, e7]
     refine W.cond false (by rfl) nofun (fun _ => ?_)
     refine W.skip ?_
     simp (disch := first | omega | (simp only [vd]; done) | (simp only [vd]; omega)) only [vs, reduceIte, Nat.reduceEqDiff, e0, e1, e7, hz, Nat.add_zero]
   rintro x e3 h3 ⟨rfl, rfl, e0, e1, e7, e8, e5⟩
   simp (disch := first | omega | (simp only [vd]; done) | (simp only [vd]; omega)) only [vs, reduceIte, Nat.reduceEqDiff]
   generalize hx : a.getD i 0 = x at *
   generalize hy : b.getD i 0 = y at *
   obtain ⟨r, hr, hrl⟩ : ∃ r : Nat, IntKind.u32.wrap (IntKind.u64.wrap ((x : Int) - ((bo + y : Nat) : Int))) = (r : Int) ∧ (r < 4294967296 ∧ (x < bo + y → r + (bo + y) = x + 4294967296) ∧ (¬ x < bo + y → r + (bo + y) = x)) := by
    rw [wrap_u64m, wrap_u32m]
    refine ⟨(((x : Int) - ((bo + y : Nat) : Int)) % 18446744073709551616 % 4294967296).toNat, ?_, ?_, ?_, ?_⟩ <;> omega
   obtain ⟨v', h', hap, ho', hle'⟩ := ap_own (h := h3) (x := r) ho (by omega) hle.1
   refine W.rseq ?_
   simp (disch := first | omega | (simp only [vd]; done) | (simp only [vd]; omega)) only [vs, reduceIte, Nat.reduceEqDiff, e0, e5, e7, e8, hx, ho.seen, hr, hap, ho'.seen, Int.toNat_natCast]
   refine W.rseq ?_
   simp (disch := first | omega | (simp only [vd]; done) | (simp only [vd]; omega)) only [vs, reduceIte, Nat.reduceEqDiff]
   by_cases hxy : x < bo + y
   ·skip
    refine W.rseq ?_
    simp (disch := first | omega | (simp only [vd]; done) | (simp only [vd]; omega)) only [vs, reduceIte, Nat.reduceEqDiff, e0, e7, e8, hx, Int.toNat_natCast]
    refine W.cond true (by rfl) (fun _ => ?_) nofun
    refine W.reg ?_
    simp (disch := first | omega | (simp only [vd]; done) | (simp only [vd]; omega)) only [vs, reduceIte, Nat.reduceEqDiff]
    refine W.reg ?_
    simp (disch := first | omega | (simp only [vd]; done) | (simp only [vd]; omega)) only [vs, reduceIte, Nat.reduceEqDiff, e7]
    refine ⟨a.length - (i + 1), by omega, i + 1, 1, out ++ [r], rfl, by omega, ?_⟩
    simp (disch := first | omega | (simp only [vd]; done) | (simp only [vd]; omega)) only [vs, reduceIte, Nat.reduceEqDiff, e0, e1, Int.natCast_add, Int.cast_ofNat_Int]
    refine ⟨ho', hle' h hle (Nat.le_refl _), lo.append (Lim.cons hrl.1 Lim.nil), by rw [List.length_append, hol]; rfl, by omega, ?_⟩
    rw [nv_append, hol, hai, hbi, nv_one, Nat.pow_succ]
    have hfin := df_step (x := x) (y := y) (r := r) (bo' := 1) hv (by have := hrl.2.1 hxy; omega)
    rw [Nat.mul_one] at hfin
    exact hfin
   ·skip
    refine W.rseq ?_
    simp (disch := first | omega | (simp only [vd]; done) | (simp only [vd]; omega)) only [vs, reduceIte, Nat.reduceEqDiff, e0, e7, e8, hx, Int.toNat_natCast]
    refine W.cond false (by rfl) nofun (fun _ => ?_)
    refine W.skip ?_
    simp (disch := first | omega | (simp only [vd]; done) | (simp only [vd]; omega)) only [vs, reduceIte, Nat.reduceEqDiff]
    refine W.reg ?_
    simp (disch := first | omega | (simp only [vd]; done) | (simp only [vd]; omega)) only [vs, reduceIte, Nat.reduceEqDiff, e7]
    refine ⟨a.length - (i + 1), by omega, i + 1, 0, out ++ [r], rfl, by omega, ?_⟩
    simp (disch := first | omega | (simp only [vd]; done) | (simp only [vd]; omega)) only [vs, reduceIte, Nat.reduceEqDiff, e0, e1, Int.natCast_add, Int.cast_ofNat_Int]
    refine ⟨ho', hle' h hle (Nat.le_refl _), lo.append (Lim.cons hrl.1 Lim.nil), by rw [List.length_append, hol]; rfl, by omega, ?_⟩
    rw [nv_append, hol, hai, hbi, nv_one, Nat.pow_succ]
    exact df_step (x := x) (y := y) (r := r) (bo' := 0) hv (by have := hrl.2.2 hxy; omega)
  ·obtain rfl : i = a.length := by omega
   refine W.seq (W.rseq ?_)
   simp (disch := first | omega | (simp only [vd]; done) | (simp only [vd]; omega)) only [vs, reduceIte, Nat.reduceEqDiff, e0, e7]
   refine W.cond false (by rfl) nofun (fun _ => W.exit ?_)
   simp (disch := first | omega | (simp only [vd]; done) | (simp only [vd]; omega)) only [vs, reduceIte, Nat.reduceEqDiff]
   refine ⟨bo, out, ho, hle, lo, hol, hbo, ?_⟩
   rw [List.take_of_length_le (Nat.le_refl _), List.take_of_length_le hbl] at hv
   exact hv
 rintro x e1 h1 ⟨rfl, bo, out, ho, hle, lo, hol, hbo, hv⟩
 simp (disch := first | omega | (simp only [vd]; done) | (simp only [vd]; omega)) only [vs, reduceIte, Nat.reduceEqDiff]
 refine W.rseq ?_
 simp (disch := first | omega | (simp only [vd]; done) | (simp only [vd]; omega)) only [vs, reduceIte, Nat.reduceEqDiff, ho.seen]
 refine W.ret ⟨.inr rfl, ?_⟩
 change Fin cfg _ _ _ _
 refine Fin.own 4 rfl ho fun h3 hx3 _ => ?_
 have hN := nv_lt lo
 rw [hol] at hN
 exact Fin.done (ress_1 rfl rfl) (hq out _ (hx3 _ hle (Nat.le_refl _)) lo hol (df_end hv hbo hN hab))
theorem r_Add_ok (n1 n2 : Bool) (a b : List Nat) (ha : a.length < 1099511627776) (hb : b.length < 1099511627776) (la : Lim a) (lb : Lim b) (hq : ∀ h1, h.le h1 → Q (zV (sg n1 (nv a) + sg n2 (nv b))) h1) :
  Runs Try.prog cfg 40 [.agg #[.bool n1, u32S a], .agg #[.bool n2, u32S b]] h Q c := by
 have hdx := trimL_len a
 have hdy := trimL_len b
 rw [trimL_dig la] at hdx
 rw [trimL_dig lb] at hdy
 refine Runs.go Try.func40 rfl rfl (.refl _ _) ?_
 refine W.rseqZ ?_
 simp (disch := first | omega | (simp only [vd]; done) | (simp only [vd]; omega)) only [vs, reduceIte, Nat.reduceEqDiff, Value.cells]
 refine WF.d2 2 rfl (WF.d1 3 rfl (WF.done ?_))
 try simp (disch := first | omega | (simp only [vd]; done) | (simp only [vd]; omega)) only [vs, reduceIte, Nat.reduceEqDiff, next_push, next_skip]
 have hle : h.le (h.skip.skip.push ⟨39, 0, [.bool false, .slice none 0 0]⟩) := (VH.le_skip _).trans ((VH.le_skip _).trans (VH.le_push _ _))
 have hR : (h.skip.skip.push ⟨39, 0, [.bool false, .slice none 0 0]⟩).blk (h.next + 1 + 1) = some ⟨39, 0, [.bool false, .slice none 0 0]⟩ := blk_push
 have hn : h.next + 1 + 1 < (h.skip.skip.push ⟨39, 0, [.bool false, .slice none 0 0]⟩).next := Nat.lt_succ_self _
 have hhr : h.next ≤ h.next + 1 + 1 := by omega
 generalize h.skip.skip.push ⟨39, 0, [.bool false, .slice none 0 0]⟩ = H at *
 generalize h.next + 1 + 1 = r at *
 refine W.dseq (fun _ => True) (by rfl) ?_
 simp (disch := first | omega | (simp only [vd]; done) | (simp only [vd]; omega)) only [vs, reduceIte, Nat.reduceEqDiff]
 refine r_trim_ok a (by omega) fun h1 hx1 => ?_
 rw [trimL_dig la]
 simp (disch := first | omega | (simp only [vd]; done) | (simp only [vd]; omega)) only [vs, reduceIte, Nat.reduceEqDiff, gr_le hx1]
 refine r_trim_ok b (by omega) fun h2 hx2 => ?_
 rw [trimL_dig lb]
 simp (disch := first | omega | (simp only [vd]; done) | (simp only [vd]; omega)) only [vs, reduceIte, Nat.reduceEqDiff, gr_le hx2]
 have hx12 := hx1.trans hx2
 by_cases hs : n1 = n2
 ·subst hs
  have e1 : (n1 == n1) = true := by simp
  refine W.seq (W.rseq ?_)
  simp (disch := first | omega | (simp only [vd]; done) | (simp only [vd]; omega)) only [vs, reduceIte, Nat.reduceEqDiff, e1]
  refine W.cond true (by rfl) (fun _ => ?_) nofun
  refine W.dseq (fun x => x ≠ r) (by rfl) ?_
  simp (disch := first | omega | (simp only [vd]; done) | (simp only [vd]; omega)) only [vs, reduceIte, Nat.reduceEqDiff]
  refine r_sum_ok _ _ (by omega) (by omega) (Lim_dig _) (Lim_dig _) fun out h3 hx3 lo hol hv => ?_
  simp (disch := first | omega | (simp only [vd]; done) | (simp only [vd]; omega)) only [vs, reduceIte, Nat.reduceEqDiff, gr_le hx3]
  refine r_Make_ok n1 out (by omega) lo fun h4 hx4 => ?_
  rw [hv, nv_dig, nv_dig, zV]
  simp (disch := first | omega | (simp only [vd]; done) | (simp only [vd]; omega)) only [vs, reduceIte, Nat.reduceEqDiff, gr_le hx4]
  have hz : sg n1 (nv a + nv b) = sg n1 (nv a) + sg n1 (nv b) := by cases n1 <;> simp [sg] <;> omega
  rw [hz]
  obtain ⟨h5, k1, k2, k3, k4⟩ := fin_z (z := sg n1 (nv a) + sg n1 (nv b)) hle hR hn hhr (hx12.trans (hx3.trans hx4))
  simp (disch := first | omega | (simp only [vd]; done) | (simp only [vd]; omega)) only [vs, reduceIte, Nat.reduceEqDiff, k1]
  refine ⟨k2 _ (by have := hx12.1; omega), W.ret ⟨.inr rfl, _, _, _, .refl _ _, ress_c rfl ?_, hq _ k4⟩⟩
  simp (disch := first | omega | (simp only [vd]; done) | (simp only [vd]; omega)) only [vs, reduceIte, Nat.reduceEqDiff, k3]
 ·have e1 : (n1 == n2) = false := by simp [hs]
  have hs2 : n2 = !n1 := by cases n1 <;> cases n2 <;> simp_all
  subst hs2
  refine W.seq (W.rseq ?_)
  simp (disch := first | omega | (simp only [vd]; done) | (simp only [vd]; omega)) only [vs, reduceIte, Nat.reduceEqDiff, e1]
  refine W.cond false (by rfl) nofun (fun _ => ?_)
  refine W.skip ?_
  simp (disch := first | omega | (simp only [vd]; done) | (simp only [vd]; omega)) only [vs, reduceIte, Nat.reduceEqDiff]
  by_cases hc : nv b ≤ nv a
  ·refine W.seq (W.rseq ?_)
   simp (disch := first | omega | (simp only [vd]; done) | (simp only [vd]; omega)) only [vs, reduceIte, Nat.reduceEqDiff]
   refine r_cmp_ok _ _ (by omega) (by omega) (Lim_dig _) (Lim_dig _) ?_
   rw [cmpL_dig]
   have hcv : 0 ≤ cmpN (nv a) (nv b) := by unfold cmpN; rw [if_neg (by omega)]; split <;> omega
   simp (disch := first | omega | (simp only [vd]; done) | (simp only [vd]; omega)) only [vs, reduceIte, Nat.reduceEqDiff]
   refine W.cond true (by rfl) (fun _ => ?_) nofun
   refine W.dseq (fun x => x ≠ r) (by rfl) ?_
   simp (disch := first | omega | (simp only [vd]; done) | (simp only [vd]; omega)) only [vs, reduceIte, Nat.reduceEqDiff]
   refine r_difference_ok _ _ (by omega) (by omega) (Lim_dig _) (Lim_dig _) (dig_mono hc) (by rw [nv_dig, nv_dig]; exact hc) fun out h3 hx3 lo hol hv => ?_
   simp (disch := first | omega | (simp only [vd]; done) | (simp only [vd]; omega)) only [vs, reduceIte, Nat.reduceEqDiff, gr_le hx3]
   refine r_Make_ok n1 out (by omega) lo fun h4 hx4 => ?_
   rw [hv, nv_dig, nv_dig, zV]
   simp (disch := first | omega | (simp only [vd]; done) | (simp only [vd]; omega)) only [vs, reduceIte, Nat.reduceEqDiff, gr_le hx4]
   have hz : sg n1 (nv a - nv b) = sg n1 (nv a) + sg (!n1) (nv b) := by cases n1 <;> simp [sg] <;> omega
   rw [hz]
   obtain ⟨h5, k1, k2, k3, k4⟩ := fin_z (z := sg n1 (nv a) + sg (!n1) (nv b)) hle hR hn hhr (hx12.trans (hx3.trans hx4))
   simp (disch := first | omega | (simp only [vd]; done) | (simp only [vd]; omega)) only [vs, reduceIte, Nat.reduceEqDiff, k1]
   refine ⟨k2 _ (by have := hx12.1; omega), W.ret ⟨.inr rfl, _, _, _, .refl _ _, ress_c rfl ?_, hq _ k4⟩⟩
   simp (disch := first | omega | (simp only [vd]; done) | (simp only [vd]; omega)) only [vs, reduceIte, Nat.reduceEqDiff, k3]
  ·refine W.seq (W.rseq ?_)
   simp (disch := first | omega | (simp only [vd]; done) | (simp only [vd]; omega)) only [vs, reduceIte, Nat.reduceEqDiff]
   refine r_cmp_ok _ _ (by omega) (by omega) (Lim_dig _) (Lim_dig _) ?_
   rw [cmpL_dig]
   have hcv : ¬ (0 ≤ cmpN (nv a) (nv b)) := by unfold cmpN; rw [if_pos (by omega)]; omega
   simp (disch := first | omega | (simp only [vd]; done) | (simp only [vd]; omega)) only [vs, reduceIte, Nat.reduceEqDiff]
   refine W.cond false (by rfl) nofun (fun _ => ?_)
   refine W.skip ?_
   simp (disch := first | omega | (simp only [vd]; done) | (simp only [vd]; omega)) only [vs, reduceIte, Nat.reduceEqDiff]
   refine W.dseq (fun x => x ≠ r) (by rfl) ?_
   simp (disch := first | omega | (simp only [vd]; done) | (simp only [vd]; omega)) only [vs, reduceIte, Nat.reduceEqDiff]
   refine r_difference_ok _ _ (by omega) (by omega) (Lim_dig _) (Lim_dig _) (dig_mono (by omega)) (by rw [nv_dig, nv_dig]; omega) fun out h3 hx3 lo hol hv => ?_
   simp (disch := first | omega | (simp only [vd]; done) | (simp only [vd]; omega)) only [vs, reduceIte, Nat.reduceEqDiff, gr_le hx3]
   refine r_Make_ok (!n1) out (by omega) lo fun h4 hx4 => ?_
   rw [hv, nv_dig, nv_dig, zV]
   simp (disch := first | omega | (simp only [vd]; done) | (simp only [vd]; omega)) only [vs, reduceIte, Nat.reduceEqDiff, gr_le hx4]
   have hz : sg (!n1) (nv b - nv a) = sg n1 (nv a) + sg (!n1) (nv b) := by cases n1 <;> simp [sg] <;> omega
   rw [hz]
   obtain ⟨h5, k1, k2, k3, k4⟩ := fin_z (z := sg n1 (nv a) + sg (!n1) (nv b)) hle hR hn hhr (hx12.trans (hx3.trans hx4))
   simp (disch := first | omega | (simp only [vd]; done) | (simp only [vd]; omega)) only [vs, reduceIte, Nat.reduceEqDiff, k1]
   refine ⟨k2 _ (by have := hx12.1; omega), W.ret ⟨.inr rfl, _, _, _, .refl _ _, ress_c rfl ?_, hq _ k4⟩⟩
   simp (disch := first | omega | (simp only [vd]; done) | (simp only [vd]; omega)) only [vs, reduceIte, Nat.reduceEqDiff, k3]
theorem r_Sub_ok (n1 n2 : Bool) (a b : List Nat) (ha : a.length < 1099511627776) (hb : b.length < 1099511627776) (la : Lim a) (lb : Lim b) (hq : ∀ h1, h.le h1 → Q (zV (sg n1 (nv a) - sg n2 (nv b))) h1) :
  Runs Try.prog cfg 26 [.agg #[.bool n1, u32S a], .agg #[.bool n2, u32S b]] h Q c := by
 have hdy := trimL_len b
 rw [trimL_dig lb] at hdy
 refine Runs.go Try.func26 rfl rfl (.refl _ _) ?_
 refine W.rseqZ ?_
 simp (disch := first | omega | (simp only [vd]; done) | (simp only [vd]; omega)) only [vs, reduceIte, Nat.reduceEqDiff, Value.cells]
 refine WF.d2 2 rfl (WF.d1 3 rfl (WF.done ?_))
 try simp (disch := first | omega | (simp only [vd]; done) | (simp only [vd]; omega)) only [vs, reduceIte, Nat.reduceEqDiff, next_push, next_skip]
 have hle : h.le (h.skip.skip.push ⟨39, 0, [.bool false, .slice none 0 0]⟩) := (VH.le_skip _).trans ((VH.le_skip _).trans (VH.le_push _ _))
 have hR : (h.skip.skip.push ⟨39, 0, [.bool false, .slice none 0 0]⟩).blk (h.next + 1 + 1) = some ⟨39, 0, [.bool false, .slice none 0 0]⟩ := blk_push
 have hn : h.next + 1 + 1 < (h.skip.skip.push ⟨39, 0, [.bool false, .slice none 0 0]⟩).next := Nat.lt_succ_self _
 have hhr : h.next ≤ h.next + 1 + 1 := by omega
 generalize h.skip.skip.push ⟨39, 0, [.bool false, .slice none 0 0]⟩ = H at *
 generalize h.next + 1 + 1 = r at *
 refine W.dseq (fun x => x ≠ r) (by rfl) ?_
 simp (disch := first | omega | (simp only [vd]; done) | (simp only [vd]; omega)) only [vs, reduceIte, Nat.reduceEqDiff]
 refine r_Neg_ok n2 b hb lb fun h1 hx1 => ?_
 rw [zV]
 simp (disch := first | omega | (simp only [vd]; done) | (simp only [vd]; omega)) only [vs, reduceIte, Nat.reduceEqDiff, gr_le hx1]
 refine r_Add_ok n1 _ a _ ha (by rw [Int.natAbs_neg, sg_nat]; omega) la (Lim_dig _) fun h2 hx2 => ?_
 have hz : sg n1 (nv a) + sg (decide (-sg n2 (nv b) < 0)) (nv (dig (-sg n2 (nv b)).natAbs)) = sg n1 (nv a) - sg n2 (nv b) := by
  rw [nv_dig, Int.natAbs_neg, sg_nat]
  by_cases h0 : nv b = 0
  ·simp [h0, sg]
  ·cases n2 <;> simp [sg] <;> omega
 rw [hz, zV]
 simp (disch := first | omega | (simp only [vd]; done) | (simp only [vd]; omega)) only [vs, reduceIte, Nat.reduceEqDiff, gr_le hx2]
 obtain ⟨h5, k1, k2, k3, k4⟩ := fin_z (z := sg n1 (nv a) - sg n2 (nv b)) hle hR hn hhr (hx1.trans hx2)
 simp (disch := first | omega | (simp only [vd]; done) | (simp only [vd]; omega)) only [vs, reduceIte, Nat.reduceEqDiff, k1]
 refine ⟨k2 _ (Nat.le_refl _), W.ret ⟨.inr rfl, _, _, _, .refl _ _, ress_c rfl ?_, hq _ k4⟩⟩
 simp (disch := first | omega | (simp only [vd]; done) | (simp only [vd]; omega)) only [vs, reduceIte, Nat.reduceEqDiff, k3]
end Go.Proofs.Ytjpknabdmmkobaa
end

section
open Go Go.QM
namespace Go.Proofs.Ytjpknabdmmkobaa
variable {h : VH} {Q : Value → VH → Prop} {c : Cw Q}
theorem r_Mul_ok (n1 n2 : Bool) (a b : List Nat) (ha : a.length < 1099511627776) (hb : b.length < 1099511627776) (la : Lim a) (lb : Lim b) (hq : ∀ h1, h.le h1 → Q (zV (sg n1 (nv a) * sg n2 (nv b))) h1) :
  Runs Try.prog cfg 25 [.agg #[.bool n1, u32S a], .agg #[.bool n2, u32S b]] h Q c := by
 refine Runs.go Try.func25 rfl rfl (.refl _ _) ?_
 refine W.rseqZ ?_
 simp (disch := first | omega | (simp only [vd]; done) | (simp only [vd]; omega)) only [vs, reduceIte, Nat.reduceEqDiff, Value.cells]
 refine WF.d2 2 rfl (WF.d1 3 rfl (WF.done ?_))
 try simp (disch := first | omega | (simp only [vd]; done) | (simp only [vd]; omega)) only [vs, reduceIte, Nat.reduceEqDiff, next_push, next_skip]
 have hle : h.le (h.skip.skip.push ⟨39, 0, [.bool false, .slice none 0 0]⟩) := (VH.le_skip _).trans ((VH.le_skip _).trans (VH.le_push _ _))
 have hR : (h.skip.skip.push ⟨39, 0, [.bool false, .slice none 0 0]⟩).blk (h.next + 1 + 1) = some ⟨39, 0, [.bool false, .slice none 0 0]⟩ := blk_push
 have hn : h.next + 1 + 1 < (h.skip.skip.push ⟨39, 0, [.bool false, .slice none 0 0]⟩).next := Nat.lt_succ_self _
 have hhr : h.next ≤ h.next + 1 + 1 := by omega
 generalize h.skip.skip.push ⟨39, 0, [.bool false, .slice none 0 0]⟩ = H at *
 generalize h.next + 1 + 1 = r at *
 refine W.gen [2, 3, 4] (fun e he => ?_)
 simp only [List.forall_mem_cons, List.not_mem_nil, false_implies, implies_true, and_true, e0_zero, e0_succ, put_some, put_none, reduceIte, Nat.reduceEqDiff] at he
 obtain ⟨e2, e3, e4⟩ := he
 have en : ((a.length : Int) + b.length).toNat = a.length + b.length := by omega
 refine W.rseq ?_
 simp (disch := first | omega | (simp only [vd]; done) | (simp only [vd]; omega)) only [vs, reduceIte, Nat.reduceEqDiff, e2, e3, en]
 refine W.gen [2, 3, 4, 5] (fun e he => ?_)
 simp only [List.forall_mem_cons, List.not_mem_nil, false_implies, implies_true, and_true, e0_zero, e0_succ, put_some, put_none, reduceIte, Nat.reduceEqDiff, e2, e3, e4] at he
 obtain ⟨e2, e3, e4, e5⟩ := he
 refine W.seqZ (W.rseq ?_)
 simp (disch := first | omega | (simp only [vd]; done) | (simp only [vd]; omega)) only [vs, reduceIte, Nat.reduceEqDiff, e2]
 refine W.range (fun i e h' => ∃ (out : List Nat), e 2 = fP 0 #[.bool n1, u32S a] ∧ e 3 = fP 0 #[.bool n2, u32S b] ∧ e 4 = .pointer (some ⟨r, 0, none⟩) ∧ e 20 = u32S a ∧ e 5 = .slice (some ⟨H.next, 0, none⟩) (a.length + b.length) (a.length + b.length) ∧
  h' = H.push ⟨88, 1, u32L out⟩ ∧ out.length = a.length + b.length ∧ Lim out ∧ (∀ k, i + b.length ≤ k → out.getD k 0 = 0) ∧ nv out = nv (a.take i) * nv b) a.length (by omega) rfl rfl rfl ?_ ?_ ?_
 ·refine ⟨List.replicate (a.length + b.length) 0, e2, e3, e4, rfl, e5, rfl, by simp, Lim.rep _, fun k hk => ?_, by simp [nv_rep, nv]⟩
  simp [List.getElem?_replicate]
  split <;> rfl
 ·rintro i e h' hlt ei en' ⟨out, e2, e3, e4, e20, e5, rfl, ho, lo, hz, hv⟩
  refine W.block ?_
  have bx := la.getD i
  generalize hx : a.getD i 0 = x at *
  refine W.rseq ?_
  simp (disch := first | omega | (simp only [vd]; done) | (simp only [vd]; omega)) only [vs, reduceIte, Nat.reduceEqDiff, ei, e20, hx, Int.toNat_natCast]
  refine W.rseq ?_
  simp (disch := first | omega | (simp only [vd]; done) | (simp only [vd]; omega)) only [vs, reduceIte, Nat.reduceEqDiff]
  refine W.seq (W.rseq ?_)
  simp (disch := first | omega | (simp only [vd]; done) | (simp only [vd]; omega)) only [vs, reduceIte, Nat.reduceEqDiff, e3]
  refine W.range (fun j e h' => ∃ (cy : Nat) (out : List Nat), e 2 = fP 0 #[.bool n1, u32S a] ∧ e 3 = fP 0 #[.bool n2, u32S b] ∧ e 4 = .pointer (some ⟨r, 0, none⟩) ∧ e 20 = u32S a ∧ e 5 = .slice (some ⟨H.next, 0, none⟩) (a.length + b.length) (a.length + b.length) ∧
   e 21 = .int .i64 a.length ∧ e 22 = .int .i64 i ∧ e 6 = .int .i64 i ∧ e 7 = .int .u32 x ∧ e 8 = .int .u64 cy ∧ e 28 = u32S b ∧
   h' = H.push ⟨88, 1, u32L out⟩ ∧ out.length = a.length + b.length ∧ Lim out ∧ cy < 4294967296 ∧ (∀ k, i + b.length ≤ k → out.getD k 0 = 0) ∧ nv out + WB ^ (i + j) * cy = nv (a.take i) * nv b + WB ^ i * (x * nv (b.take j))) b.length (by omega) rfl rfl rfl ?_ ?_ ?_
  ·refine ⟨0, out, ?_⟩
   simp (disch := first | omega | (simp only [vd]; done) | (simp only [vd]; omega)) only [vs, reduceIte, Nat.reduceEqDiff, e2, e3, e4, e5, e20, en', ei]
   exact ⟨rfl, ho, lo, by omega, hz, by simp [nv, hv]⟩
  ·rintro j e h' hlj ej en2 ⟨cy, out, e2, e3, e4, e20, e5, e21, e22, e6, e7, e8, e28, rfl, ho, lo, hcy, hz, hv⟩
   refine W.block ?_
   have by' := lb.getD j
   have bo := lo.getD (i + j)
   have eij : ((i : Int) + j).toNat = i + j := by omega
   generalize hy : b.getD j 0 = y at *
   generalize hoo : out.getD (i + j) 0 = o at *
   obtain ⟨hp1, hp2⟩ := mul_lt_words bx by'
   refine W.rseq ?_
   simp (disch := first | omega | (simp only [vd]; done) | (simp only [vd]; omega)) only [vs, reduceIte, Nat.reduceEqDiff, ej, e28, hy, Int.toNat_natCast]
   refine W.rseq ?_
   simp (disch := first | omega | (simp only [vd]; done) | (simp only [vd]; omega)) only [vs, reduceIte, Nat.reduceEqDiff, e5, e6, e7, e8, hoo, eij]
   refine W.rseq ?_
   simp (disch := first | omega | (simp only [vd]; done) | (simp only [vd]; omega)) only [vs, reduceIte, Nat.reduceEqDiff, e5, e6, eij, wrap_u32m]
   refine W.reg ?_
   simp (disch := first | omega | (simp only [vd]; done) | (simp only [vd]; omega)) only [vs, reduceIte, Nat.reduceEqDiff]
   have hp3 : (x : Int) * y = ((x * y : Nat) : Int) := by simp
   rw [hp3] at hp1 hp2 ⊢
   generalize hxy : x * y = p at *
   have es : (((cy : Int) + (p + o)) % 4294967296).toNat = (cy + (p + o)) % 4294967296 := by omega
   have es2 : ((cy : Int) + (p + o)) / 4294967296 = (((cy + (p + o)) / 4294967296 : Nat) : Int) := by omega
   refine ⟨ej, en2, (cy + (p + o)) / 4294967296, out.set (i + j) ((cy + (p + o)) % 4294967296), ?_⟩
   simp (disch := first | omega | (simp only [vd]; done) | (simp only [vd]; omega)) only [vs, reduceIte, Nat.reduceEqDiff, e2, e3, e4, e5, e20, e21, e22, e6, e7, e28, es, es2, ho, List.length_set]
   refine ⟨lo.set (Nat.mod_lt _ (by decide)), by omega, fun k hk => by rw [getDL_set_ne (by omega)]; exact hz k hk, ?_⟩
   have h1 := nv_set (l := out) (i := i + j) (by omega) ((cy + (p + o)) % 4294967296)
   rw [hoo] at h1
   have h2 := mulStep (x := x) (y := y) (cy := cy) (o := o) (s := cy + (p + o)) (by rw [hxy]) h1 hv
   rw [show i + (j + 1) = (i + j) + 1 by omega, Nat.pow_succ]
   refine h2.trans ?_
   rw [nv_take_getD, hy, Nat.mul_add, Nat.mul_add, Nat.pow_add, Nat.add_assoc]
   congr 2
   rw [Nat.mul_assoc, ← Nat.mul_assoc x, Nat.mul_comm x (WB ^ j), Nat.mul_assoc]
  ·rintro e h' ej ⟨cy, out, e2, e3, e4, e20, e5, e21, e22, e6, e7, e8, e28, rfl, ho, lo, hcy, hz, hv⟩
   simp (disch := first | omega | (simp only [vd]; done) | (simp only [vd]; omega)) only [vs, reduceIte, Nat.reduceEqDiff]
   have eij : ((i : Int) + b.length).toNat = i + b.length := by omega
   refine W.reg ?_
   simp (disch := first | omega | (simp only [vd]; done) | (simp only [vd]; omega)) only [vs, reduceIte, Nat.reduceEqDiff, e3, e5, e6, e8, eij, Int.toNat_natCast]
   refine ⟨e22, e21, out.set (i + b.length) cy, ?_⟩
   simp (disch := first | omega | (simp only [vd]; done) | (simp only [vd]; omega)) only [vs, reduceIte, Nat.reduceEqDiff, e2, e3, e4, e5, e20, ho, List.length_set]
   refine ⟨lo.set hcy, fun k hk => by rw [getDL_set_ne (by omega)]; exact hz k (by omega), ?_⟩
   have h1 := nv_set (l := out) (i := i + b.length) (by omega) cy
   rw [hz _ (Nat.le_refl _), Nat.mul_zero, Nat.add_zero] at h1
   rw [List.take_of_length_le (Nat.le_refl _)] at hv
   rw [h1, hv, nv_take_getD a, hx, Nat.add_mul, Nat.mul_assoc]
 ·rintro e h' ei ⟨out, e2, e3, e4, e20, e5, rfl, ho, lo, hz, hv⟩
  simp (disch := first | omega | (simp only [vd]; done) | (simp only [vd]; omega)) only [vs, reduceIte, Nat.reduceEqDiff]
  refine WF.one 5 H.next rfl blk_push (WF.done ?_)
  simp (disch := first | omega | (simp only [vd]; done) | (simp only [vd]; omega)) only [vs, reduceIte, Nat.reduceEqDiff, e5]
  rw [List.take_of_length_le (Nat.le_refl _)] at hv
  refine W.rseq ?_
  simp (disch := first | omega | (simp only [vd]; done) | (simp only [vd]; omega)) only [vs, reduceIte, Nat.reduceEqDiff, e2, e3]
  refine r_Make_ok (n1 != n2) out (by omega) lo fun h4 hx4 => ?_
  have hz : sg (n1 != n2) (nv a * nv b) = sg n1 (nv a) * sg n2 (nv b) := by
   cases n1 <;> cases n2 <;> simp [sg, Int.neg_mul, Int.mul_neg]
  rw [hv, hz, zV]
  obtain ⟨h5, k1, k2, k3, k4⟩ := fin_z (z := sg n1 (nv a) * sg n2 (nv b)) hle hR hn hhr ((VH.le_skip _).trans hx4)
  simp (disch := first | omega | (simp only [vd]; done) | (simp only [vd]; omega)) only [vs, reduceIte, Nat.reduceEqDiff, e4, k1]
  refine W.ret ⟨.inr rfl, _, _, _, .refl _ _, ress_c rfl ?_, hq _ k4⟩
  simp (disch := first | omega | (simp only [vd]; done) | (simp only [vd]; omega)) only [vs, reduceIte, Nat.reduceEqDiff, e4, k3]
end Go.Proofs.Ytjpknabdmmkobaa
end

section
open Go Go.QM
namespace Go.Proofs.Ytjpknabdmmkobaa
variable {h : VH} {Q : Value → VH → Prop} {c : Cw Q}
section
variable {C : Cfg} {t : TypeId} {k' : IntKind} {a : Int}
theorem b_shl1w : binV C .shl t (.int .u32 a) (.int k' 1) = some (.int .u32 (IntKind.u32.wrap (a * 2))) := by
 simp only [binV]
 rw [if_neg (by omega)]
 have : (2 : Int) ^ (min (1 : Int).toNat IntKind.u32.bits) = 2 := by decide
 rw [this]
theorem b_shr31w : binV C .shr t (.int .u32 a) (.int k' 31) = some (.int .u32 (a / 2147483648)) := by
 simp only [binV]
 rw [if_neg (by omega)]
 have : (2 : Int) ^ (min (31 : Int).toNat IntKind.u32.bits) = 2147483648 := by decide
 rw [this, Int.fdiv_eq_ediv_of_nonneg _ (by decide)]
theorem b_shrw {n : Nat} (hn : n < 32) : binV C .shr t (.int .u32 a) (.int k' (n : Int)) = some (.int .u32 (a / 2 ^ n)) := by
 simp only [binV]
 rw [if_neg (by omega)]
 have : min ((n : Int)).toNat IntKind.u32.bits = n := by simp [IntKind.bits]; omega
 rw [this, Int.fdiv_eq_ediv_of_nonneg _ (by exact_mod_cast Nat.zero_le (2 ^ n))]
theorem b_shlw {n : Nat} (hn : n < 32) : binV C .shl t (.int .u32 a) (.int k' (n : Int)) = some (.int .u32 (IntKind.u32.wrap (a * 2 ^ n))) := by
 simp only [binV]
 rw [if_neg (by omega)]
 have : min ((n : Int)).toNat IntKind.u32.bits = n := by simp [IntKind.bits]; omega
 rw [this]
theorem b_and1w {x : Nat} (hx : x < 4294967296) : binV C .and t (.int .u32 (x : Int)) (.int .u32 1) = some (.int .u32 ((x % 2 : Nat) : Int)) := by
 have h1 : x &&& 1 = x % 2 := Nat.and_two_pow_sub_one_eq_mod x 1
 simp only [binV, if_true, Option.some.injEq, Value.int.injEq, true_and]
 have : (BitVec.ofInt IntKind.u32.bits (x : Int) &&& BitVec.ofInt IntKind.u32.bits 1).toNat = x % 2 := by
  show (BitVec.ofInt 32 (x : Int) &&& BitVec.ofInt 32 1).toNat = _
  rw [BitVec.toNat_and, BitVec.toNat_ofInt, BitVec.toNat_ofInt, ← h1]
  congr 1 <;> omega
 rw [this, wrap_u32 (by omega) (by omega)]
theorem b_orw {x y n : Nat} (hx : x < 4294967296) (hy : y < 2 ^ n) (hn : n ≤ 32) (hm : x % 2 ^ n = 0) (hs : x + y < 4294967296) : binV C .or t (.int .u32 (x : Int)) (.int .u32 (y : Int)) = some (.int .u32 ((x + y : Nat) : Int)) := by
 have h2 : 2 ^ n ≤ 2 ^ 32 := Nat.pow_le_pow_right (by decide) hn
 rw [b_oru32 hx (by omega)]
 have : x ||| y = x + y := b_or_n (n := n) hy hm
 rw [this]
end
theorem r_double_ok (m : List Nat) (bit : Nat) (hm : m.length < 1099511627776 + 1099511627776) (lm : Lim m) (hb : bit ≤ 1) (hq : ∀ out h1, h.le h1 → Lim out → out.length = m.length + 1 → nv out = 2 * nv m + bit → Q (u32S out) h1) :
  Runs Try.prog cfg 128 [u32S m, .int .u32 bit] h Q c := by
 refine Runs.go Try.func128 rfl rfl (.refl _ _) ?_
 refine W.rseq ?_
 simp (disch := first | omega | (simp only [vd]; done) | (simp only [vd]; omega)) only [vs, reduceIte, Nat.reduceEqDiff]
 refine W.rseq ?_
 simp (disch := first | omega | (simp only [vd]; done) | (simp only [vd]; omega)) only [vs, reduceIte, Nat.reduceEqDiff]
 refine W.seq (W.rseq ?_)
 simp (disch := first | omega | (simp only [vd]; done) | (simp only [vd]; omega)) only [vs, reduceIte, Nat.reduceEqDiff]
 refine W.gen [0, 1, 5, 8, 9, 10] (fun e he => ?_)
 simp only [List.forall_mem_cons, List.not_mem_nil, false_implies, implies_true, and_true, e0_zero, e0_succ, put_some, put_none, reduceIte, Nat.reduceEqDiff] at he
 obtain ⟨e0, e1, e5, e8, e9, e10⟩ := he
 refine W.range (fun i e h1 => ∃ (b : Nat) (out : List Nat), e 8 = u32S m ∧ e 1 = .int .u32 b ∧ Own h.next 88 1 h1 (e 5) out.length (u32L out) ∧ h.le h1 ∧ Lim out ∧ out.length = i ∧ b ≤ 1 ∧ nv out + WB ^ i * b = 2 * nv (m.take i) + bit) m.length (by omega) rfl e10 e9 ?_ ?_ ?_
 ·refine ⟨bit, [], e8, e1, ?_, VH.le_refl _, Lim.nil, rfl, hb, ?_⟩
  ·rw [e5]; exact Own.nil
  ·simp [nv]
 ·rintro i e h1 hi ei en ⟨b, out, e8, e1, ho, hle, lo, hol, hb1, hv⟩
  refine W.block ?_
  have bx := lm.getD i
  have hmi := nv_take_getD m i
  generalize hx : m.getD i 0 = x at *
  refine W.rseq ?_
  simp (disch := first | omega | (simp only [vd]; done) | (simp only [vd]; omega)) only [vs, reduceIte, Nat.reduceEqDiff, e8, ei, hx, Int.toNat_natCast]
  have hsh : IntKind.u32.wrap ((x : Int) * 2) = ((x * 2 % 4294967296 : Nat) : Int) := by rw [wrap_u32m]; omega
  have hor := b_orw (C := cfg) (t := 88) (x := x * 2 % 4294967296) (y := b) (n := 1) (by omega) (by omega) (by decide) (by omega) (by omega)
  obtain ⟨v', h', hap, ho', hle'⟩ := ap_own (h := h1) (x := x * 2 % 4294967296 + b) ho (by omega) hle.1
  refine W.rseq ?_
  simp (disch := first | omega | (simp only [vd]; done) | (simp only [vd]; omega)) only [vs, reduceIte, Nat.reduceEqDiff, e1, b_shl1w, hsh, hor, ho.seen, hap, ho'.seen]
  refine W.reg ?_
  simp (disch := first | omega | (simp only [vd]; done) | (simp only [vd]; omega)) only [vs, reduceIte, Nat.reduceEqDiff, b_shr31w]
  have hd : (x : Int) / 2147483648 = ((x / 2147483648 : Nat) : Int) := by omega
  rw [hd]
  refine ⟨ei, en, x / 2147483648, out ++ [x * 2 % 4294967296 + b], e8, rfl, ho', hle' h hle (Nat.le_refl _), lo.append (Lim.cons (by simp only [WB]; omega) Lim.nil), by rw [List.length_append, hol]; rfl, by omega, ?_⟩
  rw [nv_append, hol, hmi, nv_one, Nat.pow_succ]
  have h1 : WB ^ i * (x * 2 % 4294967296 + b) + WB ^ i * (WB * (x / 2147483648)) = WB ^ i * b + 2 * (WB ^ i * x) := by
   rw [← Nat.mul_add, Nat.mul_left_comm 2, ← Nat.mul_add]
   congr 1
   simp only [WB]
   omega
  rw [Nat.mul_assoc, Nat.mul_add 2]
  omega
 ·rintro e h1 ei ⟨b, out, e8, e1, ho, hle, lo, hol, hb1, hv⟩
  simp (disch := first | omega | (simp only [vd]; done) | (simp only [vd]; omega)) only [vs, reduceIte, Nat.reduceEqDiff]
  rw [List.take_of_length_le (Nat.le_refl _)] at hv
  obtain ⟨v', h', hap, ho', hle'⟩ := ap_own (h := h1) (x := b) ho (by omega) hle.1
  refine W.rseq ?_
  simp (disch := first | omega | (simp only [vd]; done) | (simp only [vd]; omega)) only [vs, reduceIte, Nat.reduceEqDiff, e1, ho.seen, hap, ho'.seen]
  refine W.ret ⟨.inr rfl, ?_⟩
  change Fin cfg _ _ _ _
  refine Fin.own 4 rfl ho' fun h3 hx3 _ => ?_
  exact Fin.done (ress_1 rfl rfl) (hq (out ++ [b]) _ (hx3 _ (hle' h hle (Nat.le_refl _)) (Nat.le_refl _)) (lo.append (Lim.cons (by simp only [WB]; omega) Lim.nil)) (by simp [hol]) (by rw [nv_append, hol, nv_one]; exact hv))
theorem b_shl0 {C : Cfg} {t : TypeId} {k' : IntKind} {x : Int} : binV C .shl t (.int .u64 x) (.int k' 0) = some (.int .u64 (IntKind.u64.wrap x)) := by
 simp only [binV]
 rw [if_neg (by omega)]
 have : (2 : Int) ^ (min (0 : Int).toNat IntKind.u64.bits) = 1 := by decide
 rw [this, Int.mul_one]
theorem r_low_ok (m : List Nat) (hm : m.length ≤ 2) (lm : Lim m) (hq : Q (.int .u64 (nv m : Int)) h) : Runs Try.prog cfg 127 [u32S m] h Q c := by
 refine Runs.go Try.func127 rfl rfl (.refl _ _) ?_
 refine W.rseq ?_
 simp (disch := first | omega | (simp only [vd]; done) | (simp only [vd]; omega)) only [vs, reduceIte, Nat.reduceEqDiff]
 refine W.rseq ?_
 simp (disch := first | omega | (simp only [vd]; done) | (simp only [vd]; omega)) only [vs, reduceIte, Nat.reduceEqDiff]
 refine W.seq (W.rseq ?_)
 simp (disch := first | omega | (simp only [vd]; done) | (simp only [vd]; omega)) only [vs, reduceIte, Nat.reduceEqDiff]
 refine W.gen [0, 3, 4] (fun e he => ?_)
 simp only [List.forall_mem_cons, List.not_mem_nil, false_implies, implies_true, and_true, e0_zero, e0_succ, put_some, put_none, reduceIte, Nat.reduceEqDiff] at he
 obtain ⟨e0, e3, e4⟩ := he
 refine W.block (W.loop (fun k e h1 => ∃ i : Nat, k = m.length - i ∧ i ≤ m.length ∧ e 0 = u32S m ∧ e 4 = .int .i64 i ∧ e 3 = .int .u64 (nv (m.take i) : Int) ∧ h1 = h) m.length ?_ ?_)
 ·exact ⟨0, rfl, Nat.zero_le _, e0, e4, e3, rfl⟩
 rintro k e h1 ⟨i, rfl, hi, e0, e4, e3, rfl⟩
 by_cases hlt : i < m.length
 ·refine W.seq (W.rseq ?_)
  simp (disch := first | omega | (simp only [vd]; done) | (simp only [vd]; omega)) only [vs, reduceIte, Nat.reduceEqDiff, e0, e4]
  refine W.cond true (by rfl) (fun _ => W.skip ?_) nofun
  have bx := lm.getD i
  have hmi := nv_take_getD m i
  refine W.seq (W.block ?_)
  have hi2 : i = 0 ∨ i = 1 := by omega
  rcases hi2 with rfl | rfl
  ·generalize hx : m.getD 0 0 = x at *
   have hw : IntKind.u64.wrap (x : Int) = (x : Int) := wrap_u64 (by omega) (by omega)
   have hor := b_or64 (C := cfg) (t := 86) (a := 0) (b := (x : Int)) (by decide) (by decide) (by decide) (by omega) (by omega)
   have e3' : e 3 = .int .u64 0 := e3
   have z0 : ((0 : Nat) : Int) = 0 := rfl
   have z1 : IntKind.i64.wrap (32 * 0) = 0 := by decide
   have z2 : (32 : Int) * 0 = 0 := by decide
   have z3 : (0 : Int).toNat = 0 := rfl
   rw [z0] at e4
   refine W.reg ?_
   simp (disch := first | omega | (simp only [vd]; done) | (simp only [vd]; omega)) only [vs, reduceIte, Nat.reduceEqDiff, e0, e3', e4, z1, z2, z3, hx, b_shl0, hw, hor]
   refine W.reg ?_
   simp (disch := first | omega | (simp only [vd]; done) | (simp only [vd]; omega)) only [vs, reduceIte, Nat.reduceEqDiff, e4]
   refine ⟨m.length - 1, by omega, 1, rfl, by omega, e0, rfl, ?_⟩
   rw [hmi]
   congr 1
   simp [nv]
  ·generalize hx : m.getD 1 0 = x at *
   generalize hy : nv (m.take 1) = y at *
   have hyl : y < 4294967296 := by
    have := nv_lt (lm.take 1)
    rw [hy, List.length_take, Nat.min_eq_left (by omega)] at this
    simpa using this
   have hw : IntKind.u64.wrap ((x : Int) * 4294967296) = ((x * 4294967296 : Nat) : Int) := by rw [wrap_u64 (by omega) (by omega)]; omega
   have hor : binV cfg .or 86 (.int .u64 (y : Int)) (.int .u64 ((x * 4294967296 : Nat) : Int)) = some (.int .u64 ((x * 4294967296 + y : Nat) : Int)) := by
    rw [b_oru64 (by omega) (by omega), Nat.or_comm, b_or_n (n := 32) (by omega) (by omega)]
   have z0 : ((1 : Nat) : Int) = 1 := rfl
   have z1 : IntKind.i64.wrap (32 * 1) = 32 := by decide
   have z2 : (32 : Int) * 1 = 32 := by decide
   have z3 : (1 : Int).toNat = 1 := rfl
   rw [z0] at e4
   refine W.reg ?_
   simp (disch := first | omega | (simp only [vd]; done) | (simp only [vd]; omega)) only [vs, reduceIte, Nat.reduceEqDiff, e0, e3, e4, z1, z2, z3, hx, hw, hor]
   refine W.reg ?_
   simp (disch := first | omega | (simp only [vd]; done) | (simp only [vd]; omega)) only [vs, reduceIte, Nat.reduceEqDiff, e4]
   refine ⟨m.length - 2, by omega, 2, rfl, by omega, e0, rfl, ?_⟩
   have : WB ^ 1 * x = x * 4294967296 := by rw [Nat.pow_one, Nat.mul_comm]
   rw [hmi, this, Nat.add_comm]
 ·obtain rfl : i = m.length := by omega
  refine W.seq (W.rseq ?_)
  simp (disch := first | omega | (simp only [vd]; done) | (simp only [vd]; omega)) only [vs, reduceIte, Nat.reduceEqDiff, e0, e4]
  refine W.cond false (by rfl) nofun (fun _ => W.exit ?_)
  simp (disch := first | omega | (simp only [vd]; done) | (simp only [vd]; omega)) only [vs, reduceIte, Nat.reduceEqDiff]
  rw [List.take_of_length_le (Nat.le_refl _)] at e3
  refine W.rseq ?_
  simp (disch := first | omega | (simp only [vd]; done) | (simp only [vd]; omega)) only [vs, reduceIte, Nat.reduceEqDiff, e3]
  exact W.ret ⟨.inr rfl, _, _, _, .refl _ _, ress_t rfl, hq⟩
end Go.Proofs.Ytjpknabdmmkobaa
end

section
namespace Go.QM
theorem getD_div {l : List Nat} (h : Lim l) (j : Nat) : l.getD j 0 = nv l / WB ^ j % WB := by
 induction l generalizing j with
 | nil => simp [nv]
 | cons x l ih =>
  have hx := h.head
  cases j with
  | zero =>
   simp only [List.getD_cons_zero, nv, Nat.pow_zero, Nat.div_one]
   rw [Nat.add_mul_mod_self_left, Nat.mod_eq_of_lt hx]
  | succ j =>
   have h1 : (x + WB * nv l) / WB ^ (j + 1) = nv l / WB ^ j := by
    rw [Nat.pow_succ, Nat.mul_comm (WB ^ j) WB, ← Nat.div_div_eq_div_mul, Nat.add_mul_div_left _ _ (by decide), Nat.div_eq_of_lt hx, Nat.zero_add]
   simp only [List.getD_cons_succ, nv, h1]
   exact ih h.tail j
theorem pow32 (j r : Nat) : 2 ^ (32 * j + r) = WB ^ j * 2 ^ r := by
 rw [Nat.pow_add, Nat.pow_mul]
theorem bit_of {l : List Nat} (h : Lim l) (i : Nat) : l.getD (i / 32) 0 / 2 ^ (i % 32) % 2 = nv l / 2 ^ i % 2 := by
 have hi : 32 * (i / 32) + i % 32 = i := Nat.div_add_mod i 32
 rw [getD_div h]
 have h1 : nv l / 2 ^ i = nv l / WB ^ (i / 32) / 2 ^ (i % 32) := by
  rw [Nat.div_div_eq_div_mul, ← pow32, hi]
 rw [h1]
 generalize nv l / WB ^ (i / 32) = X
 have hr : i % 32 < 32 := Nat.mod_lt _ (by decide)
 have h2 : (X % 2 ^ 32).testBit (i % 32) = X.testBit (i % 32) := by
  rw [Nat.testBit_mod_two_pow]
  simp [hr]
 rw [Nat.testBit_eq_decide_div_mod_eq, Nat.testBit_eq_decide_div_mod_eq] at h2
 have h3 : (X % 2 ^ 32 / 2 ^ (i % 32) % 2 = 1) ↔ (X / 2 ^ (i % 32) % 2 = 1) := by
  rw [← decide_eq_true_iff (p := X % 2 ^ 32 / 2 ^ (i % 32) % 2 = 1), h2, decide_eq_true_iff]
 have h4 := Nat.mod_lt (X % 2 ^ 32 / 2 ^ (i % 32)) (show 0 < 2 by decide)
 have h5 := Nat.mod_lt (X / 2 ^ (i % 32)) (show 0 < 2 by decide)
 have h6 : X % WB = X % 2 ^ 32 := rfl
 rw [h6]
 generalize X % 2 ^ 32 / 2 ^ (i % 32) % 2 = u at *
 generalize X / 2 ^ (i % 32) % 2 = v at *
 omega
theorem half_step (x i : Nat) : x / 2 ^ i = 2 * (x / 2 ^ (i + 1)) + x / 2 ^ i % 2 := by
 have h1 : x / 2 ^ (i + 1) = x / 2 ^ i / 2 := by rw [Nat.pow_succ, Nat.div_div_eq_div_mul]
 rw [h1]
 omega
theorem dvb_step {X y b : Nat} (hy : 0 < y) (hb : b ≤ 1) : (y ≤ 2 * (X % y) + b → (2 * X + b) / y = 2 * (X / y) + 1 ∧ (2 * X + b) % y = 2 * (X % y) + b - y) ∧ (2 * (X % y) + b < y → (2 * X + b) / y = 2 * (X / y) ∧ (2 * X + b) % y = 2 * (X % y) + b) := by
 have h1 := Nat.div_add_mod X y
 have h2 := Nat.mod_lt X hy
 generalize X / y = q at *
 generalize X % y = r at *
 have e1 : y * (2 * q) = 2 * (y * q) := by rw [Nat.mul_left_comm]
 constructor
 ·intro h
  have e2 : y * (2 * q + 1) = 2 * (y * q) + y := by rw [Nat.mul_add, e1, Nat.mul_one]
  have e3 : 2 * X + b = (2 * r + b - y) + y * (2 * q + 1) := by omega
  rw [e3, Nat.add_mul_div_left _ _ hy, Nat.add_mul_mod_self_left, Nat.div_eq_of_lt (by omega), Nat.mod_eq_of_lt (by omega)]
  exact ⟨by omega, rfl⟩
 ·intro h
  have e3 : 2 * X + b = (2 * r + b) + y * (2 * q) := by omega
  rw [e3, Nat.add_mul_div_left _ _ hy, Nat.add_mul_mod_self_left, Nat.div_eq_of_lt h, Nat.mod_eq_of_lt h]
  exact ⟨by omega, rfl⟩
theorem bit_set {L : List Nat} (lL : Lim L) {i q : Nat} (hi : i / 32 < L.length) (hq : nv L = q * 2 ^ (i + 1)) :
  L.getD (i / 32) 0 % 2 ^ (i % 32 + 1) = 0 ∧ L.getD (i / 32) 0 + 2 ^ (i % 32) < 4294967296 ∧ nv (L.set (i / 32) (L.getD (i / 32) 0 + 2 ^ (i % 32))) = (2 * q + 1) * 2 ^ i := by
 have hii : 32 * (i / 32) + i % 32 = i := Nat.div_add_mod i 32
 have hr : i % 32 < 32 := Nat.mod_lt _ (by decide)
 have hw := getD_div lL (i / 32)
 have h1 : nv L / WB ^ (i / 32) = q * 2 ^ (i % 32 + 1) := by
  have : 2 ^ (i + 1) = WB ^ (i / 32) * 2 ^ (i % 32 + 1) := by rw [← pow32]; congr 1; omega
  rw [hq, this, Nat.mul_left_comm]
  exact Nat.mul_div_cancel_left _ (Nat.pow_pos (by decide))
 rw [h1] at hw
 have hd : 2 ^ (i % 32 + 1) ∣ 2 ^ 32 := Nat.pow_dvd_pow 2 (by omega)
 have h2 : L.getD (i / 32) 0 % 2 ^ (i % 32 + 1) = 0 := by
  rw [hw]
  show q * 2 ^ (i % 32 + 1) % 2 ^ 32 % 2 ^ (i % 32 + 1) = 0
  rw [Nat.mod_mod_of_dvd _ hd, Nat.mul_mod_left]
 have h3 := lL.getD (i / 32)
 refine ⟨h2, ?_, ?_⟩
 ·obtain ⟨c, hc⟩ := Nat.dvd_of_mod_eq_zero h2
  obtain ⟨d, hd⟩ := hd
  have h4 : (2 : Nat) ^ 32 = 4294967296 := by decide
  rw [hc] at h3 ⊢
  rw [← h4, hd] at h3 ⊢
  have h5 : c < d := Nat.lt_of_mul_lt_mul_left h3
  have h6 : 2 ^ (i % 32 + 1) * (c + 1) ≤ 2 ^ (i % 32 + 1) * d := Nat.mul_le_mul_left _ h5
  have h7 : 2 ^ (i % 32) < 2 ^ (i % 32 + 1) := by
   rw [Nat.pow_succ]
   have := Nat.pow_pos (n := i % 32) (show 0 < 2 by decide)
   omega
  rw [Nat.mul_add, Nat.mul_one] at h6
  omega
 ·have h4 := nv_set (l := L) hi (L.getD (i / 32) 0 + 2 ^ (i % 32))
  have h5 : WB ^ (i / 32) * 2 ^ (i % 32) = 2 ^ i := by rw [← pow32, hii]
  rw [Nat.mul_add, h5, hq] at h4
  have h6 : (2 * q + 1) * 2 ^ i = q * 2 ^ (i + 1) + 2 ^ i := by rw [Nat.add_mul, Nat.one_mul, Nat.pow_succ, Nat.mul_comm 2 q, Nat.mul_assoc, Nat.mul_comm 2]
  rw [h6]
  omega
end Go.QM
end

section
open Go Go.QM
namespace Go.Proofs.Ytjpknabdmmkobaa
variable {h : VH} {Q : Value → VH → Prop} {c : Cw Q}
theorem r_divide_ok (x y : Nat) (hx : (dig x).length < 1099511627776) (hy : (dig y).length < 1099511627776) (hy0 : y ≠ 0) (hq : ∀ h1, h.le h1 → Q (.tuple #[u32S (dig (x / y)), u32S (dig (x % y))]) h1) :
  Runs Try.prog cfg 115 [u32S (dig x), u32S (dig y)] h Q c := by
 have lx := Lim_dig x
 have ly := Lim_dig y
 have hyp : 0 < y := Nat.pos_of_ne_zero hy0
 refine Runs.go Try.func115 rfl rfl (.refl _ _) ?_
 refine W.rseqZ ?_
 simp (disch := first | omega | (simp only [vd]; done) | (simp only [vd]; omega)) only [vs, reduceIte, Nat.reduceEqDiff]
 refine WF.nil 5 (WF.done ?_)
 simp (disch := first | omega | (simp only [vd]; done) | (simp only [vd]; omega)) only [vs, reduceIte, Nat.reduceEqDiff]
 by_cases hsm : (dig x).length ≤ 2 ∧ (dig y).length ≤ 2
 ·obtain ⟨h1, h2⟩ := hsm
  have hxl : x < 18446744073709551616 := by
   exact Nat.lt_of_lt_of_eq (dig_len.1 h1) (by decide)
  have hyl : y < 18446744073709551616 := by
   exact Nat.lt_of_lt_of_eq (dig_len.1 h2) (by decide)
  refine W.seq (W.rseq ?_)
  simp (disch := first | omega | (simp only [vd]; done) | (simp only [vd]; omega)) only [vs, reduceIte, Nat.reduceEqDiff]
  refine W.cond true (by rfl) (fun _ => ?_) nofun
  refine W.rseq ?_
  simp (disch := first | omega | (simp only [vd]; done) | (simp only [vd]; omega)) only [vs, reduceIte, Nat.reduceEqDiff]
  refine r_low_ok _ h1 lx ?_
  rw [nv_dig]
  simp (disch := first | omega | (simp only [vd]; done) | (simp only [vd]; omega)) only [vs, reduceIte, Nat.reduceEqDiff]
  refine r_low_ok _ h2 ly ?_
  rw [nv_dig]
  simp (disch := first | omega | (simp only [vd]; done) | (simp only [vd]; omega)) only [vs, reduceIte, Nat.reduceEqDiff]
  have hd : (x : Int) / y = ((x / y : Nat) : Int) := by simp
  have hm : (x : Int) % y = ((x % y : Nat) : Int) := by simp
  have hd1 : x / y ≤ x := Nat.div_le_self _ _
  have hm1 : x % y < y := Nat.mod_lt _ hyp
  have hw : IntKind.u64.wrap ((x : Int) / y) = ((x / y : Nat) : Int) := by rw [hd, wrap_u64 (Int.natCast_nonneg _) (by omega)]
  refine W.dseq (fun _ => True) (by rfl) ?_
  simp (disch := first | omega | (simp only [vd]; done) | (simp only [vd]; omega)) only [vs, reduceIte, Nat.reduceEqDiff, hw, hm]
  refine r_word_ok false _ (Int.natCast_nonneg _) (by omega) fun h1 hx1 => ?_
  have hz : sg false ((x / y : Nat) : Int).toNat = ((x / y : Nat) : Int) := rfl
  rw [hz, zV]
  simp (disch := first | omega | (simp only [vd]; done) | (simp only [vd]; omega)) only [vs, reduceIte, Nat.reduceEqDiff, gr_le hx1, hm]
  refine r_word_ok false _ (Int.natCast_nonneg _) (by omega) fun h2 hx2 => ?_
  have hz2 : sg false ((x % y : Nat) : Int).toNat = ((x % y : Nat) : Int) := rfl
  rw [hz2, zV]
  simp (disch := first | omega | (simp only [vd]; done) | (simp only [vd]; omega)) only [vs, reduceIte, Nat.reduceEqDiff, gr_le hx2]
  refine W.ret ⟨.inr rfl, ?_⟩
  change Fin cfg _ _ _ _
  exact Fin.done (ress_tt rfl rfl rfl) (hq _ (hx1.trans hx2))
 ·refine W.seq (W.mono (Q := fun xx e1 h1 => xx = .normal ∧ h1 = h ∧ e1 0 = u32S (dig x) ∧ e1 1 = u32S (dig y) ∧ e1 5 = u32S (dig 0)) ?_ ?_)
  ·have e5 : fS 0 #[] = u32S (dig 0) := by rw [dig_zero]; rfl
   by_cases h1 : (dig x).length ≤ 2
   ·have h2 : ¬ (dig y).length ≤ 2 := fun h2 => hsm ⟨h1, h2⟩
    refine W.rseq ?_
    simp (disch := first | omega | (simp only [vd]; done) | (simp only [vd]; omega)) only [vs, reduceIte, Nat.reduceEqDiff]
    refine W.cond false (by rfl) nofun (fun _ => ?_)
    refine W.skip ?_
    simp (disch := first | omega | (simp only [vd]; done) | (simp only [vd]; omega)) only [vs, reduceIte, Nat.reduceEqDiff]
    exact e5
   ·skip
    refine W.rseq ?_
    simp (disch := first | omega | (simp only [vd]; done) | (simp only [vd]; omega)) only [vs, reduceIte, Nat.reduceEqDiff]
    refine W.cond false (by rfl) nofun (fun _ => ?_)
    refine W.skip ?_
    simp (disch := first | omega | (simp only [vd]; done) | (simp only [vd]; omega)) only [vs, reduceIte, Nat.reduceEqDiff]
    exact e5
  rintro xx e h1 ⟨rfl, rfl, e0, e1, e5⟩
  simp (disch := first | omega | (simp only [vd]; done) | (simp only [vd]; omega)) only [vs, reduceIte, Nat.reduceEqDiff]
  have hz : ((dig x).length : Int).toNat = (dig x).length := Int.toNat_natCast _
  refine W.rseq ?_
  simp (disch := first | omega | (simp only [vd]; done) | (simp only [vd]; omega)) only [vs, reduceIte, Nat.reduceEqDiff, e0, hz]
  refine W.gen [0, 1, 4, 5] (fun e he => ?_)
  simp only [List.forall_mem_cons, List.not_mem_nil, false_implies, implies_true, and_true, e0_zero, e0_succ, put_some, put_none, reduceIte, Nat.reduceEqDiff, e0, e1, e5] at he
  obtain ⟨e0, e1, e4, e5⟩ := he
  refine W.seqZ (W.rseq ?_)
  simp (disch := first | omega | (simp only [vd]; done) | (simp only [vd]; omega)) only [vs, reduceIte, Nat.reduceEqDiff, e0]
  generalize hla : (dig x).length = la at *
  refine W.mono (Q := fun xx e1 h2 => xx = .normal ∧ ∃ L : List Nat, e1 4 = .slice (some ⟨h1.next, 0, none⟩) la la ∧ e1 5 = u32S (dig (x % y)) ∧ h1.le h2 ∧ h2.blk h1.next = some ⟨88, 1, u32L L⟩ ∧ L.length = la ∧ Lim L ∧ nv L = x / y)
   (W.block (W.loop (fun k e h2 => ∃ L : List Nat, k ≤ 32 * la ∧ e 0 = u32S (dig x) ∧ e 1 = u32S (dig y) ∧ e 8 = .int .i64 ((k : Int) - 1) ∧ e 4 = .slice (some ⟨h1.next, 0, none⟩) la la ∧ e 5 = u32S (dig (x / 2 ^ k % y)) ∧ h1.le h2 ∧ h1.next < h2.next ∧ h2.blk h1.next = some ⟨88, 1, u32L L⟩ ∧ L.length = la ∧ Lim L ∧ Hid (nv L = x / 2 ^ k / y * 2 ^ k)) (32 * la) ?_ ?_)) ?_
  ·have hx0 : x / 2 ^ (32 * la) = 0 := by
    have h2 : x < WB ^ la := dig_len.1 (by omega)
    refine Nat.div_eq_of_lt ?_
    have h3 := pow32 la 0
    rw [Nat.add_zero, Nat.pow_zero, Nat.mul_one] at h3
    rw [h3]
    exact h2
   refine ⟨List.replicate la 0, Nat.le_refl _, ?_⟩
   simp (disch := first | omega | (simp only [vd]; done) | (simp only [vd]; omega)) only [vs, reduceIte, Nat.reduceEqDiff, e0, e1, e4, e5, hx0, Nat.zero_mod, Nat.zero_div, Nat.zero_mul, List.length_replicate]
   refine ⟨?_, VH.le_push _ _, Nat.lt_succ_self _, blk_push, Lim.rep _, ⟨nv_rep _⟩⟩
   congr 1
  ·rintro k e h2 ⟨L, hk, e0, e1, e8, e4, e5, hle, hbn, hB, hL, lL, hv⟩
   by_cases hk0 : 0 < k
   ·obtain ⟨i, rfl⟩ : ∃ i, k = i + 1 := ⟨k - 1, by omega⟩
    have e9 : (((i + 1 : Nat) : Int) - 1) = i := by omega
    rw [e9] at e8
    have hstep := half_step x i
    have hbit := bit_of lx i
    rw [nv_dig] at hbit
    have hb1 : x / 2 ^ i % 2 ≤ 1 := Nat.le_of_lt_succ (Nat.mod_lt _ (by decide))
    obtain ⟨hs1, hs2⟩ := dvb_step (X := x / 2 ^ (i + 1)) hyp hb1
    obtain ⟨hw1, hw2, hw3⟩ := bit_set lL (i := i) (by omega) hv.out
    have hrl := Nat.mod_lt (x / 2 ^ (i + 1)) hyp
    have hiq : (i : Int) / 32 = ((i / 32 : Nat) : Int) := by omega
    have hir : (i : Int) % 32 = ((i % 32 : Nat) : Int) := by omega
    have hi32 : i / 32 < la := by omega
    have hx2 : x / 2 ^ i = 2 * (x / 2 ^ (i + 1)) + x / 2 ^ i % 2 := hstep
    refine W.seq (W.rseq ?_)
    simp (disch := first | omega | (simp only [vd]; done) | (simp only [vd]; omega)) only [vs, reduceIte, Nat.reduceEqDiff, e8]
    refine W.cond true (by rfl) (fun _ => W.skip ?_) nofun
    refine W.seq (W.block ?_)
    have hwl := lx.getD (i / 32)
    generalize hw : (dig x).getD (i / 32) 0 = w at *
    have hsh : (w : Int) / 2 ^ (i % 32) = ((w / 2 ^ (i % 32) : Nat) : Int) := by simp
    have hand := b_and1w (C := cfg) (t := 88) (x := w / 2 ^ (i % 32)) (Nat.lt_of_le_of_lt (Nat.div_le_self _ _) hwl)
    have hdr := dig_mono (Nat.le_of_lt hrl)
    refine W.rseq ?_
    simp (disch := first | omega | (simp only [vd]; done) | (simp only [vd]; omega)) only [vs, reduceIte, Nat.reduceEqDiff, e0, e5, e8, hiq, hir, hw, b_shrw (C := cfg) (t := 88) (n := i % 32) (Nat.mod_lt _ (by decide)), hsh, hand, Int.toNat_natCast]
    rw [hbit]
    refine r_double_ok _ _ (by omega) (Lim_dig _) hb1 fun out h3 hx3 lo hol hv2 => ?_
    rw [nv_dig] at hv2
    simp (disch := first | omega | (simp only [vd]; done) | (simp only [vd]; omega)) only [vs, reduceIte, Nat.reduceEqDiff]
    refine r_trim_ok out (by omega) fun h4 hx4 => ?_
    rw [trimL_dig lo, hv2]
    generalize hr2 : 2 * (x / 2 ^ (i + 1) % y) + x / 2 ^ i % 2 = r2 at *
    rw [← hx2] at hs1 hs2
    have hdr2 : (dig r2).length ≤ (dig y).length + 1 := by
     rw [← hr2]
     have := trimL_len out
     rw [trimL_dig lo, hv2] at this
     rw [hr2]
     omega
    simp (disch := first | omega | (simp only [vd]; done) | (simp only [vd]; omega)) only [vs, reduceIte, Nat.reduceEqDiff]
    have hB4 : h4.blk h1.next = some ⟨88, 1, u32L L⟩ := by rw [hx4.2 _ (Nat.lt_of_lt_of_le hbn hx3.1), hx3.2 _ hbn]; exact hB
    have hle4 := hle.trans (hx3.trans hx4)
    have hbn4 : h1.next < h4.next := Nat.lt_of_lt_of_le hbn (hx3.trans hx4).1
    refine W.gen [0, 1, 4, 5, 8] (fun e he => ?_)
    simp only [List.forall_mem_cons, List.not_mem_nil, false_implies, implies_true, and_true, e0_zero, e0_succ, put_some, put_none, reduceIte, Nat.reduceEqDiff, e0, e1, e4, e8] at he
    obtain ⟨e0, e1, e4, e5, e8⟩ := he
    by_cases hge : y ≤ r2
    ·obtain ⟨hd1, hd2⟩ := hs1 hge
     have hcv : 0 ≤ cmpN r2 y := by unfold cmpN; rw [if_neg (by omega)]; split <;> omega
     refine W.rseq ?_
     simp (disch := first | omega | (simp only [vd]; done) | (simp only [vd]; omega)) only [vs, reduceIte, Nat.reduceEqDiff, e1, e5]
     refine r_cmp_ok _ _ (by omega) (by omega) (Lim_dig _) (Lim_dig _) ?_
     rw [cmpL_dig]
     simp (disch := first | omega | (simp only [vd]; done) | (simp only [vd]; omega)) only [vs, reduceIte, Nat.reduceEqDiff]
     refine W.cond true (by rfl) (fun _ => ?_) nofun
     refine W.rseq ?_
     simp (disch := first | omega | (simp only [vd]; done) | (simp only [vd]; omega)) only [vs, reduceIte, Nat.reduceEqDiff, e1, e5]
     refine r_difference_ok _ _ (by omega) (by omega) (Lim_dig _) (Lim_dig _) (dig_mono hge) (by rw [nv_dig, nv_dig]; exact hge) fun out2 h5 hx5 lo2 hol2 hv3 => ?_
     rw [nv_dig, nv_dig] at hv3
     simp (disch := first | omega | (simp only [vd]; done) | (simp only [vd]; omega)) only [vs, reduceIte, Nat.reduceEqDiff]
     refine r_trim_ok out2 (by omega) fun h6 hx6 => ?_
     rw [trimL_dig lo2, hv3, ← hd2]
     have hB6 : h6.blk h1.next = some ⟨88, 1, u32L L⟩ := by rw [hx6.2 _ (Nat.lt_of_lt_of_le hbn4 hx5.1), hx5.2 _ hbn4]; exact hB4
     have hle6 := hle4.trans (hx5.trans hx6)
     have hbn6 : h1.next < h6.next := Nat.lt_of_lt_of_le hbn4 (hx5.trans hx6).1
     have hshl : IntKind.u32.wrap (1 * 2 ^ (i % 32)) = ((2 ^ (i % 32) : Nat) : Int) := by
      have h7 : 2 ^ (i % 32) < 4294967296 := Nat.lt_of_le_of_lt (Nat.le_add_left (2 ^ (i % 32)) (L.getD (i / 32) 0)) hw2
      have h8 : (2 : Int) ^ (i % 32) = ((2 ^ (i % 32) : Nat) : Int) := by simp
      rw [Int.one_mul, h8]
      generalize 2 ^ (i % 32) = p at *
      rw [wrap_u32 (by omega) (by omega)]
     generalize hwL : L.getD (i / 32) 0 = wl at *
     have hor := b_orw (C := cfg) (t := 88) (x := wl) (y := 2 ^ (i % 32)) (n := i % 32 + 1) (by omega) (Nat.pow_lt_pow_right (by decide) (Nat.lt_succ_self _)) (by omega) hw1 hw2
     simp (disch := first | omega | (simp only [vd]; done) | (simp only [vd]; omega)) only [vs, reduceIte, Nat.reduceEqDiff]
     have k1 := wr1_of (h := h6) (v := .int .u32 ((wl + 2 ^ (i % 32) : Nat) : Int)) (off := i / 32) hB6 (by rw [u32L_len, hL]; exact hi32)
     have k2 : (u32L L).set (i / 32) (.int .u32 ((wl + 2 ^ (i % 32) : Nat) : Int)) = u32L (L.set (i / 32) (wl + 2 ^ (i % 32))) := by rw [u32L_set (Int.natCast_nonneg _), Int.toNat_natCast]
     simp only [k2] at k1
     refine W.drawL (fun _ => True) [false, false, false, false, false, false, false, false, false, false, false] (by rfl) ?_
     simp (disch := first | omega | (simp only [vd]; done) | (simp only [vd]; omega)) only [vs, reduceIte, Nat.reduceEqDiff, e4, e8, hiq, hir, Int.toNat_natCast, rd1_of hB6, hwL, b_shlw (C := cfg) (t := 88) (n := i % 32) (Nat.mod_lt _ (by decide)), hshl, hor]
     simp (disch := first | omega | (simp only [vd]; done) | (simp only [vd]; omega)) only [vs, reduceIte, Nat.reduceEqDiff, k1, eq_true (gr0_set hB6)]
     refine W.reg ?_
     simp (disch := first | omega | (simp only [vd]; done) | (simp only [vd]; omega)) only [vs, reduceIte, Nat.reduceEqDiff, e8]
     refine ⟨i, by omega, L.set (i / 32) (wl + 2 ^ (i % 32)), by omega, ?_⟩
     simp (disch := first | omega | (simp only [vd]; done) | (simp only [vd]; omega)) only [vs, reduceIte, Nat.reduceEqDiff, e0, e1, e4, List.length_set, hL]
     refine ⟨VH.le_set hle6 (Nat.le_refl _) _, by rw [next_set]; exact hbn6, blk_set, lL.set hw2, ⟨?_⟩⟩
     rw [hw3, hd1]
    ·obtain ⟨hd1, hd2⟩ := hs2 (by omega)
     have hcv : ¬ (0 ≤ cmpN r2 y) := by unfold cmpN; rw [if_pos (by omega)]; omega
     refine W.rseq ?_
     simp (disch := first | omega | (simp only [vd]; done) | (simp only [vd]; omega)) only [vs, reduceIte, Nat.reduceEqDiff, e1, e5]
     refine r_cmp_ok _ _ (by omega) (by omega) (Lim_dig _) (Lim_dig _) ?_
     rw [cmpL_dig]
     simp (disch := first | omega | (simp only [vd]; done) | (simp only [vd]; omega)) only [vs, reduceIte, Nat.reduceEqDiff]
     refine W.cond false (by rfl) nofun (fun _ => ?_)
     refine W.skip ?_
     simp (disch := first | omega | (simp only [vd]; done) | (simp only [vd]; omega)) only [vs, reduceIte, Nat.reduceEqDiff]
     refine W.reg ?_
     simp (disch := first | omega | (simp only [vd]; done) | (simp only [vd]; omega)) only [vs, reduceIte, Nat.reduceEqDiff, e8]
     refine ⟨i, by omega, L, by omega, ?_⟩
     simp (disch := first | omega | (simp only [vd]; done) | (simp only [vd]; omega)) only [vs, reduceIte, Nat.reduceEqDiff, e0, e1, e4, e5, hL]
     refine ⟨by rw [hd2], hle4, hbn4, hB4, lL, ⟨?_⟩⟩
     rw [hv.out, hd1, Nat.pow_succ, Nat.mul_comm 2, Nat.mul_assoc, Nat.mul_comm 2]
   ·obtain rfl : k = 0 := by omega
    refine W.seq (W.rseq ?_)
    simp (disch := first | omega | (simp only [vd]; done) | (simp only [vd]; omega)) only [vs, reduceIte, Nat.reduceEqDiff, e8]
    refine W.cond false (by rfl) nofun (fun _ => W.exit ?_)
    simp (disch := first | omega | (simp only [vd]; done) | (simp only [vd]; omega)) only [vs, reduceIte, Nat.reduceEqDiff]
    have h3 := hv.out
    rw [Nat.pow_zero, Nat.div_one, Nat.mul_one] at h3
    rw [Nat.pow_zero, Nat.div_one] at e5
    exact ⟨L, e4, e5, hle, hB, hL, lL, h3⟩
  rintro xx e h2 ⟨rfl, L, e4, e5, hle, hB, hL, lL, hv⟩
  simp (disch := first | omega | (simp only [vd]; done) | (simp only [vd]; omega)) only [vs, reduceIte, Nat.reduceEqDiff]
  refine WF.one 4 h1.next rfl hB (WF.done ?_)
  simp (disch := first | omega | (simp only [vd]; done) | (simp only [vd]; omega)) only [vs, reduceIte, Nat.reduceEqDiff, e4]
  refine W.rseq ?_
  simp (disch := first | omega | (simp only [vd]; done) | (simp only [vd]; omega)) only [vs, reduceIte, Nat.reduceEqDiff]
  refine r_trim_ok L (by omega) fun h3 hx3 => ?_
  rw [trimL_dig lL, hv]
  simp (disch := first | omega | (simp only [vd]; done) | (simp only [vd]; omega)) only [vs, reduceIte, Nat.reduceEqDiff, e5]
  refine W.ret ⟨.inr rfl, ?_⟩
  change Fin cfg _ _ _ _
  exact Fin.done (ress_tt rfl rfl rfl) (hq _ ((VH.le_set hle (Nat.le_refl _) _).trans hx3))
end Go.Proofs.Ytjpknabdmmkobaa
end

section
open Go Go.QM
namespace Go.Proofs.Ytjpknabdmmkobaa
variable {h : VH} {Q : Value → VH → Prop} {c : Cw Q}
theorem gr0_pp {h : VH} {A B A' B' : Blk} : Grow0 ((h.push A).push B) ((h.push A').push B') := ⟨Nat.le_refl _, fun b hb hn => by
 show (if b = h.next + 1 then some B' else if b = h.next then some A' else h.blk b) = none
 have hn' : (if b = h.next + 1 then some B else if b = h.next then some A else h.blk b) = none := hn
 split at hn'
 ·cases hn'
 ·rename_i h1
  split at hn'
  ·cases hn'
  ·rename_i h2
   rw [if_neg h1, if_neg h2]
   exact hn'⟩
theorem sg_cz (z : Int) : sg (decide (z < 0)) (nv (dig z.natAbs)) = z := by
 rw [nv_dig]
 unfold sg
 split
 ·rename_i h; simp at h; omega
 ·rename_i h; simp at h; omega
set_option maxHeartbeats 2000000 in
theorem r_DivMod_ok (n1 n2 : Bool) (a b : List Nat) (ha : a.length < 1099511627776) (hb : b.length < 1099511627776) (la : Lim a) (lb : Lim b)
  (hq1 : nv b ≠ 0 → ∀ h1, h.le h1 → Q (.tuple #[zV (sg n1 (nv a) / sg n2 (nv b)), zV (sg n1 (nv a) % sg n2 (nv b)), .bool true]) h1)
  (hq0 : nv b = 0 → ∀ h1, h.le h1 → Q (.tuple #[zV 0, zV 0, .bool false]) h1) :
  Runs Try.prog cfg 97 [.agg #[.bool n1, u32S a], .agg #[.bool n2, u32S b]] h Q c := by
 have hdx := trimL_len a
 have hdy := trimL_len b
 rw [trimL_dig la] at hdx
 rw [trimL_dig lb] at hdy
 refine Runs.go Try.func97 rfl rfl (.refl _ _) ?_
 refine W.rseqZ ?_
 simp (disch := first | omega | (simp only [vd]; done) | (simp only [vd]; omega)) only [vs, reduceIte, Nat.reduceEqDiff, Value.cells]
 refine WF.d3 2 rfl (WF.d2 3 rfl (WF.done ?_))
 simp (disch := first | omega | (simp only [vd]; done) | (simp only [vd]; omega)) only [vs, reduceIte, Nat.reduceEqDiff, next_push, next_skip]
 refine W.gen [2, 3, 4, 5, 6] (fun e he => ?_)
 simp only [List.forall_mem_cons, List.not_mem_nil, false_implies, implies_true, and_true, e0_zero, e0_succ, put_some, put_none, reduceIte, Nat.reduceEqDiff] at he
 obtain ⟨e2, e3, e4, e5, e6⟩ := he
 have hle : h.le ((h.skip.skip.push ⟨39, 0, [.bool false, .slice none 0 0]⟩).push ⟨39, 0, [.bool false, .slice none 0 0]⟩) := (VH.le_skip _).trans ((VH.le_skip _).trans ((VH.le_push _ _).trans (VH.le_push _ _)))
 have hR1 : ((h.skip.skip.push ⟨39, 0, [.bool false, .slice none 0 0]⟩).push ⟨39, 0, [.bool false, .slice none 0 0]⟩).blk (h.next + 1 + 1) = some ⟨39, 0, [.bool false, .slice none 0 0]⟩ := by
  rw [blk_push_ne (by simp only [next_push, next_skip]; omega)]
  exact blk_push' rfl
 have hR2 : ((h.skip.skip.push ⟨39, 0, [.bool false, .slice none 0 0]⟩).push ⟨39, 0, [.bool false, .slice none 0 0]⟩).blk (h.next + 1 + 1 + 1) = some ⟨39, 0, [.bool false, .slice none 0 0]⟩ := blk_push' rfl
 have hn1 : h.next + 1 + 1 + 1 < ((h.skip.skip.push ⟨39, 0, [.bool false, .slice none 0 0]⟩).push ⟨39, 0, [.bool false, .slice none 0 0]⟩).next := by simp only [next_push, next_skip]; omega
 have hr : h.next ≤ h.next + 1 + 1 := by omega
 generalize (h.skip.skip.push ⟨39, 0, [.bool false, .slice none 0 0]⟩).push ⟨39, 0, [.bool false, .slice none 0 0]⟩ = H at *
 generalize h.next + 1 + 1 = r at *
 refine W.dseq (fun _ => True) (by rfl) ?_
 simp (disch := first | omega | (simp only [vd]; done) | (simp only [vd]; omega)) only [vs, reduceIte, Nat.reduceEqDiff, e2, e3]
 refine r_trim_ok a (by omega) fun h1 hx1 => ?_
 rw [trimL_dig la]
 simp (disch := first | omega | (simp only [vd]; done) | (simp only [vd]; omega)) only [vs, reduceIte, Nat.reduceEqDiff, gr_le hx1, e3]
 refine r_trim_ok b (by omega) fun h2 hx2 => ?_
 rw [trimL_dig lb]
 simp (disch := first | omega | (simp only [vd]; done) | (simp only [vd]; omega)) only [vs, reduceIte, Nat.reduceEqDiff, gr_le hx2]
 have hx12 := hx1.trans hx2
 refine W.gen [2, 3, 4, 5, 7, 8] (fun e he => ?_)
 simp only [List.forall_mem_cons, List.not_mem_nil, false_implies, implies_true, and_true, e0_zero, e0_succ, put_some, put_none, reduceIte, Nat.reduceEqDiff, e2, e3, e4, e5] at he
 obtain ⟨e2, e3, e4, e5, e7, e8⟩ := he
 by_cases hb0 : nv b = 0
 ·have hl0 : ((dig (nv b)).length : Int) = 0 := by rw [hb0, dig_zero]; rfl
  refine W.seq (W.rseq ?_)
  simp (disch := first | omega | (simp only [vd]; done) | (simp only [vd]; omega)) only [vs, reduceIte, Nat.reduceEqDiff, e8, hl0]
  refine W.cond true (by rfl) (fun _ => ?_) nofun
  have hR1' : h2.blk r = some ⟨39, 0, [.bool false, .slice none 0 0]⟩ := by rw [hx12.2 r (by omega)]; exact hR1
  have hR2' : h2.blk (r + 1) = some ⟨39, 0, [.bool false, .slice none 0 0]⟩ := by rw [hx12.2 (r + 1) (by omega)]; exact hR2
  have k1 := wr_s2 (y0 := .bool false) (y1 := .slice none 0 0) hR1'
  have hR3' : (h2.set r (some ⟨39, 0, [.bool false, .slice none 0 0]⟩)).blk (r + 1) = some ⟨39, 0, [.bool false, .slice none 0 0]⟩ := by rw [blk_set_ne (by omega)]; exact hR2'
  have k2 := wr_s2 (y0 := .bool false) (y1 := .slice none 0 0) hR3'
  refine W.rseq ?_
  simp (disch := first | omega | (simp only [vd]; done) | (simp only [vd]; omega)) only [vs, reduceIte, Nat.reduceEqDiff, e4, e5, k1, k2]
  refine W.ret ⟨.inr rfl, ?_⟩
  change Fin cfg _ _ _ _
  refine Fin.nilc r 1 rfl (by rw [blk_set_ne (by omega), blk_set]) ?_
  refine Fin.nilc (r + 1) 1 rfl (by rw [blk_set_ne (by omega), blk_set]) ?_
  refine Fin.done (v := .tuple #[zV 0, zV 0, .bool false]) ?_ (hq0 hb0 _ (VH.le_set (VH.le_set (VH.le_set (VH.le_set (hle.trans hx12) hr _) (by omega) _) hr _) (by omega) _))
  refine ress_cct rfl ?_ ?_ rfl
  ·simp (disch := first | omega | (simp only [vd]; done) | (simp only [vd]; omega)) only [vs, reduceIte, Nat.reduceEqDiff, e4]
   rw [rdN_set_ne (by omega), rdN_set, zV_zero]
   rfl
  ·simp (disch := first | omega | (simp only [vd]; done) | (simp only [vd]; omega)) only [vs, reduceIte, Nat.reduceEqDiff, e5]
   rw [rdN_set, zV_zero]
   rfl
 ·have hl0 : ¬ ((dig (nv b)).length : Int) = 0 := by
   intro h0
   exact hb0 (dig_nil.1 (List.eq_nil_of_length_eq_zero (by omega)))
  refine W.seq (W.rseq ?_)
  simp (disch := first | omega | (simp only [vd]; done) | (simp only [vd]; omega)) only [vs, reduceIte, Nat.reduceEqDiff, e8, hl0]
  refine W.cond false (by rfl) nofun (fun _ => ?_)
  refine W.skip ?_
  simp (disch := first | omega | (simp only [vd]; done) | (simp only [vd]; omega)) only [vs, reduceIte, Nat.reduceEqDiff]
  refine W.rseq ?_
  simp (disch := first | omega | (simp only [vd]; done) | (simp only [vd]; omega)) only [vs, reduceIte, Nat.reduceEqDiff, e7, e8]
  refine r_divide_ok (nv a) (nv b) (by omega) (by omega) hb0 fun h3 hx3 => ?_
  simp (disch := first | omega | (simp only [vd]; done) | (simp only [vd]; omega)) only [vs, reduceIte, Nat.reduceEqDiff, extV]
  have hx13 := hx12.trans hx3
  have hdq : (dig (nv a / nv b)).length ≤ (dig (nv a)).length := dig_mono (Nat.div_le_self _ _)
  have hrlt := Nat.mod_lt (nv a) (Nat.pos_of_ne_zero hb0)
  have hdr : (dig (nv a % nv b)).length ≤ (dig (nv b)).length := dig_mono (Nat.le_of_lt hrlt)
  refine W.gen [2, 3, 4, 5, 8, 9, 10] (fun e he => ?_)
  simp only [List.forall_mem_cons, List.not_mem_nil, false_implies, implies_true, and_true, e0_zero, e0_succ, put_some, put_none, reduceIte, Nat.reduceEqDiff, e2, e3, e4, e5, e8] at he
  obtain ⟨e2, e3, e4, e5, e8, e9, e10⟩ := he
  refine W.dseqL (fun _ => True) [false, false, false, false, false, false, true, false, false, false, true, false, false, false, false] (by rfl) ?_
  simp (disch := first | omega | (simp only [vd]; done) | (simp only [vd]; omega)) only [vs, reduceIte, Nat.reduceEqDiff, e2, e3, e9]
  refine r_Make_ok (n1 != n2) _ (by omega) (Lim_dig _) fun h4 hx4 => ?_
  rw [nv_dig, zV]
  simp (disch := first | omega | (simp only [vd]; done) | (simp only [vd]; omega)) only [vs, reduceIte, Nat.reduceEqDiff, gr_le hx4, e2, e10]
  refine r_Make_ok n1 _ (by omega) (Lim_dig _) fun h5 hx5 => ?_
  rw [nv_dig, zV]
  have hlz1 : (dig (sg (n1 != n2) (nv a / nv b)).natAbs).length ≤ a.length := by rw [sg_nat]; omega
  have hlz2 : (dig (sg n1 (nv a % nv b)).natAbs).length ≤ b.length := by rw [sg_nat]; omega
  generalize hz1 : sg (n1 != n2) (nv a / nv b) = z1 at *
  generalize hz2 : sg n1 (nv a % nv b) = z2 at *
  simp (disch := first | omega | (simp only [vd]; done) | (simp only [vd]; omega)) only [vs, reduceIte, Nat.reduceEqDiff, gr_le hx5, Value.cells]
  have hB1 : ((h5.push ⟨39, 0, [.bool false, .slice none 0 0]⟩).push ⟨39, 0, [.bool false, .slice none 0 0]⟩).blk h5.next = some ⟨39, 0, [.bool false, .slice none 0 0]⟩ := by
   rw [blk_push_ne (by simp only [next_push]; omega)]
   exact blk_push
  have k1 := wr_s2 (y0 := .bool (decide (z1 < 0))) (y1 := u32S (dig z1.natAbs)) hB1
  simp (disch := first | omega | (simp only [vd]; done) | (simp only [vd]; omega)) only [vs, reduceIte, Nat.reduceEqDiff, k1, eq_true (gr0_set hB1)]
  have hB2 : (((h5.push ⟨39, 0, [.bool false, .slice none 0 0]⟩).push ⟨39, 0, [.bool false, .slice none 0 0]⟩).set h5.next (some ⟨39, 0, [.bool (decide (z1 < 0)), u32S (dig z1.natAbs)]⟩)).blk (h5.next + 1) = some ⟨39, 0, [.bool false, .slice none 0 0]⟩ := by
   rw [blk_set_ne (by omega)]
   exact blk_push' rfl
  have k2 := wr_s2 (y0 := .bool (decide (z2 < 0))) (y1 := u32S (dig z2.natAbs)) hB2
  refine ⟨gr0_pp, gr0_pp, ?_⟩
  have hleG : h5.le ((h5.push ⟨39, 0, [.bool (decide (z1 < 0)), u32S (dig z1.natAbs)]⟩).push ⟨39, 0, [.bool (decide (z2 < 0)), u32S (dig z2.natAbs)]⟩) := (VH.le_push _ _).trans (VH.le_push _ _)
  have hG1 : ((h5.push ⟨39, 0, [.bool (decide (z1 < 0)), u32S (dig z1.natAbs)]⟩).push ⟨39, 0, [.bool (decide (z2 < 0)), u32S (dig z2.natAbs)]⟩).blk h5.next = some ⟨39, 0, [.bool (decide (z1 < 0)), u32S (dig z1.natAbs)]⟩ := by
   rw [blk_push_ne (by simp only [next_push]; omega)]
   exact blk_push
  have hG2 : ((h5.push ⟨39, 0, [.bool (decide (z1 < 0)), u32S (dig z1.natAbs)]⟩).push ⟨39, 0, [.bool (decide (z2 < 0)), u32S (dig z2.natAbs)]⟩).blk (h5.next + 1) = some ⟨39, 0, [.bool (decide (z2 < 0)), u32S (dig z2.natAbs)]⟩ := blk_push' rfl
  have hGn : ((h5.push ⟨39, 0, [.bool (decide (z1 < 0)), u32S (dig z1.natAbs)]⟩).push ⟨39, 0, [.bool (decide (z2 < 0)), u32S (dig z2.natAbs)]⟩).next = h5.next + 2 := rfl
  refine W.gen [2, 3, 4, 5, 8, 11, 12] (fun e he => ?_)
  simp only [List.forall_mem_cons, List.not_mem_nil, false_implies, implies_true, and_true, e0_zero, e0_succ, put_some, put_none, reduceIte, Nat.reduceEqDiff, e2, e3, e4, e5, e8, next_push] at he
  obtain ⟨e2, e3, e4, e5, e8, e11, e12⟩ := he
  generalize (h5.push ⟨39, 0, [.bool (decide (z1 < 0)), u32S (dig z1.natAbs)]⟩).push ⟨39, 0, [.bool (decide (z2 < 0)), u32S (dig z2.natAbs)]⟩ = G at *
  have hHG : H.le G := hx13.trans (hx4.trans (hx5.trans hleG))
  have hHn : H.next ≤ h5.next := (hx13.trans (hx4.trans hx5)).1
  generalize h5.next = b1 at *
  clear hB1 hB2 k1 k2 hleG
  refine W.seq (W.rseq ?_)
  simp (disch := first | omega | (simp only [vd]; done) | (simp only [vd]; omega)) only [vs, reduceIte, Nat.reduceEqDiff, e12, rd_s2 hG2]
  refine r_Sign_ok _ _ (by omega) (Lim_dig _) fun h6 hx6 => ?_
  rw [sg_cz]
  have hG16 : h6.blk b1 = some ⟨39, 0, [.bool (decide (z1 < 0)), u32S (dig z1.natAbs)]⟩ := by rw [hx6.2 _ (by omega)]; exact hG1
  have hG26 : h6.blk (b1 + 1) = some ⟨39, 0, [.bool (decide (z2 < 0)), u32S (dig z2.natAbs)]⟩ := by rw [hx6.2 _ (by omega)]; exact hG2
  have hH6 := hHG.trans hx6
  have hR16 : h6.blk r = some ⟨39, 0, [.bool false, .slice none 0 0]⟩ := by rw [hH6.2 r (by omega)]; exact hR1
  have hR26 : h6.blk (r + 1) = some ⟨39, 0, [.bool false, .slice none 0 0]⟩ := by rw [hH6.2 (r + 1) (by omega)]; exact hR2
  have h6n := hx6.1
  by_cases hneg : z2 < 0
  ·have hsn : z2.sign < 0 := by rw [Int.sign_eq_neg_one_of_neg hneg]; decide
   simp (disch := first | omega | (simp only [vd]; done) | (simp only [vd]; omega)) only [vs, reduceIte, Nat.reduceEqDiff]
   refine W.cond true (by rfl) (fun _ => ?_) nofun
   have hn1t : n1 = true := by
    cases n1 with
    | true => rfl
    | false => exfalso; rw [← hz2] at hneg; simp only [sg, Bool.false_eq_true, if_false] at hneg; omega
   subst hn1t
   have hr0 : nv a % nv b ≠ 0 := by
    intro h0
    rw [← hz2, h0, sg_zero] at hneg
    omega
   have hz2v : z2 = -((nv a % nv b : Nat) : Int) := by rw [← hz2]; rfl
   have hdn := dm_neg (n2 := n2) hb0 hr0
   have hz3f : decide (z2 + (nv b : Int) < 0) = false := decide_eq_false (by omega)
   have h1len : (dig (1 : Int).natAbs).length = 1 := by
    have : (1 : Int).natAbs = 1 := rfl
    rw [this, dig_small (by decide) (by decide)]
    rfl
   refine W.gen [3, 4, 5, 8, 11, 12] (fun e he => ?_)
   simp only [List.forall_mem_cons, List.not_mem_nil, false_implies, implies_true, and_true, e0_zero, e0_succ, put_some, put_none, reduceIte, Nat.reduceEqDiff, e3, e4, e5, e8, e11, e12] at he
   obtain ⟨e3, e4, e5, e8, e11, e12⟩ := he
   refine W.dseqL (fun _ => True) [false, false, true, false, false] (by rfl) ?_
   simp (disch := first | omega | (simp only [vd]; done) | (simp only [vd]; omega)) only [vs, reduceIte, Nat.reduceEqDiff, e8, e12, rd_s2 hG26]
   refine r_Make_ok false _ (by omega) (Lim_dig _) fun h7 hx7 => ?_
   have hz0 : sg false (nv (dig (nv b))) = (nv b : Int) := by rw [nv_dig]; rfl
   rw [hz0, zV]
   simp (disch := first | omega | (simp only [vd]; done) | (simp only [vd]; omega)) only [vs, reduceIte, Nat.reduceEqDiff, gr_le hx7]
   refine r_Add_ok _ _ _ _ (by omega) (by rw [Int.natAbs_natCast]; omega) (Lim_dig _) (Lim_dig _) fun h8 hx8 => ?_
   have hza : sg true (nv (dig z2.natAbs)) + sg false (nv (dig (nv b : Int).natAbs)) = z2 + (nv b : Int) := by
    have e1 := sg_cz z2
    rw [decide_eq_true hneg] at e1
    rw [e1, Int.natAbs_natCast, nv_dig]
    rfl
   rw [hza, zV]
   have hx78 := hx7.trans hx8
   have hG28 : h8.blk (b1 + 1) = some ⟨39, 0, [.bool (decide (z2 < 0)), u32S (dig z2.natAbs)]⟩ := by rw [hx78.2 _ (by omega)]; exact hG26
   have k5 := wr_s2 (y0 := .bool false) (y1 := u32S (dig (z2 + (nv b : Int)).natAbs)) hG28
   simp (disch := first | omega | (simp only [vd]; done) | (simp only [vd]; omega)) only [vs, reduceIte, Nat.reduceEqDiff, gr0_le hx8, e12, k5, eq_true (gr0_set hG28)]
   have hn8 := hx78.1
   have hG18 : (h8.set (b1 + 1) (some ⟨39, 0, [.bool false, u32S (dig (z2 + (nv b : Int)).natAbs)]⟩)).blk b1 = some ⟨39, 0, [.bool (decide (z1 < 0)), u32S (dig z1.natAbs)]⟩ := by rw [blk_set_ne (by omega), hx78.2 _ (by omega)]; exact hG16
   have hG38 : (h8.set (b1 + 1) (some ⟨39, 0, [.bool false, u32S (dig (z2 + (nv b : Int)).natAbs)]⟩)).blk (b1 + 1) = some ⟨39, 0, [.bool false, u32S (dig (z2 + (nv b : Int)).natAbs)]⟩ := blk_set
   have hR18 : (h8.set (b1 + 1) (some ⟨39, 0, [.bool false, u32S (dig (z2 + (nv b : Int)).natAbs)]⟩)).blk r = some ⟨39, 0, [.bool false, .slice none 0 0]⟩ := by rw [blk_set_ne (by omega), hx78.2 _ (by omega)]; exact hR16
   have hR28 : (h8.set (b1 + 1) (some ⟨39, 0, [.bool false, u32S (dig (z2 + (nv b : Int)).natAbs)]⟩)).blk (r + 1) = some ⟨39, 0, [.bool false, .slice none 0 0]⟩ := by rw [blk_set_ne (by omega), hx78.2 _ (by omega)]; exact hR26
   have hH8 : H.le (h8.set (b1 + 1) (some ⟨39, 0, [.bool false, u32S (dig (z2 + (nv b : Int)).natAbs)]⟩)) := VH.le_set (hH6.trans hx78) (by omega) _
   have hn8' : (h8.set (b1 + 1) (some ⟨39, 0, [.bool false, u32S (dig (z2 + (nv b : Int)).natAbs)]⟩)).next = h8.next := rfl
   generalize h8.set (b1 + 1) (some ⟨39, 0, [.bool false, u32S (dig (z2 + (nv b : Int)).natAbs)]⟩) = G8 at *
   refine W.gen [3, 4, 5, 11, 12] (fun e he => ?_)
   simp only [List.forall_mem_cons, List.not_mem_nil, false_implies, implies_true, and_true, e0_zero, e0_succ, put_some, put_none, reduceIte, Nat.reduceEqDiff, e3, e4, e5, e11, e12] at he
   obtain ⟨e3, e4, e5, e11, e12⟩ := he
   refine W.seq (W.rseq ?_)
   simp (disch := first | omega | (simp only [vd]; done) | (simp only [vd]; omega)) only [vs, reduceIte, Nat.reduceEqDiff, e3]
   refine r_Sign_ok _ _ hb lb fun h8b hx8b => ?_
   replace hG18 : h8b.blk b1 = _ := (hx8b.2 _ (by omega)).trans hG18
   replace hG38 : h8b.blk (b1 + 1) = _ := (hx8b.2 _ (by omega)).trans hG38
   replace hR18 : h8b.blk r = _ := (hx8b.2 _ (by omega)).trans hR18
   replace hR28 : h8b.blk (r + 1) = _ := (hx8b.2 _ (by omega)).trans hR28
   replace hH8 := hH8.trans hx8b
   have hn8b := hx8b.1
   have f4 := e4
   have f5 := e5
   have f11 := e11
   have f12 := e12
   cases n2 with
   | true =>
    have hsn2 : (sg true (nv b)).sign < 0 := by rw [sgn_of, if_neg hb0]; decide
    have hzz : sg true (nv a) / sg true (nv b) = z1 + 1 ∧ sg true (nv a) % sg true (nv b) = z2 + (nv b : Int) := by
     rw [hdn.1, hdn.2, ← hz1, hz2v]
     simp only [sg, Bool.not_true, Bool.false_eq_true, if_false, bne_self_eq_false]
     omega
    simp (disch := first | omega | (simp only [vd]; done) | (simp only [vd]; omega)) only [vs, reduceIte, Nat.reduceEqDiff]
    refine W.cond true (by rfl) (fun _ => ?_) nofun
    refine W.dseqL (fun x => x ≠ r ∧ x ≠ r + 1) [false, true, true, false, true, false, false] (by rfl) ?_
    simp (disch := first | omega | (simp only [vd]; done) | (simp only [vd]; omega)) only [vs, reduceIte, Nat.reduceEqDiff, f11, rd_s2 hG18]
    refine ⟨.inl ⟨by omega, by omega⟩, ?_⟩
    refine r_Small_ok 1 (by decide) (by decide) fun h9 hx9 => ?_
    rw [zV]
    simp (disch := first | omega | (simp only [vd]; done) | (simp only [vd]; omega)) only [vs, reduceIte, Nat.reduceEqDiff, gr_le hx9]
    refine r_Add_ok _ _ _ _ (by omega) (by rw [h1len]; decide) (Lim_dig _) (Lim_dig _) fun h10 hx10 => ?_
    have hzb : sg (decide (z1 < 0)) (nv (dig z1.natAbs)) + sg false (nv (dig (1 : Int).natAbs)) = z1 + 1 := by rw [sg_cz, nv_dig]; rfl
    rw [hzb, zV]
    have hx89 := hx9.trans hx10
    have hG30 : h10.blk (b1 + 1) = some ⟨39, 0, [.bool false, u32S (dig (z2 + (nv b : Int)).natAbs)]⟩ := by rw [hx89.2 _ (by omega)]; exact hG38
    have hR10 : h10.blk r = some ⟨39, 0, [.bool false, .slice none 0 0]⟩ := by rw [hx89.2 _ (by omega)]; exact hR18
    have hR20 : h10.blk (r + 1) = some ⟨39, 0, [.bool false, .slice none 0 0]⟩ := by rw [hx89.2 _ (by omega)]; exact hR28
    have k3 := wr_s2 (y0 := .bool (decide (z1 + 1 < 0))) (y1 := u32S (dig (z1 + 1).natAbs)) hR10
    have hR36 : (h10.set r (some ⟨39, 0, [.bool (decide (z1 + 1 < 0)), u32S (dig (z1 + 1).natAbs)]⟩)).blk (r + 1) = some ⟨39, 0, [.bool false, .slice none 0 0]⟩ := by rw [blk_set_ne (by omega)]; exact hR20
    have k4 := wr_s2 (y0 := .bool false) (y1 := u32S (dig (z2 + (nv b : Int)).natAbs)) hR36
    have hn10 := hx89.1
    generalize hzq : z1 + 1 = zq at *
    generalize hzr : z2 + (nv b : Int) = zr at *
    simp (disch := first | omega | (simp only [vd]; done) | (simp only [vd]; omega)) only [vs, reduceIte, Nat.reduceEqDiff, gr_le hx10, f12, f4, f5, rd_s2 hG30, k3, k4]
    refine ⟨.inl ⟨by omega, by omega⟩, gr_set hR10 (fun hh => hh.1 rfl) (by omega), gr0_set hR36, ?_⟩
    have hfin := hq1 hb0 ((h10.set r (some ⟨39, 0, [.bool (decide (zq < 0)), u32S (dig zq.natAbs)]⟩)).set (r + 1) (some ⟨39, 0, [.bool false, u32S (dig zr.natAbs)]⟩)) (VH.le_set (VH.le_set (hle.trans (hH8.trans hx89)) hr _) (by omega) _)
    rw [hzz.1, hzz.2] at hfin
    refine W.ret ⟨.inr rfl, ?_⟩
    change Fin cfg _ _ _ _
    refine Fin.done (ress_cct rfl ?_ ?_ rfl) hfin
    ·simp (disch := first | omega | (simp only [vd]; done) | (simp only [vd]; omega)) only [vs, reduceIte, Nat.reduceEqDiff, f4]
     rw [rdN_set_ne (by omega), rdN_set]
     rfl
    ·simp (disch := first | omega | (simp only [vd]; done) | (simp only [vd]; omega)) only [vs, reduceIte, Nat.reduceEqDiff, f5]
     rw [rdN_set, zV, hz3f]
     rfl
   | false =>
    have hsn2 : ¬ ((sg false (nv b)).sign < 0) := by rw [sgn_of, if_neg hb0]; decide
    have hzz : sg true (nv a) / sg false (nv b) = z1 - 1 ∧ sg true (nv a) % sg false (nv b) = z2 + (nv b : Int) := by
     rw [hdn.1, hdn.2, ← hz1, hz2v]
     have : (true != false) = true := rfl
     rw [this]
     simp only [sg, Bool.not_false, if_true, Bool.false_eq_true, if_false]
     omega
    simp (disch := first | omega | (simp only [vd]; done) | (simp only [vd]; omega)) only [vs, reduceIte, Nat.reduceEqDiff]
    refine W.cond false (by rfl) nofun (fun _ => ?_)
    refine W.skip ?_
    simp (disch := first | omega | (simp only [vd]; done) | (simp only [vd]; omega)) only [vs, reduceIte, Nat.reduceEqDiff]
    refine W.dseqL (fun x => x ≠ r ∧ x ≠ r + 1) [false, true, true, false, true, false, false] (by rfl) ?_
    simp (disch := first | omega | (simp only [vd]; done) | (simp only [vd]; omega)) only [vs, reduceIte, Nat.reduceEqDiff, f11, rd_s2 hG18]
    refine ⟨.inl ⟨by omega, by omega⟩, ?_⟩
    refine r_Small_ok 1 (by decide) (by decide) fun h9 hx9 => ?_
    rw [zV]
    simp (disch := first | omega | (simp only [vd]; done) | (simp only [vd]; omega)) only [vs, reduceIte, Nat.reduceEqDiff, gr_le hx9]
    refine r_Sub_ok _ _ _ _ (by omega) (by rw [h1len]; decide) (Lim_dig _) (Lim_dig _) fun h10 hx10 => ?_
    have hzb : sg (decide (z1 < 0)) (nv (dig z1.natAbs)) - sg false (nv (dig (1 : Int).natAbs)) = z1 - 1 := by rw [sg_cz, nv_dig]; rfl
    rw [hzb, zV]
    have hx89 := hx9.trans hx10
    have hG30 : h10.blk (b1 + 1) = some ⟨39, 0, [.bool false, u32S (dig (z2 + (nv b : Int)).natAbs)]⟩ := by rw [hx89.2 _ (by omega)]; exact hG38
    have hR10 : h10.blk r = some ⟨39, 0, [.bool false, .slice none 0 0]⟩ := by rw [hx89.2 _ (by omega)]; exact hR18
    have hR20 : h10.blk (r + 1) = some ⟨39, 0, [.bool false, .slice none 0 0]⟩ := by rw [hx89.2 _ (by omega)]; exact hR28
    have k3 := wr_s2 (y0 := .bool (decide (z1 - 1 < 0))) (y1 := u32S (dig (z1 - 1).natAbs)) hR10
    have hR36 : (h10.set r (some ⟨39, 0, [.bool (decide (z1 - 1 < 0)), u32S (dig (z1 - 1).natAbs)]⟩)).blk (r + 1) = some ⟨39, 0, [.bool false, .slice none 0 0]⟩ := by rw [blk_set_ne (by omega)]; exact hR20
    have k4 := wr_s2 (y0 := .bool false) (y1 := u32S (dig (z2 + (nv b : Int)).natAbs)) hR36
    have hn10 := hx89.1
    generalize hzq : z1 - 1 = zq at *
    generalize hzr : z2 + (nv b : Int) = zr at *
    simp (disch := first | omega | (simp only [vd]; done) | (simp only [vd]; omega)) only [vs, reduceIte, Nat.reduceEqDiff, gr_le hx10, f12, f4, f5, rd_s2 hG30, k3, k4]
    refine ⟨.inl ⟨by omega, by omega⟩, gr_set hR10 (fun hh => hh.1 rfl) (by omega), gr0_set hR36, ?_⟩
    have hfin := hq1 hb0 ((h10.set r (some ⟨39, 0, [.bool (decide (zq < 0)), u32S (dig zq.natAbs)]⟩)).set (r + 1) (some ⟨39, 0, [.bool false, u32S (dig zr.natAbs)]⟩)) (VH.le_set (VH.le_set (hle.trans (hH8.trans hx89)) hr _) (by omega) _)
    rw [hzz.1, hzz.2] at hfin
    refine W.ret ⟨.inr rfl, ?_⟩
    change Fin cfg _ _ _ _
    refine Fin.done (ress_cct rfl ?_ ?_ rfl) hfin
    ·simp (disch := first | omega | (simp only [vd]; done) | (simp only [vd]; omega)) only [vs, reduceIte, Nat.reduceEqDiff, f4]
     rw [rdN_set_ne (by omega), rdN_set]
     rfl
    ·simp (disch := first | omega | (simp only [vd]; done) | (simp only [vd]; omega)) only [vs, reduceIte, Nat.reduceEqDiff, f5]
     rw [rdN_set, zV, hz3f]
     rfl
  ·have hsn : ¬ (z2.sign < 0) := fun hh => hneg (Int.neg_of_sign_eq_neg_one (by
    rcases Int.sign_trichotomy z2 with h | h | h <;> omega))
   simp (disch := first | omega | (simp only [vd]; done) | (simp only [vd]; omega)) only [vs, reduceIte, Nat.reduceEqDiff]
   refine W.cond false (by rfl) nofun (fun _ => ?_)
   refine W.skip ?_
   simp (disch := first | omega | (simp only [vd]; done) | (simp only [vd]; omega)) only [vs, reduceIte, Nat.reduceEqDiff]
   refine W.gen [4, 5, 11, 12] (fun e he => ?_)
   simp only [List.forall_mem_cons, List.not_mem_nil, false_implies, implies_true, and_true, e0_zero, e0_succ, put_some, put_none, reduceIte, Nat.reduceEqDiff, e4, e5, e11, e12] at he
   obtain ⟨e4, e5, e11, e12⟩ := he
   have hz2f : decide (z2 < 0) = false := decide_eq_false hneg
   have k3 := wr_s2 (y0 := .bool (decide (z1 < 0))) (y1 := u32S (dig z1.natAbs)) hR16
   have hR36 : (h6.set r (some ⟨39, 0, [.bool (decide (z1 < 0)), u32S (dig z1.natAbs)]⟩)).blk (r + 1) = some ⟨39, 0, [.bool false, .slice none 0 0]⟩ := by rw [blk_set_ne (by omega)]; exact hR26
   have k4 := wr_s2 (y0 := .bool false) (y1 := u32S (dig z2.natAbs)) hR36
   refine W.dseqL (fun x => x ≠ r ∧ x ≠ r + 1) [false, false, true, false, false] (by rfl) ?_
   simp (disch := first | omega | (simp only [vd]; done) | (simp only [vd]; omega)) only [vs, reduceIte, Nat.reduceEqDiff, e4, e5, e11, e12, rd_s2 hG16, rd_s2 hG26, k3, k4]
   refine ⟨.inl ⟨by omega, by omega⟩, .inl ⟨by omega, by omega⟩, gr_set hR16 (fun hh => hh.1 rfl) (by omega), gr0_set hR36, ?_⟩
   have hzz : sg n1 (nv a) / sg n2 (nv b) = z1 ∧ sg n1 (nv a) % sg n2 (nv b) = z2 := by
    rw [← hz1, ← hz2]
    rw [← hz2] at hneg
    cases n1 with
    | false =>
     have e1 : (false != n2) = n2 := by cases n2 <;> rfl
     rw [e1]
     exact dm_pos hb0
    | true =>
     have hr0 : nv a % nv b = 0 := by
      rcases Nat.eq_zero_or_pos (nv a % nv b) with h0 | h0
      ·exact h0
      ·exfalso
       apply hneg
       simp only [sg, if_true]
       omega
     have e1 : (true != n2) = !n2 := by cases n2 <;> rfl
     rw [e1, hr0]
     have := dm_neg0 (n2 := n2) hb0 hr0
     rw [sg_zero] at this ⊢
     exact this
   have hfin := hq1 hb0 ((h6.set r (some ⟨39, 0, [.bool (decide (z1 < 0)), u32S (dig z1.natAbs)]⟩)).set (r + 1) (some ⟨39, 0, [.bool false, u32S (dig z2.natAbs)]⟩)) (VH.le_set (VH.le_set (hle.trans hH6) hr _) (by omega) _)
   rw [hzz.1, hzz.2] at hfin
   refine W.ret ⟨.inr rfl, ?_⟩
   change Fin cfg _ _ _ _
   refine Fin.done (ress_cct rfl ?_ ?_ rfl) hfin
   ·simp (disch := first | omega | (simp only [vd]; done) | (simp only [vd]; omega)) only [vs, reduceIte, Nat.reduceEqDiff, e4]
    rw [rdN_set_ne (by omega), rdN_set]
    rfl
   ·simp (disch := first | omega | (simp only [vd]; done) | (simp only [vd]; omega)) only [vs, reduceIte, Nat.reduceEqDiff, e5]
    rw [rdN_set, zV, hz2f]
    rfl
end Go.Proofs.Ytjpknabdmmkobaa
end

section
open Go Go.QM
namespace Go.Proofs.Ytjpknabdmmkobaa
variable {h : VH} {Q : Value → VH → Prop} {c : Cw Q}
def remZ (a b : Int) : Int := if b = 0 then 0 else a % b
theorem r_DivMod_all (n1 n2 : Bool) (a b : List Nat) (ha : a.length < 1099511627776) (hb : b.length < 1099511627776) (la : Lim a) (lb : Lim b)
  (hq : ∀ (ok : Bool) h1, h.le h1 → Q (.tuple #[zV (sg n1 (nv a) / sg n2 (nv b)), zV (remZ (sg n1 (nv a)) (sg n2 (nv b))), .bool ok]) h1) :
  Runs Try.prog cfg 97 [.agg #[.bool n1, u32S a], .agg #[.bool n2, u32S b]] h Q c := by
 refine r_DivMod_ok n1 n2 a b ha hb la lb (fun h0 h1 hx => ?_) (fun h0 h1 hx => ?_)
 ·have := hq true h1 hx
  rw [remZ, if_neg (fun e => h0 (sg_abs.1 e))] at this
  exact this
 ·have := hq false h1 hx
  rw [remZ, if_pos (sg_abs.2 h0), sg_abs.2 h0, Int.ediv_zero] at this
  exact this
theorem DivMod_all (n1 n2 : Bool) (a b : List Nat) (ha : a.length < 1099511627776) (hb : b.length < 1099511627776) (la : Lim a) (lb : Lim b)
  (hq : ∀ (ok : Bool) h1, h.le h1 → Q (.tuple #[zV (sg n1 (nv a) / sg n2 (nv b)), zV (remZ (sg n1 (nv a)) (sg n2 (nv b))), .bool ok]) h1) :
  Runs Try.prog cfg 89 [.agg #[.bool n1, u32S a], .agg #[.bool n2, u32S b]] h Q c := by
 refine DivMod_ok n1 n2 a b ha hb la lb (fun h0 h1 hx => ?_) (fun h0 h1 hx => ?_)
 ·have := hq true h1 hx
  rw [remZ, if_neg (fun e => h0 (sg_abs.1 e))] at this
  exact this
 ·have := hq false h1 hx
  rw [remZ, if_pos (sg_abs.2 h0), sg_abs.2 h0, Int.ediv_zero] at this
  exact this
theorem r_Quo_ok (n1 n2 : Bool) (a b : List Nat) (ha : a.length < 1099511627776) (hb : b.length < 1099511627776) (la : Lim a) (lb : Lim b) (hq : ∀ h1, h.le h1 → Q (zV (sg n1 (nv a) / sg n2 (nv b))) h1) :
  Runs Try.prog cfg 68 [.agg #[.bool n1, u32S a], .agg #[.bool n2, u32S b]] h Q c := by
 refine Runs.go Try.func68 rfl rfl (.refl _ _) ?_
 refine W.rseqZ ?_
 simp (disch := first | omega | (simp only [vd]; done) | (simp only [vd]; omega)) only [vs, reduceIte, Nat.reduceEqDiff, Value.cells]
 refine WF.d2 2 rfl (WF.d1 3 rfl (WF.done ?_))
 try simp (disch := first | omega | (simp only [vd]; done) | (simp only [vd]; omega)) only [vs, reduceIte, Nat.reduceEqDiff, next_push, next_skip]
 have hle : h.le (h.skip.skip.push ⟨39, 0, [.bool false, .slice none 0 0]⟩) := (VH.le_skip _).trans ((VH.le_skip _).trans (VH.le_push _ _))
 have hR : (h.skip.skip.push ⟨39, 0, [.bool false, .slice none 0 0]⟩).blk (h.next + 1 + 1) = some ⟨39, 0, [.bool false, .slice none 0 0]⟩ := blk_push
 have hn : h.next + 1 + 1 < (h.skip.skip.push ⟨39, 0, [.bool false, .slice none 0 0]⟩).next := Nat.lt_succ_self _
 have hhr : h.next ≤ h.next + 1 + 1 := by omega
 generalize h.skip.skip.push ⟨39, 0, [.bool false, .slice none 0 0]⟩ = H at *
 generalize h.next + 1 + 1 = r at *
 refine W.rseq ?_
 simp (disch := first | omega | (simp only [vd]; done) | (simp only [vd]; omega)) only [vs, reduceIte, Nat.reduceEqDiff]
 refine r_DivMod_all n1 n2 a b ha hb la lb fun ok h1 hx1 => ?_
 generalize sg n1 (nv a) / sg n2 (nv b) = q at *
 generalize remZ (sg n1 (nv a)) (sg n2 (nv b)) = m at *
 simp only [zV]
 have hB1 : ((h1.push ⟨39, 0, [.bool false, .slice none 0 0]⟩).push ⟨39, 0, [.bool false, .slice none 0 0]⟩).blk h1.next = some ⟨39, 0, [.bool false, .slice none 0 0]⟩ := by
  rw [blk_push_ne (by simp only [next_push]; omega)]
  exact blk_push
 have k1 := wr_s2 (y0 := .bool (decide (q < 0))) (y1 := u32S (dig q.natAbs)) hB1
 simp (disch := first | omega | (simp only [vd]; done) | (simp only [vd]; omega)) only [vs, reduceIte, Nat.reduceEqDiff, extV, Value.cells, k1]
 have hB3 : ((h1.push ⟨39, 0, [.bool (decide (q < 0)), u32S (dig q.natAbs)]⟩).push ⟨39, 0, [.bool (decide (m < 0)), u32S (dig m.natAbs)]⟩).blk h1.next = some ⟨39, 0, [.bool (decide (q < 0)), u32S (dig q.natAbs)]⟩ := by
  rw [blk_push_ne (by simp only [next_push]; omega)]
  exact blk_push
 obtain ⟨h5, k1, k2, k3, k4⟩ := fin_z (z := q) hle hR hn hhr (hx1.trans ((VH.le_push h1 ⟨39, 0, [.bool (decide (q < 0)), u32S (dig q.natAbs)]⟩).trans (VH.le_push _ ⟨39, 0, [.bool (decide (m < 0)), u32S (dig m.natAbs)]⟩)))
 refine W.rseq ?_
 simp (disch := first | omega | (simp only [vd]; done) | (simp only [vd]; omega)) only [vs, reduceIte, Nat.reduceEqDiff, rd_s2 hB3, k1]
 refine W.ret ⟨.inr rfl, _, _, _, .refl _ _, ress_c rfl ?_, hq _ k4⟩
 simp (disch := first | omega | (simp only [vd]; done) | (simp only [vd]; omega)) only [vs, reduceIte, Nat.reduceEqDiff, k3]
theorem r_Rem_ok (n1 n2 : Bool) (a b : List Nat) (ha : a.length < 1099511627776) (hb : b.length < 1099511627776) (la : Lim a) (lb : Lim b) (hq : ∀ h1, h.le h1 → Q (zV (remZ (sg n1 (nv a)) (sg n2 (nv b)))) h1) :
  Runs Try.prog cfg 120 [.agg #[.bool n1, u32S a], .agg #[.bool n2, u32S b]] h Q c := by
 refine Runs.go Try.func120 rfl rfl (.refl _ _) ?_
 refine W.rseqZ ?_
 simp (disch := first | omega | (simp only [vd]; done) | (simp only [vd]; omega)) only [vs, reduceIte, Nat.reduceEqDiff, Value.cells]
 refine WF.d2 2 rfl (WF.d1 3 rfl (WF.done ?_))
 try simp (disch := first | omega | (simp only [vd]; done) | (simp only [vd]; omega)) only [vs, reduceIte, Nat.reduceEqDiff, next_push, next_skip]
 have hle : h.le (h.skip.skip.push ⟨39, 0, [.bool false, .slice none 0 0]⟩) := (VH.le_skip _).trans ((VH.le_skip _).trans (VH.le_push _ _))
 have hR : (h.skip.skip.push ⟨39, 0, [.bool false, .slice none 0 0]⟩).blk (h.next + 1 + 1) = some ⟨39, 0, [.bool false, .slice none 0 0]⟩ := blk_push
 have hn : h.next + 1 + 1 < (h.skip.skip.push ⟨39, 0, [.bool false, .slice none 0 0]⟩).next := Nat.lt_succ_self _
 have hhr : h.next ≤ h.next + 1 + 1 := by omega
 generalize h.skip.skip.push ⟨39, 0, [.bool false, .slice none 0 0]⟩ = H at *
 generalize h.next + 1 + 1 = r at *
 refine W.rseq ?_
 simp (disch := first | omega | (simp only [vd]; done) | (simp only [vd]; omega)) only [vs, reduceIte, Nat.reduceEqDiff]
 refine r_DivMod_all n1 n2 a b ha hb la lb fun ok h1 hx1 => ?_
 generalize sg n1 (nv a) / sg n2 (nv b) = q at *
 generalize remZ (sg n1 (nv a)) (sg n2 (nv b)) = m at *
 simp only [zV]
 have hB1 : ((h1.push ⟨39, 0, [.bool false, .slice none 0 0]⟩).push ⟨39, 0, [.bool false, .slice none 0 0]⟩).blk h1.next = some ⟨39, 0, [.bool false, .slice none 0 0]⟩ := by
  rw [blk_push_ne (by simp only [next_push]; omega)]
  exact blk_push
 have k1 := wr_s2 (y0 := .bool (decide (q < 0))) (y1 := u32S (dig q.natAbs)) hB1
 simp (disch := first | omega | (simp only [vd]; done) | (simp only [vd]; omega)) only [vs, reduceIte, Nat.reduceEqDiff, extV, Value.cells, k1]
 obtain ⟨h5, k1, k2, k3, k4⟩ := fin_z (z := m) hle hR hn hhr (hx1.trans ((VH.le_push h1 ⟨39, 0, [.bool (decide (q < 0)), u32S (dig q.natAbs)]⟩).trans (VH.le_push _ ⟨39, 0, [.bool (decide (m < 0)), u32S (dig m.natAbs)]⟩)))
 refine W.rseq ?_
 simp (disch := first | omega | (simp only [vd]; done) | (simp only [vd]; omega)) only [vs, reduceIte, Nat.reduceEqDiff, k1]
 refine W.ret ⟨.inr rfl, _, _, _, .refl _ _, ress_c rfl ?_, hq _ k4⟩
 simp (disch := first | omega | (simp only [vd]; done) | (simp only [vd]; omega)) only [vs, reduceIte, Nat.reduceEqDiff, k3]
theorem zV_nat (n : Nat) : zV (n : Int) = .agg #[.bool false, u32S (dig n)] := by
 rw [zV, dec_f (by omega), Int.natAbs_natCast]
theorem r_Gcd_ok (n1 n2 : Bool) (a b : List Nat) (ha : a.length < 1099511627776) (hb : b.length < 1099511627776) (la : Lim a) (lb : Lim b) (hq : ∀ h1, h.le h1 → Q (zV ((Nat.gcd (nv a) (nv b) : Nat) : Int)) h1) :
  Runs Try.prog cfg 106 [.agg #[.bool n1, u32S a], .agg #[.bool n2, u32S b]] h Q c := by
 have hdx := trimL_len a
 have hdy := trimL_len b
 rw [trimL_dig la] at hdx
 rw [trimL_dig lb] at hdy
 refine Runs.go Try.func106 rfl rfl (.refl _ _) ?_
 refine W.rseqZ ?_
 simp (disch := first | omega | (simp only [vd]; done) | (simp only [vd]; omega)) only [vs, reduceIte, Nat.reduceEqDiff, Value.cells]
 refine WF.d2 2 rfl (WF.d1 3 rfl (WF.done ?_))
 try simp (disch := first | omega | (simp only [vd]; done) | (simp only [vd]; omega)) only [vs, reduceIte, Nat.reduceEqDiff, next_push, next_skip]
 have hle : h.le (h.skip.skip.push ⟨39, 0, [.bool false, .slice none 0 0]⟩) := (VH.le_skip _).trans ((VH.le_skip _).trans (VH.le_push _ _))
 have hR : (h.skip.skip.push ⟨39, 0, [.bool false, .slice none 0 0]⟩).blk (h.next + 1 + 1) = some ⟨39, 0, [.bool false, .slice none 0 0]⟩ := blk_push
 have hn : h.next + 1 + 1 < (h.skip.skip.push ⟨39, 0, [.bool false, .slice none 0 0]⟩).next := Nat.lt_succ_self _
 have hhr : h.next ≤ h.next + 1 + 1 := by omega
 generalize h.skip.skip.push ⟨39, 0, [.bool false, .slice none 0 0]⟩ = H at *
 generalize h.next + 1 + 1 = r at *
 refine W.dseqL (fun _ => True) [false, true, false, true, false, false, false, false] (by rfl) ?_
 simp (disch := first | omega | (simp only [vd]; done) | (simp only [vd]; omega)) only [vs, reduceIte, Nat.reduceEqDiff]
 refine r_Abs_ok n1 a ha la fun h1 hx1 => ?_
 rw [zV_nat]
 simp (disch := first | omega | (simp only [vd]; done) | (simp only [vd]; omega)) only [vs, reduceIte, Nat.reduceEqDiff, gr_le hx1]
 refine r_Abs_ok n2 b hb lb fun h2 hx2 => ?_
 rw [zV_nat]
 simp (disch := first | omega | (simp only [vd]; done) | (simp only [vd]; omega)) only [vs, reduceIte, Nat.reduceEqDiff, gr_le hx2, Value.cells]
 have hB1 : ((h2.push ⟨39, 0, [.bool false, .slice none 0 0]⟩).push ⟨39, 0, [.bool false, .slice none 0 0]⟩).blk h2.next = some ⟨39, 0, [.bool false, .slice none 0 0]⟩ := by
  rw [blk_push_ne (by simp only [next_push]; omega)]
  exact blk_push
 have k1 := wr_s2 (y0 := .bool false) (y1 := u32S (dig (nv a))) hB1
 simp (disch := first | omega | (simp only [vd]; done) | (simp only [vd]; omega)) only [vs, reduceIte, Nat.reduceEqDiff, k1]
 refine ⟨gr0_pp, gr0_pp, ?_⟩
 have hx12 := hx1.trans hx2
 refine W.gen [4, 5, 6] (fun e he => ?_)
 simp only [List.forall_mem_cons, List.not_mem_nil, false_implies, implies_true, and_true, e0_zero, e0_succ, put_some, put_none, reduceIte, Nat.reduceEqDiff, next_push] at he
 obtain ⟨e4, e5, e6⟩ := he
 refine W.seq (W.mono (Q := fun x e1 h' => x = .normal ∧ e1 4 = .pointer (some ⟨r, 0, none⟩) ∧ e1 5 = .pointer (some ⟨h2.next, 0, none⟩) ∧ h2.le h' ∧ h'.blk h2.next = some ⟨39, 0, [.bool false, u32S (dig (Nat.gcd (nv a) (nv b)))]⟩)
  (W.block (W.loop (fun k e h' => ∃ x, e 4 = .pointer (some ⟨r, 0, none⟩) ∧ e 5 = .pointer (some ⟨h2.next, 0, none⟩) ∧ e 6 = .pointer (some ⟨h2.next + 1, 0, none⟩) ∧ h2.le h' ∧ h2.next + 1 < h'.next ∧ h'.blk h2.next = some ⟨39, 0, [.bool false, u32S (dig x)]⟩ ∧ h'.blk (h2.next + 1) = some ⟨39, 0, [.bool false, u32S (dig k)]⟩ ∧
   (dig x).length < 1099511627776 ∧ (dig k).length < 1099511627776 ∧ Nat.gcd x k = Nat.gcd (nv a) (nv b)) (nv b) ?_ ?_)) ?_)
 ·refine ⟨nv a, e4, e5, e6, (VH.le_push _ _).trans (VH.le_push _ _), by simp only [next_push]; omega, ?_, blk_push' rfl, by omega, by omega, rfl⟩
  rw [blk_push_ne (by simp only [next_push]; omega)]
  exact blk_push
 ·rintro y e h' ⟨x, f4, f5, f6, hx, hnx, hb1, hb2, hlx, hly, hg⟩
  refine W.seq (W.rseq ?_)
  simp (disch := first | omega | (simp only [vd]; done) | (simp only [vd]; omega)) only [vs, reduceIte, Nat.reduceEqDiff, f6, rd_s2 hb2]
  refine r_Sign_ok _ _ hly (Lim_dig _) fun h3 hx3 => ?_
  rw [nv_dig, sgn_of]
  have hb13 : h3.blk h2.next = some ⟨39, 0, [.bool false, u32S (dig x)]⟩ := by rw [hx3.2 _ (by omega)]; exact hb1
  have hb23 : h3.blk (h2.next + 1) = some ⟨39, 0, [.bool false, u32S (dig y)]⟩ := by rw [hx3.2 _ (by omega)]; exact hb2
  by_cases h0 : y = 0
  ·subst h0
   rw [if_pos rfl]
   simp (disch := first | omega | (simp only [vd]; done) | (simp only [vd]; omega)) only [vs, reduceIte, Nat.reduceEqDiff]
   refine W.cond false (by rfl) nofun (fun _ => W.exit ?_)
   simp (disch := first | omega | (simp only [vd]; done) | (simp only [vd]; omega)) only [vs, reduceIte, Nat.reduceEqDiff]
   rw [Nat.gcd_zero_right] at hg
   rw [← hg]
   exact ⟨f4, f5, hx.trans hx3, hb13⟩
  ·rw [if_neg h0]
   have hlt : ¬ ((if (false : Bool) = true then (-1 : Int) else 1) = 0) := by decide
   simp (disch := first | omega | (simp only [vd]; done) | (simp only [vd]; omega)) only [vs, reduceIte, Nat.reduceEqDiff]
   refine W.cond true (by rfl) (fun _ => W.skip ?_) nofun
   refine W.block ?_
   refine W.drawL (fun _ => True) [false, false, false, true, false, false] (by rfl) ?_
   simp (disch := first | omega | (simp only [vd]; done) | (simp only [vd]; omega)) only [vs, reduceIte, Nat.reduceEqDiff, f5, f6, rd_s2 hb13, rd_s2 hb23]
   refine r_Rem_ok false false _ _ hlx hly (Lim_dig _) (Lim_dig _) fun h4 hx4 => ?_
   have hz : remZ (sg false (nv (dig x))) (sg false (nv (dig y))) = ((x % y : Nat) : Int) := by
    rw [nv_dig, nv_dig, remZ, if_neg (by simp [sg]; exact h0)]
    simp [sg]
   rw [hz, zV_nat]
   have hb14 : h4.blk h2.next = some ⟨39, 0, [.bool false, u32S (dig x)]⟩ := by rw [hx4.2 _ (by have := hx3.1; omega)]; exact hb13
   have hb24 : h4.blk (h2.next + 1) = some ⟨39, 0, [.bool false, u32S (dig y)]⟩ := by rw [hx4.2 _ (by have := hx3.1; omega)]; exact hb23
   have k3 := wr_s2 (y0 := .bool false) (y1 := u32S (dig y)) hb14
   have hb25 : (h4.set h2.next (some ⟨39, 0, [.bool false, u32S (dig y)]⟩)).blk (h2.next + 1) = some ⟨39, 0, [.bool false, u32S (dig y)]⟩ := by rw [blk_set_ne (by omega)]; exact hb24
   have k4 := wr_s2 (y0 := .bool false) (y1 := u32S (dig (x % y))) hb25
   simp (disch := first | omega | (simp only [vd]; done) | (simp only [vd]; omega)) only [vs, reduceIte, Nat.reduceEqDiff, gr0_le hx4, gr_le hx4, f5, f6, k3, k4]
   refine ⟨gr0_set hb14, gr0_set hb25, x % y, Nat.mod_lt _ (Nat.pos_of_ne_zero h0), y, ?_⟩
   simp (disch := first | omega | (simp only [vd]; done) | (simp only [vd]; omega)) only [vs, reduceIte, Nat.reduceEqDiff, f4, f5, f6]
   have hn4 := (hx3.trans hx4).1
   refine ⟨VH.le_set (VH.le_set (hx.trans (hx3.trans hx4)) (Nat.le_refl _) _) (by omega) _, by simp only [next_set]; omega, ?_, blk_set, hly, ?_, ?_⟩
   ·rw [blk_set_ne (by omega), blk_set]
   ·have := dig_mono (Nat.le_of_lt (Nat.mod_lt x (Nat.pos_of_ne_zero h0)))
    omega
   ·rw [← hg, Nat.gcd_comm x y, Nat.gcd_rec y x, Nat.gcd_comm]
 rintro x e h' ⟨rfl, f4, f5, hx, hb1⟩
 simp (disch := first | omega | (simp only [vd]; done) | (simp only [vd]; omega)) only [vs, reduceIte, Nat.reduceEqDiff]
 obtain ⟨h5, k1, k2, k3, k4⟩ := fin_z (z := ((Nat.gcd (nv a) (nv b) : Nat) : Int)) hle hR hn hhr (hx12.trans hx)
 rw [dec_f (show ¬ (((Nat.gcd (nv a) (nv b) : Nat) : Int) < 0) by omega), Int.natAbs_natCast] at k1
 refine W.rseq ?_
 simp (disch := first | omega | (simp only [vd]; done) | (simp only [vd]; omega)) only [vs, reduceIte, Nat.reduceEqDiff, f4, f5, rd_s2 hb1, k1]
 refine W.ret ⟨.inr rfl, _, _, _, .refl _ _, ress_c rfl ?_, hq _ k4⟩
 simp (disch := first | omega | (simp only [vd]; done) | (simp only [vd]; omega)) only [vs, reduceIte, Nat.reduceEqDiff, f4, k3]
end Go.Proofs.Ytjpknabdmmkobaa
end
