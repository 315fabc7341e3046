/- Part 3 of the proof: QmW, QmV, QmT, QmH, QmR, Limb. -/
import Derived.KernelRfl
import Derived.Test.YtjpknabdmmkobaaZ2
set_option linter.unusedVariables false
set_option linter.unusedSimpArgs false
section
namespace Go.QM
variable {P : Program} {C : Cfg}
def CallRel.le (c1 c2 : CallRel) : Prop := ∀ g args h v h1, c1 g args h v h1 → c2 g args h v h1
theorem VStep.mono {c1 c2 : CallRel} (hc : c1.le c2) {ops : Array Oper} {o : Oper} {e : Env} {h : VH} {v : Value} {h1 : VH} (hv : VStep C c1 ops o e h v h1) : VStep C c2 ops o e h v h1 := by
 unfold VStep at hv ⊢
 split at hv
 ·split at hv
  ·exact hc _ _ _ _ _ hv
  ·exact hv
 ·exact hv
 ·exact hv.elim
theorem VOps.mono {c1 c2 : CallRel} (hc : c1.le c2) {ops : Array Oper} : ∀ {os : List Oper} {e : Env} {h : VH} {e' : Env} {h' : VH}, VOps C c1 ops os e h e' h' → VOps C c2 ops os e h e' h'
 | [], _, _, _, _, hv => hv
 | _ :: _, _, _, _, _, ⟨v, h1, a, b⟩ => ⟨v, h1, a.mono hc, VOps.mono hc b⟩
theorem VTr.mono {c1 c2 : CallRel} (hc : c1.le c2) {K : Nat → Prop} {n0 : Nat} {ms : List Nat} {ops : Array Oper} : ∀ {os : List Oper} {i : Nat} {e : Env} {h : VH} {e' : Env} {h' : VH}, VTr C c1 K n0 ms ops os i e h e' h' → VTr C c2 K n0 ms ops os i e h e' h'
 | [], _, _, _, _, _, hv => hv
 | _ :: _, _, _, _, _, _, ⟨v, h1, a, s, b⟩ => ⟨v, h1, a.mono hc, s, VTr.mono hc b⟩
theorem VDraw.mono {c1 c2 : CallRel} (hc : c1.le c2) {ops : Array Oper} {e : Env} {h : VH} {e' : Env} {h' : VH} : VDraw C c1 ops e h e' h' → VDraw C c2 ops e h e' h'
 | ⟨ms, K, a, b⟩ => ⟨ms, K, a, b.mono hc⟩
theorem LoopR.mono {R1 R2 : Env → VH → Exit → Env → VH → Prop} (hR : ∀ e h x e' h', R1 e h x e' h' → R2 e h x e' h') {e : Env} {h : VH} {x : Exit} {e' : Env} {h' : VH} (hl : LoopR R1 e h x e' h') : LoopR R2 e h x e' h' := by
 induction hl with
 | leave hr hx => exact .leave (hR _ _ _ _ _ hr) hx
 | again hr _ ih => exact .again (hR _ _ _ _ _ hr) ih
theorem VCode.mono {c1 c2 : CallRel} (hc : c1.le c2) : ∀ (c : Code) {e : Env} {h : VH} {x : Exit} {e' : Env} {h' : VH}, VCode C c1 (VDraw C c1) c e h x e' h' → VCode C c2 (VDraw C c2) c e h x e' h' := by
 intro c
 induction c with
 | region id ops d =>
  rintro e h x e' h' ⟨rfl, hv⟩
  refine ⟨rfl, ?_⟩
  cases d with
  | true => exact VDraw.mono hc hv
  | false => exact VOps.mono hc hv
 | seq a b ih1 ih2 =>
  rintro e h x e' h' (⟨e1, h1, e2, h2, ha, hf, hb⟩ | ⟨hx, ha⟩)
  ·exact .inl ⟨e1, h1, e2, h2, ih1 ha, hf, ih2 hb⟩
  ·exact .inr ⟨hx, ih1 ha⟩
 | cond c a b ih1 ih2 =>
  rintro e h x e' h' ⟨t, ht, hv⟩
  refine ⟨t, ht, ?_⟩
  cases t with
  | true => exact ih1 hv
  | false => exact ih2 hv
 | block id c ih =>
  rintro e h x e' h' ⟨y, hy, hx⟩
  exact ⟨y, ih hy, hx⟩
 | loop c ih =>
  intro e h x e' h' hv
  exact LoopR.mono (fun e h x e' h' => ih) hv
 | skip => exact fun hv => hv
 | exit id => exact fun hv => hv
 | ret => exact fun hv => hv
 | _ => exact fun hv => hv.elim
def VCallN (P : Program) (C : Cfg) (n : Nat) : CallRel := VCall P C (fun call => VDraw C call) n
theorem VCallN.succ : ∀ n, (VCallN P C n).le (VCallN P C (n + 1))
 | 0 => fun g args h v h1 hv => hv.elim
 | n + 1 => fun g args h v h1 ⟨fn, body, e0, h0, e1, h2, e', x, a, b, c, d, l, f, r, s, t, u⟩ => ⟨fn, body, e0, h0, e1, h2, e', x, a, b, c, d, l, f, VCode.mono (VCallN.succ n) body r, s, t, u⟩
theorem VCallN.le {n m : Nat} (h : n ≤ m) : (VCallN P C n).le (VCallN P C m) := by
 induction h with
 | refl => exact fun _ _ _ _ _ hv => hv
 | step _ ih => exact fun g args h v h1 hv => VCallN.succ _ _ _ _ _ _ (ih _ _ _ _ _ hv)
def VC (P : Program) (C : Cfg) : CallRel := fun g args h v h1 => ∃ n, VCallN P C n g args h v h1
theorem VStep.deep {ops : Array Oper} {o : Oper} {e : Env} {h : VH} {v : Value} {h1 : VH} (hv : VStep C (VC P C) ops o e h v h1) : ∃ n, VStep C (VCallN P C n) ops o e h v h1 := by
 unfold VStep at hv ⊢
 split at hv
 ·split at hv
  ·exact hv
  ·exact ⟨0, hv⟩
 ·exact ⟨0, hv⟩
 ·exact hv.elim
theorem VOps.deep {ops : Array Oper} : ∀ {os : List Oper} {e : Env} {h : VH} {e' : Env} {h' : VH}, VOps C (VC P C) ops os e h e' h' → ∃ n, VOps C (VCallN P C n) ops os e h e' h'
 | [], _, _, _, _, hv => ⟨0, hv⟩
 | _ :: _, _, _, _, _, ⟨v, h1, a, b⟩ => by
  obtain ⟨n, a⟩ := a.deep
  obtain ⟨m, b⟩ := VOps.deep b
  exact ⟨max n m, v, h1, a.mono (VCallN.le (Nat.le_max_left _ _)), b.mono (VCallN.le (Nat.le_max_right _ _))⟩
theorem VTr.deep {K : Nat → Prop} {n0 : Nat} {ms : List Nat} {ops : Array Oper} : ∀ {os : List Oper} {i : Nat} {e : Env} {h : VH} {e' : Env} {h' : VH}, VTr C (VC P C) K n0 ms ops os i e h e' h' → ∃ n, VTr C (VCallN P C n) K n0 ms ops os i e h e' h'
 | [], _, _, _, _, _, hv => ⟨0, hv⟩
 | _ :: _, _, _, _, _, _, ⟨v, h1, a, s, b⟩ => by
  obtain ⟨n, a⟩ := a.deep
  obtain ⟨m, b⟩ := VTr.deep b
  exact ⟨max n m, v, h1, a.mono (VCallN.le (Nat.le_max_left _ _)), s, b.mono (VCallN.le (Nat.le_max_right _ _))⟩
theorem VDraw.deep {ops : Array Oper} {e : Env} {h : VH} {e' : Env} {h' : VH} : VDraw C (VC P C) ops e h e' h' → ∃ n, VDraw C (VCallN P C n) ops e h e' h'
 | ⟨ms, K, a, b⟩ => by
  obtain ⟨n, b⟩ := b.deep
  exact ⟨n, ms, K, a, b⟩
abbrev VCd (P : Program) (C : Cfg) (n : Nat) := VCode C (VCallN P C n) (VDraw C (VCallN P C n))
theorem VCode.deep : ∀ (c : Code) {e : Env} {h : VH} {x : Exit} {e' : Env} {h' : VH}, VCode C (VC P C) (VDraw C (VC P C)) c e h x e' h' → ∃ n, VCd P C n c e h x e' h' := by
 intro c
 induction c with
 | region id ops d =>
  rintro e h x e' h' ⟨rfl, hv⟩
  cases d with
  | true =>
   obtain ⟨n, hv⟩ := VDraw.deep hv
   exact ⟨n, rfl, hv⟩
  | false =>
   obtain ⟨n, hv⟩ := VOps.deep hv
   exact ⟨n, rfl, hv⟩
 | seq a b ih1 ih2 =>
  rintro e h x e' h' (⟨e1, h1, e2, h2, ha, hf, hb⟩ | ⟨hx, ha⟩)
  ·obtain ⟨n, ha⟩ := ih1 ha
   obtain ⟨m, hb⟩ := ih2 hb
   exact ⟨max n m, .inl ⟨e1, h1, e2, h2, VCode.mono (VCallN.le (Nat.le_max_left _ _)) a ha, hf, VCode.mono (VCallN.le (Nat.le_max_right _ _)) b hb⟩⟩
  ·obtain ⟨n, ha⟩ := ih1 ha
   exact ⟨n, .inr ⟨hx, ha⟩⟩
 | cond c a b ih1 ih2 =>
  rintro e h x e' h' ⟨t, ht, hv⟩
  cases t with
  | true =>
   obtain ⟨n, hv⟩ := ih1 hv
   exact ⟨n, true, ht, hv⟩
  | false =>
   obtain ⟨n, hv⟩ := ih2 hv
   exact ⟨n, false, ht, hv⟩
 | block id c ih =>
  rintro e h x e' h' ⟨y, hy, hx⟩
  obtain ⟨n, hy⟩ := ih hy
  exact ⟨n, y, hy, hx⟩
 | loop c ih =>
  intro e h x e' h' hv
  have hv' : LoopR (VCode C (VC P C) (VDraw C (VC P C)) c) e h x e' h' := hv
  clear hv
  induction hv' with
  | leave hr hx =>
   obtain ⟨n, hr⟩ := ih hr
   exact ⟨n, LoopR.leave hr hx⟩
  | again hr _ ihl =>
   obtain ⟨n, hr⟩ := ih hr
   obtain ⟨m, hl⟩ := ihl
   have hl' : LoopR (VCd P C m c) _ _ _ _ _ := hl
   exact ⟨max n m, LoopR.again (VCode.mono (VCallN.le (Nat.le_max_left _ _)) c hr) (hl'.mono fun e h x e' h' => VCode.mono (VCallN.le (Nat.le_max_right _ _)) c)⟩
 | skip => exact fun hv => ⟨0, hv⟩
 | exit id => exact fun hv => ⟨0, hv⟩
 | ret => exact fun hv => ⟨0, hv⟩
 | _ => exact fun hv => hv.elim
structure Cw {α : Type} (Q : α) : Type
def Runs (P : Program) (C : Cfg) (g : FuncId) (args : List Value) (h : VH) (Q : Value → VH → Prop) (_ : Cw Q := .mk) : Prop := ∃ v h1, VC P C g args h v h1 ∧ Q v h1
def W (P : Program) (C : Cfg) (c : Code) (e : Env) (h : VH) (Q : Exit → Env → VH → Prop) (_ : Cw Q := .mk) : Prop := ∃ x e' h', VCode C (VC P C) (VDraw C (VC P C)) c e h x e' h' ∧ Q x e' h'
def WOps (P : Program) (C : Cfg) (ops : Array Oper) (os : List Oper) (e : Env) (h : VH) (K : Env → VH → Prop) (_ : Cw K := .mk) : Prop := ∃ e' h', VOps C (VC P C) ops os e h e' h' ∧ K e' h'
def WStep (P : Program) (C : Cfg) (ops : Array Oper) (o : Oper) (e : Env) (h : VH) (Q : Value → VH → Prop) (_ : Cw Q := .mk) : Prop := ∃ v h1, VStep C (VC P C) ops o e h v h1 ∧ Q v h1
structure Grow (Kp : Nat → Prop) (n0 : Nat) (h h1 : VH) : Prop where
 next : h.next ≤ h1.next
 res : ∀ b, b < h.next → h.blk b = none → h1.blk b = none
 keep : ∀ b, b < h.next → (Kp b ∨ n0 ≤ b) → h1.blk b = h.blk b
def LoadOk (Kp : Nat → Prop) (n0 : Nat) (x : Value) : Prop := match x with
 | .pointer (some a) => Kp a.block ∨ n0 ≤ a.block
 | _ => True
def Owed (Kp : Nat → Prop) (n0 : Nat) (op : Op) (r : Operand → Value) (h h1 : VH) : Prop := Grow Kp n0 h h1 ∧ match op with
 | .load _ a => LoadOk Kp n0 (r a)
 | _ => True
def WTs (P : Program) (C : Cfg) (Kp : Nat → Prop) (n0 : Nat) (ops : Array Oper) (os : List Oper) (e : Env) (h : VH) (K : Env → VH → Prop) (_ : Cw K := .mk) : Prop :=
 match os with
 | [] => K e h
 | o :: os => WStep P C ops o e h fun v h1 => Owed Kp n0 o.op (rd C e) h h1 ∧ WTs P C Kp n0 ops os (e.put o.dst v) h1 K
theorem WTs.tr {Kp : Nat → Prop} {n0 : Nat} {ms : List Nat} {ops : Array Oper} : ∀ {os : List Oper} {i : Nat} {e : Env} {h : VH} {K : Env → VH → Prop} {c : Cw K}, WTs P C Kp n0 ops os e h K c → ∃ e' h', VTr C (VC P C) Kp n0 ms ops os i e h e' h' ∧ K e' h'
 | [], _, _, _, _, _, hw => ⟨_, _, ⟨rfl, rfl⟩, hw⟩
 | o :: os, i, e, h, K, c, hw => by
  obtain ⟨v, h1, a, ⟨⟨s1, s2, s3⟩, s4⟩, hw⟩ := hw
  obtain ⟨e', h', b, k⟩ := WTs.tr hw
  refine ⟨e', h', ⟨v, h1, a, ⟨s1, s2, fun _ => s3, fun t x b off hop hr => ?_⟩, b⟩, k⟩
  rw [hop] at s4
  simp only [hr] at s4
  exact s4
def masksOf (ops : Array Oper) : List Nat := (ops.toList.foldl (fun (ms : List Nat) (o : Oper) => ms ++ [o.after.toList.foldl (fun m e => if Region.binds .any e then m ||| ms.getD e.on 0 ||| (1 <<< e.on) else m) 0]) [])
theorem Runs.mono {g : FuncId} {args : List Value} {h : VH} {Q Q' : Value → VH → Prop} (hr : Runs P C g args h Q) (hq : ∀ v h1, Q v h1 → Q' v h1) : Runs P C g args h Q' := by
 obtain ⟨v, h1, a, b⟩ := hr
 exact ⟨v, h1, a, hq _ _ b⟩
theorem Runs.go {g : FuncId} {args : List Value} {h : VH} {Q : Value → VH → Prop} {fn : Func} {body : Code} (hf : P.funcs[g]? = some fn) (hb : fn.body = some body)
  (hn : ((fn.name == "runtime.NumGoroutine") || !wfCode fn.ntmps body || !decide (args.length ≤ fn.ntmps)) = false) {e0 : Env} {h0 : VH} (hz : Fz C.base (env0 args) h e0 h0)
  (hw : W P C body e0 h0 fun x e1 h2 => (x = .normal ∨ x = .ret) ∧ ∃ e' h1 v, Fz C.base e1 h2 e' h1 ∧ ressV C fn e' h1 = some v ∧ Q v h1) : Runs P C g args h Q := by
 simp only [Bool.or_eq_false_iff, Bool.not_eq_false', decide_eq_true_eq] at hn
 obtain ⟨x, e1, h2, hc, hx, e', h1, v, hfz, hr, hq⟩ := hw
 obtain ⟨n, hc⟩ := VCode.deep body hc
 exact ⟨v, h1, ⟨n + 1, fn, body, e0, h0, e1, h2, e', x, hf, hb, hn.1.1, hn.1.2, hn.2, hz, hc, hx, hfz, hr⟩, hq⟩
variable {e : Env} {h : VH} {Q : Exit → Env → VH → Prop}
theorem W.mono {c : Code} {Q' : Exit → Env → VH → Prop} (hw : W P C c e h Q) (hq : ∀ x e' h', Q x e' h' → Q' x e' h') : W P C c e h Q' := by
 obtain ⟨x, e', h', a, b⟩ := hw
 exact ⟨x, e', h', a, hq _ _ _ b⟩
theorem W.skip (hq : Q .normal e h) : W P C .skip e h Q := ⟨_, _, _, ⟨rfl, rfl, rfl⟩, hq⟩
theorem W.ret (hq : Q .ret e h) : W P C .ret e h Q := ⟨_, _, _, ⟨rfl, rfl, rfl⟩, hq⟩
theorem W.exit {id : Nat} (hq : Q (.exit id) e h) : W P C (.exit id) e h Q := ⟨_, _, _, ⟨rfl, rfl, rfl⟩, hq⟩
theorem W.reg {id : Nat} {ops : Array Oper} (hw : WOps P C ops ops.toList e h (Q .normal)) : W P C (.region id ops false) e h Q := by
 obtain ⟨e', h', a, b⟩ := hw
 exact ⟨_, _, _, ⟨rfl, a⟩, b⟩
theorem W.draw {id : Nat} {ops : Array Oper} (Kp : Nat → Prop) (hd : drawOk ops (masksOf ops) = true) (hw : WTs P C Kp h.next ops ops.toList e h (Q .normal)) : W P C (.region id ops true) e h Q := by
 obtain ⟨e', h', a, b⟩ := hw.tr
 exact ⟨_, _, _, ⟨rfl, _, Kp, hd, a⟩, b⟩
theorem W.seqF {a b : Code} (hw : W P C a e h fun x e1 h1 => match x with | .normal => ∃ e2 h2, Fz C.base e1 h1 e2 h2 ∧ W P C b e2 h2 Q | x => Q x e1 h1) : W P C (.seq a b) e h Q := by
 obtain ⟨x, e1, h1, ha, hx⟩ := hw
 cases x with
 | normal =>
  obtain ⟨e2, h2, hf, x, e', h', hb, hq⟩ := hx
  exact ⟨x, e', h', .inl ⟨e1, h1, e2, h2, ha, hf, hb⟩, hq⟩
 | _ => exact ⟨_, e1, h1, .inr ⟨by nofun, ha⟩, hx⟩
theorem W.seq {a b : Code} (hw : W P C a e h fun x e1 h1 => match x with | .normal => W P C b e1 h1 Q | x => Q x e1 h1) : W P C (.seq a b) e h Q :=
 W.seqF (hw.mono fun x e1 h1 hx => by
  cases x with
  | normal => exact ⟨_, _, .refl _ _, hx⟩
  | _ => exact hx)
theorem W.rseq {id : Nat} {ops : Array Oper} {b : Code} (hw : WOps P C ops ops.toList e h fun e1 h1 => W P C b e1 h1 Q) : W P C (.seq (.region id ops false) b) e h Q := W.seq (W.reg hw)
theorem W.rseqF {id : Nat} {ops : Array Oper} {b : Code} (hw : WOps P C ops ops.toList e h fun e1 h1 => ∃ e2 h2, Fz C.base e1 h1 e2 h2 ∧ W P C b e2 h2 Q) : W P C (.seq (.region id ops false) b) e h Q := W.seqF (W.reg hw)
theorem W.dseq {id : Nat} {ops : Array Oper} {b : Code} (Kp : Nat → Prop) (hd : drawOk ops (masksOf ops) = true) (hw : WTs P C Kp h.next ops ops.toList e h fun e1 h1 => W P C b e1 h1 Q) : W P C (.seq (.region id ops true) b) e h Q := W.seq (W.draw Kp hd hw)
theorem W.dseqF {id : Nat} {ops : Array Oper} {b : Code} (Kp : Nat → Prop) (hd : drawOk ops (masksOf ops) = true) (hw : WTs P C Kp h.next ops ops.toList e h fun e1 h1 => ∃ e2 h2, Fz C.base e1 h1 e2 h2 ∧ W P C b e2 h2 Q) : W P C (.seq (.region id ops true) b) e h Q := W.seqF (W.draw Kp hd hw)
theorem W.cond {c : Operand} {a b : Code} (t : Bool) (hc : rd C e c = .bool t) (ha : t = true → W P C a e h Q) (hb : t = false → W P C b e h Q) : W P C (.cond c a b) e h Q := by
 cases t with
 | true =>
  obtain ⟨x, e', h', k, q⟩ := ha rfl
  exact ⟨x, e', h', ⟨true, hc, k⟩, q⟩
 | false =>
  obtain ⟨x, e', h', k, q⟩ := hb rfl
  exact ⟨x, e', h', ⟨false, hc, k⟩, q⟩
theorem W.ite {c : Operand} {a b : Code} {p : Prop} [Decidable p] (hc : rd C e c = .bool (decide p)) (ha : p → W P C a e h Q) (hb : ¬ p → W P C b e h Q) : W P C (.cond c a b) e h Q :=
 W.cond (decide p) hc (fun h => ha (of_decide_eq_true h)) (fun h => hb (of_decide_eq_false h))
theorem W.block {id : Nat} {c : Code} (hw : W P C c e h fun x e1 h1 => match x with | .exit i => if i = id then Q .normal e1 h1 else Q (.exit i) e1 h1 | x => Q x e1 h1) : W P C (.block id c) e h Q := by
 obtain ⟨x, e1, h1, ha, hx⟩ := hw
 refine ⟨_, e1, h1, ⟨x, ha, rfl⟩, ?_⟩
 cases x with
 | exit i =>
  simp only at hx ⊢
  split at hx
  ·rename_i hi; rw [if_pos hi]; exact hx
  ·rename_i hi; rw [if_neg hi]; exact hx
 | _ => exact hx
theorem W.loop {c : Code} (I : Nat → Env → VH → Prop) (n : Nat) (hi : I n e h)
  (hs : ∀ n e h, I n e h → W P C c e h fun x e1 h1 => match x with | .normal => ∃ m, m < n ∧ I m e1 h1 | x => Q x e1 h1) : W P C (.loop c) e h Q := by
 have key : ∀ (k n : Nat) (e : Env) (h : VH), n ≤ k → I n e h → ∃ x e' h', LoopR (VCode C (VC P C) (VDraw C (VC P C)) c) e h x e' h' ∧ Q x e' h' := by
  intro k
  induction k with
  | zero =>
   intro n e h hn hi
   obtain ⟨x, e1, h1, ha, hx⟩ := hs n e h hi
   cases x with
   | normal =>
    obtain ⟨m, hm, _⟩ := hx
    omega
   | _ => exact ⟨_, e1, h1, .leave ha (by nofun), hx⟩
  | succ k ih =>
   intro n e h hn hi
   obtain ⟨x, e1, h1, ha, hx⟩ := hs n e h hi
   cases x with
   | normal =>
    obtain ⟨m, hm, hi'⟩ := hx
    obtain ⟨y, e2, h2, hl, hq⟩ := ih m e1 h1 (by omega) hi'
    exact ⟨y, e2, h2, .again ha hl, hq⟩
   | _ => exact ⟨_, e1, h1, .leave ha (by nofun), hx⟩
 exact key n n e h (Nat.le_refl _) hi
section
variable {ops : Array Oper} {os : List Oper} {o : Oper} {K : Env → VH → Prop}
theorem WOps.nil {c : Cw K} : WOps P C ops [] e h K c = K e h := propext ⟨fun ⟨_, _, ⟨a, b⟩, k⟩ => by subst a; subst b; exact k, fun k => ⟨_, _, ⟨rfl, rfl⟩, k⟩⟩
theorem WOps.cons {c : Cw K} : WOps P C ops (o :: os) e h K c = WStep P C ops o e h fun v h1 => WOps P C ops os (e.put o.dst v) h1 K :=
 propext ⟨fun ⟨e', h', ⟨v, h1, a, b⟩, k⟩ => ⟨v, h1, a, e', h', b, k⟩, fun ⟨v, h1, a, e', h', b, k⟩ => ⟨e', h', ⟨v, h1, a, b⟩, k⟩⟩
theorem WTs.nil {Kp : Nat → Prop} {n0 : Nat} {c : Cw K} : WTs P C Kp n0 ops [] e h K c = K e h := rfl
theorem WTs.cons {Kp : Nat → Prop} {n0 : Nat} {c : Cw K} : WTs P C Kp n0 ops (o :: os) e h K c = WStep P C ops o e h fun v h1 => Owed Kp n0 o.op (rd C e) h h1 ∧ WTs P C Kp n0 ops os (e.put o.dst v) h1 K := rfl
end
end Go.QM
end

section
namespace Go.QM
variable {P : Program} {C : Cfg} {ops : Array Oper} {e : Env} {h : VH} {d : Option Tmp} {ty : TypeId} {pos : String} {after : Array Edge} {Q : Value → VH → Prop}
def OV {α : Type} (x : Option α) (Q : α → Prop) (_ : Cw Q := .mk) : Prop := ∃ a, x = some a ∧ Q a
theorem OV_some {α : Type} {a : α} {Q : α → Prop} {c : Cw Q} : OV (some a) Q c = Q a := propext ⟨fun ⟨_, h, q⟩ => by cases h; exact q, fun q => ⟨a, rfl, q⟩⟩
def gdst (ops : List Oper) (j : Nat) : Option Tmp := (ops[j]?).bind (·.dst)
def gval (e : Env) : Option Tmp → Value
 | some t => e t
 | none => Un
theorem gdst_zero {o : Oper} {os : List Oper} : gdst (o :: os) 0 = o.dst := rfl
theorem gdst_succ {o : Oper} {os : List Oper} {j : Nat} : gdst (o :: os) (j + 1) = gdst os j := rfl
theorem gval_some {t : Tmp} : gval e (some t) = e t := rfl
theorem wantE_g {op : Op} {j : Nat} {b : Bool} : wantE ops e ⟨d, op, ty, pos, after, some (j, b)⟩ = match gval e (gdst ops.toList j) with
  | .bool x => some (x == b)
  | .chan none => some false
  | _ => none := by
 unfold wantE gval gdst
 simp only [Array.getElem?_toList]
 cases (ops[j]?).bind (·.dst) <;> rfl
def WG (x : Value) (b : Bool) (A B : Prop) (_ : Cw (A, B) := .mk) : Prop :=
 match x with
 | .bool y => if y = b then A else B
 | .chan none => B
 | _ => False
theorem wst_guard {op : Op} {j : Nat} {b : Bool} {c : Cw Q} : WStep P C ops ⟨d, op, ty, pos, after, some (j, b)⟩ e h Q c = WG (gval e (gdst ops.toList j)) b (WStep P C ops ⟨d, op, ty, pos, after, none⟩ e h Q c) (Q Und h) := by
 unfold WStep VStep WG
 rw [wantE_g]
 cases gval e (gdst ops.toList j) with
 | bool y =>
  by_cases hy : y = b
  ·subst hy
   simp only [beq_self_eq_true, if_true]
   rfl
  ·have : (y == b) = false := by simpa using hy
   simp only [this, if_neg hy]
   exact propext ⟨fun ⟨v, h1, ⟨a, c⟩, q⟩ => by subst a; subst c; exact q, fun q => ⟨_, _, ⟨rfl, rfl⟩, q⟩⟩
 | chan r =>
  cases r with
  | none => exact propext ⟨fun ⟨v, h1, ⟨a, c⟩, q⟩ => by subst a; subst c; exact q, fun q => ⟨_, _, ⟨rfl, rfl⟩, q⟩⟩
  | some r => simp
 | _ => simp
section
variable {A B : Prop} {c : Cw (A, B)}
theorem WG_tt : WG (.bool true) true A B c = A := rfl
theorem WG_ff : WG (.bool false) false A B c = A := rfl
theorem WG_tf : WG (.bool true) false A B c = B := rfl
theorem WG_ft : WG (.bool false) true A B c = B := rfl
theorem WG_u {b : Bool} : WG Und b A B c = B := rfl
end
theorem dec_t {p : Prop} [Decidable p] (hp : p) : decide p = true := decide_eq_true hp
theorem dec_f {p : Prop} [Decidable p] (hp : ¬ p) : decide p = false := decide_eq_false hp
theorem wst_op {op : Op} {c : Cw Q} (hc : calleeV ⟨d, op, ty, pos, after, none⟩ (rd C e) = none) : WStep P C ops ⟨d, op, ty, pos, after, none⟩ e h Q c = ∃ v h1, opV C ⟨d, op, ty, pos, after, none⟩ (rd C e) h = some (v, h1) ∧ Q v h1 := by
 unfold WStep VStep wantE
 simp only [hc]
theorem ov_map {α : Type} {x : Option α} {f : α → Value × VH} : (∃ v h1, x.map f = some (v, h1) ∧ Q v h1) = OV x fun a => Q (f a).1 (f a).2 := by
 refine propext ⟨fun ⟨v, h1, a, q⟩ => ?_, fun ⟨a, hx, q⟩ => ⟨_, _, by rw [hx]; rfl, q⟩⟩
 rw [Option.map_eq_some_iff] at a
 obtain ⟨y, hy, hf⟩ := a
 exact ⟨y, hy, by show Q (f y).1 (f y).2; rw [hf]; exact q⟩
theorem ov_pair {x : Option (Value × VH)} : (∃ v h1, x = some (v, h1) ∧ Q v h1) = OV x fun a => Q a.1 a.2 :=
 propext ⟨fun ⟨v, h1, a, q⟩ => ⟨_, a, q⟩, fun ⟨⟨v, h1⟩, a, q⟩ => ⟨v, h1, a, q⟩⟩
theorem ov_one {v : Value} {h' : VH} : (∃ v1 h1, some (v, h') = some (v1, h1) ∧ Q v1 h1) = Q v h' :=
 propext ⟨fun ⟨v1, h1, a, q⟩ => by cases a; exact q, fun q => ⟨v, h', rfl, q⟩⟩
theorem w_move {x : Operand} {c : Cw Q} : WStep P C ops ⟨d, .move x, ty, pos, after, none⟩ e h Q c = Q (rd C e x) h := (wst_op rfl).trans ov_one
theorem w_assign {x : Operand} {c : Cw Q} : WStep P C ops ⟨d, .assign x, ty, pos, after, none⟩ e h Q c = Q (rd C e x) h := (wst_op rfl).trans ov_one
def pickV (c a b : Value) : Option Value := match c with
 | .bool t => some (if t then a else b)
 | _ => none
theorem pickV_t {t : Bool} {a b : Value} : pickV (.bool t) a b = some (if t = true then a else b) := rfl
theorem pickV_tt {a b : Value} : pickV (.bool true) a b = some a := rfl
theorem pickV_ff {a b : Value} : pickV (.bool false) a b = some b := rfl
theorem w_pick {x a b : Operand} {c : Cw Q} : WStep P C ops ⟨d, .pick x a b, ty, pos, after, none⟩ e h Q c = OV (pickV (rd C e x) (rd C e a) (rd C e b)) fun v => Q v h := by
 refine (wst_op rfl).trans ?_
 unfold opV pickV
 simp only
 cases rd C e x with
 | bool t => simp only [OV_some]; exact ov_one
 | _ => simp [OV]
theorem w_alloc {t : TypeId} {c : Cw Q} : WStep P C ops ⟨d, .alloc t, ty, pos, after, none⟩ e h Q c = OV (C.T t) fun i => Q (newAt h) (h.push ⟨t, 0, i.zero.cells.toList⟩) := (wst_op rfl).trans ov_map
theorem w_box {t : TypeId} {x : Operand} {c : Cw Q} : WStep P C ops ⟨d, .box t x, ty, pos, after, none⟩ e h Q c = OV (cellsV (rd C e x)) fun l => Q (newAt h) (h.push ⟨t, 0, l⟩) := (wst_op rfl).trans ov_map
theorem w_build {t : TypeId} {ps : Array (Nat × Operand)} {c : Cw Q} : WStep P C ops ⟨d, .build t ps, ty, pos, after, none⟩ e h Q c = OV (buildV C t (ps.toList.map fun p => (p.1, rd C e p.2))) fun v => Q v h := (wst_op rfl).trans ov_map
theorem w_buildSlice {t : TypeId} {n : Nat} {ps : Array (Nat × Operand)} {c : Cw Q} : WStep P C ops ⟨d, .buildSlice t n ps, ty, pos, after, none⟩ e h Q c = OV (bSlV C t n (ps.toList.map fun p => (p.1, rd C e p.2)) h) fun a => Q a.1 a.2 := (wst_op rfl).trans ov_pair
theorem w_load {t : TypeId} {a : Operand} {c : Cw Q} : WStep P C ops ⟨d, .load t a, ty, pos, after, none⟩ e h Q c = OV (loadV C t (rd C e a) h) fun v => Q v h := (wst_op rfl).trans ov_map
theorem w_store {t : TypeId} {a x : Operand} {c : Cw Q} : WStep P C ops ⟨d, .store t a x, ty, pos, after, none⟩ e h Q c = OV (storeV C t (rd C e a) (rd C e x) h) fun h' => Q Un h' := (wst_op rfl).trans ov_map
def nilV (x : Value) : Option Value := match x with
 | .pointer (some a) => some (.pointer (some a))
 | .func (.methodOf o _) _ cs => some (fP o cs)
 | _ => none
theorem w_nilCheck {x : Operand} {c : Cw Q} : WStep P C ops ⟨d, .nilCheck x, ty, pos, after, none⟩ e h Q c = OV (nilV (rd C e x)) fun v => Q v h := by
 have : opV C ⟨d, .nilCheck x, ty, pos, after, none⟩ (rd C e) h = (nilV (rd C e x)).map fun v => (v, h) := by
  unfold opV nilV
  simp only
  split <;> simp_all
 refine (wst_op rfl).trans ?_
 rw [this]
 exact ov_map
theorem w_bin {op : BinOp} {t yt : TypeId} {x y : Operand} {c : Cw Q} : WStep P C ops ⟨d, .binOp op t x y yt, ty, pos, after, none⟩ e h Q c = OV (binV C op t (rd C e x) (rd C e y)) fun v => Q v h := (wst_op rfl).trans ov_map
theorem w_un {op : UnOp} {t : TypeId} {x : Operand} {c : Cw Q} : WStep P C ops ⟨d, .unOp op t x, ty, pos, after, none⟩ e h Q c = OV (unV op (rd C e x)) fun v => Q v h := (wst_op rfl).trans ov_map
theorem w_cvt {s t : TypeId} {x : Operand} {c : Cw Q} : WStep P C ops ⟨d, .convert s t x, ty, pos, after, none⟩ e h Q c = OV (cvtV C s t (rd C e x)) fun v => Q v h := (wst_op rfl).trans ov_map
theorem w_makeFunc {fn : FuncId} {first cap : Array Operand} {c : Cw Q} : WStep P C ops ⟨d, .makeFunc (.func fn) first cap, ty, pos, after, none⟩ e h Q c = Q (.func (.func fn) (first.map (rd C e)) (cap.map (rd C e))) h := (wst_op rfl).trans ov_one
theorem w_makeSlice {t : TypeId} {l cp : Operand} {c : Cw Q} : WStep P C ops ⟨d, .makeSlice t l cp, ty, pos, after, none⟩ e h Q c = OV (mkSlV C t (rd C e l) (rd C e cp) h) fun a => Q a.1 a.2 := (wst_op rfl).trans ov_pair
theorem w_slice {t : TypeId} {x : Operand} {lo hi mx : Option Operand} {c : Cw Q} : WStep P C ops ⟨d, .slice t x lo hi mx, ty, pos, after, none⟩ e h Q c = OV (slcV C t (rd C e x) (lo.map (rd C e)) (hi.map (rd C e)) (mx.map (rd C e))) fun v => Q v h := (wst_op rfl).trans ov_map
theorem w_fieldAddr {s : TypeId} {x : Operand} {f : Nat} {c : Cw Q} : WStep P C ops ⟨d, .fieldAddr s x f, ty, pos, after, none⟩ e h Q c = OV (fldAV C s (rd C e x) f) fun v => Q v h := (wst_op rfl).trans ov_map
theorem w_field {t : TypeId} {x : Operand} {f : Nat} {c : Cw Q} : WStep P C ops ⟨d, .field t x f, ty, pos, after, none⟩ e h Q c = OV (fldV C t (rd C e x) f) fun v => Q v h := (wst_op rfl).trans ov_map
theorem w_indexAddr {t : TypeId} {x i : Operand} {c : Cw Q} : WStep P C ops ⟨d, .indexAddr t x i, ty, pos, after, none⟩ e h Q c = OV (idxV C t (rd C e x) (rd C e i)) fun v => Q v h := (wst_op rfl).trans ov_map
theorem w_extract {x : Operand} {j : Nat} {c : Cw Q} : WStep P C ops ⟨d, .extract x j, ty, pos, after, none⟩ e h Q c = OV (extV (rd C e x) j) fun v => Q v h := (wst_op rfl).trans ov_map
theorem w_index {t : TypeId} {x i : Operand} {c : Cw Q} : WStep P C ops ⟨d, .index t x i, ty, pos, after, none⟩ e h Q c = OV (sixV C t (rd C e x) (rd C e i)) fun v => Q v h := (wst_op rfl).trans ov_map
theorem w_len {x : Operand} {t : TypeId} {c : Cw Q} : WStep P C ops ⟨d, .call ⟨.builtin .len, #[x], #[t]⟩, ty, pos, after, none⟩ e h Q c = OV (lenV C t (rd C e x)) fun v => Q v h := (wst_op rfl).trans ov_map
theorem w_append {s x : Operand} {t : TypeId} {c : Cw Q} : WStep P C ops ⟨d, .call ⟨.builtin .append, #[s, x], #[t, t]⟩, ty, pos, after, none⟩ e h Q c = OV (appV C t (rd C e s) (rd C e x) h) fun a => Q a.1 a.2 := by
 refine (wst_op rfl).trans (Eq.trans ?_ ov_pair)
 unfold opV
 simp only [if_true]
theorem w_copy {s x : Operand} {t t' : TypeId} {c : Cw Q} : WStep P C ops ⟨d, .call ⟨.builtin .copy, #[s, x], #[t, t']⟩, ty, pos, after, none⟩ e h Q c = OV (cpyV C t (rd C e s) (rd C e x) h) fun a => Q a.1 a.2 := (wst_op rfl).trans ov_pair
theorem w_max {x y : Operand} {ts : Array TypeId} {c : Cw Q} : WStep P C ops ⟨d, .call ⟨.builtin .max, #[x, y], ts⟩, ty, pos, after, none⟩ e h Q c = OV (mmV true (rd C e x) (rd C e y)) fun v => Q v h := (wst_op rfl).trans ov_map
theorem w_min {x y : Operand} {ts : Array TypeId} {c : Cw Q} : WStep P C ops ⟨d, .call ⟨.builtin .min, #[x, y], ts⟩, ty, pos, after, none⟩ e h Q c = OV (mmV false (rd C e x) (rd C e y)) fun v => Q v h := (wst_op rfl).trans ov_map
def WCall (P : Program) (C : Cfg) (f : Value) (args : List Value) (h : VH) (Q : Value → VH → Prop) (c : Cw Q := .mk) : Prop :=
 match f with
 | .func (.func g) first cap => Runs P C g (first.toList ++ args ++ cap.toList) h Q c
 | _ => False
theorem WCall_c {g : FuncId} {args : List Value} {first cap : Array Value} {c : Cw Q} : WCall P C (.func (.func g) first cap) args h Q c = Runs P C g (first.toList ++ args ++ cap.toList) h Q c := rfl
theorem w_call {f : Operand} {args : Array Operand} {ts : Array TypeId} (hw : WCall P C (rd C e f) (args.toList.map (rd C e)) h Q) : WStep P C ops ⟨d, .call ⟨.value f, args, ts⟩, ty, pos, after, none⟩ e h Q := by
 unfold WCall at hw
 split at hw
 ·rename_i g first cap hf
  obtain ⟨v, h1, hc, q⟩ := hw
  refine ⟨v, h1, ?_, q⟩
  unfold VStep wantE calleeV
  simp only [hf]
  exact hc
 ·exact hw.elim
theorem w_callf {g : FuncId} {args : Array Operand} {ts : Array TypeId} {c : Cw Q} : WStep P C ops ⟨d, .call ⟨.value (.func g), args, ts⟩, ty, pos, after, none⟩ e h Q c = Runs P C g (args.toList.map (rd C e)) h Q c := by
 unfold WStep VStep wantE calleeV Runs
 simp [rd, ev, seen]
section
variable {Kp : Nat → Prop} {n0 : Nat} {r : Operand → Value} {h1 : VH}
theorem gr_refl : Grow Kp n0 h h = True := eq_true ⟨Nat.le_refl _, fun _ _ x => x, fun _ _ _ => rfl⟩
theorem gr_push {B : Blk} : Grow Kp n0 h (h.push B) = True := eq_true ⟨Nat.le_succ _, fun b hb hn => by
 show (if b = h.next then _ else _) = _
 rw [if_neg (by omega)]
 exact hn, fun b hb _ => by
 show (if b = h.next then _ else _) = _
 rw [if_neg (by omega)]⟩
theorem gr_set {b : Nat} {B B' : Blk} (hB : h.blk b = some B) (hk : ¬ Kp b) (hn : b < n0) : Grow Kp n0 h (h.set b (some B')) := ⟨Nat.le_refl _, fun x hx hx0 => by
 show (if x = b then _ else _) = _
 by_cases hxb : x = b
 ·rw [hxb, hB] at hx0; cases hx0
 ·rw [if_neg hxb]; exact hx0, fun x hx hk' => by
 show (if x = b then _ else _) = _
 by_cases hxb : x = b
 ·subst hxb
  rcases hk' with k | k
  ·exact absurd k hk
  ·omega
 ·rw [if_neg hxb]⟩
theorem lo_fP {off : Nat} {cs : Array Value} : LoadOk Kp n0 (fP off cs) = True := rfl
theorem lo_ptr {a : Addr} : LoadOk Kp n0 (.pointer (some a)) = (Kp a.block ∨ n0 ≤ a.block) := rfl
theorem ow_load {t : TypeId} {a : Operand} : Owed Kp n0 (.load t a) r h h1 = (Grow Kp n0 h h1 ∧ LoadOk Kp n0 (r a)) := rfl
theorem ow_move {x : Operand} : Owed Kp n0 (.move x) r h h1 = Grow Kp n0 h h1 := propext (and_iff_left trivial)
theorem ow_assign {x : Operand} : Owed Kp n0 (.assign x) r h h1 = Grow Kp n0 h h1 := propext (and_iff_left trivial)
theorem ow_pick {x y z : Operand} : Owed Kp n0 (.pick x y z) r h h1 = Grow Kp n0 h h1 := propext (and_iff_left trivial)
theorem ow_alloc {t : TypeId} : Owed Kp n0 (.alloc t) r h h1 = Grow Kp n0 h h1 := propext (and_iff_left trivial)
theorem ow_box {t : TypeId} {x : Operand} : Owed Kp n0 (.box t x) r h h1 = Grow Kp n0 h h1 := propext (and_iff_left trivial)
theorem ow_build {t : TypeId} {ps : Array (Nat × Operand)} : Owed Kp n0 (.build t ps) r h h1 = Grow Kp n0 h h1 := propext (and_iff_left trivial)
theorem ow_buildSlice {t n : Nat} {ps : Array (Nat × Operand)} : Owed Kp n0 (.buildSlice t n ps) r h h1 = Grow Kp n0 h h1 := propext (and_iff_left trivial)
theorem ow_store {t : TypeId} {x y : Operand} : Owed Kp n0 (.store t x y) r h h1 = Grow Kp n0 h h1 := propext (and_iff_left trivial)
theorem ow_nilCheck {x : Operand} : Owed Kp n0 (.nilCheck x) r h h1 = Grow Kp n0 h h1 := propext (and_iff_left trivial)
theorem ow_bin {op : BinOp} {t t' : TypeId} {x y : Operand} : Owed Kp n0 (.binOp op t x y t') r h h1 = Grow Kp n0 h h1 := propext (and_iff_left trivial)
theorem ow_un {op : UnOp} {t : TypeId} {x : Operand} : Owed Kp n0 (.unOp op t x) r h h1 = Grow Kp n0 h h1 := propext (and_iff_left trivial)
theorem ow_cvt {t t' : TypeId} {x : Operand} : Owed Kp n0 (.convert t t' x) r h h1 = Grow Kp n0 h h1 := propext (and_iff_left trivial)
theorem ow_makeFunc {f : Fn} {x y : Array Operand} : Owed Kp n0 (.makeFunc f x y) r h h1 = Grow Kp n0 h h1 := propext (and_iff_left trivial)
theorem ow_makeSlice {t : TypeId} {x y : Operand} : Owed Kp n0 (.makeSlice t x y) r h h1 = Grow Kp n0 h h1 := propext (and_iff_left trivial)
theorem ow_slice {t : TypeId} {x : Operand} {a b c : Option Operand} : Owed Kp n0 (.slice t x a b c) r h h1 = Grow Kp n0 h h1 := propext (and_iff_left trivial)
theorem ow_fieldAddr {t : TypeId} {x : Operand} {f : Nat} : Owed Kp n0 (.fieldAddr t x f) r h h1 = Grow Kp n0 h h1 := propext (and_iff_left trivial)
theorem ow_field {t : TypeId} {x : Operand} {f : Nat} : Owed Kp n0 (.field t x f) r h h1 = Grow Kp n0 h h1 := propext (and_iff_left trivial)
theorem ow_indexAddr {t : TypeId} {x y : Operand} : Owed Kp n0 (.indexAddr t x y) r h h1 = Grow Kp n0 h h1 := propext (and_iff_left trivial)
theorem ow_extract {x : Operand} {f : Nat} : Owed Kp n0 (.extract x f) r h h1 = Grow Kp n0 h h1 := propext (and_iff_left trivial)
theorem ow_index {t : TypeId} {x y : Operand} : Owed Kp n0 (.index t x y) r h h1 = Grow Kp n0 h h1 := propext (and_iff_left trivial)
theorem ow_call {x : Call} : Owed Kp n0 (.call x) r h h1 = Grow Kp n0 h h1 := propext (and_iff_left trivial)
end
theorem put_some {t t' : Tmp} {v : Value} : (e.put (some t) v) t' = if t' = t then v else e t' := rfl
theorem put_none {v : Value} : e.put none v = e := rfl
theorem rd_tmp {t : Tmp} : rd C e (.tmp t) = seen (e t) := rfl
theorem rd_const {v : Value} : rd C e (.const v) = seen (constV v) := rfl
theorem rd_func {g : FuncId} : rd C e (.func g) = .func (.func g) #[] #[] := rfl
theorem c_int {k : IntKind} {n : Int} : constV (.int k n) = .int k n := rfl
theorem c_bool {b : Bool} : constV (.bool b) = .bool b := rfl
theorem c_string {s : ByteArray} : constV (.string s) = .string s := rfl
theorem c_nil : constV (.slice none 0 0) = .slice none 0 0 := rfl
theorem c_ptr : constV (.pointer none) = .pointer none := rfl
theorem s_int {k : IntKind} {n : Int} : seen (.int k n) = .int k n := rfl
theorem s_bool {b : Bool} : seen (.bool b) = .bool b := rfl
theorem s_string {s : ByteArray} : seen (.string s) = .string s := rfl
theorem s_slice {a : Option Addr} {l c : Nat} : seen (.slice a l c) = .slice a l c := rfl
theorem s_ptr {a : Option Addr} : seen (.pointer a) = .pointer a := rfl
theorem s_func {f : Fn} {a b : Array Value} : seen (.func f a b) = .func f a b := rfl
theorem s_agg {a : Array Value} : seen (.agg a) = .agg a := rfl
theorem s_tuple {a : Array Value} : seen (.tuple a) = .tuple a := rfl
theorem s_und : seen Und = Un := rfl
theorem w_newAt : newAt h = .pointer (some ⟨h.next, 0, none⟩) := rfl
theorem e0_zero {a : Value} {l : List Value} : env0 (a :: l) 0 = a := rfl
theorem e0_succ {a : Value} {l : List Value} {n : Nat} : env0 (a :: l) (n + 1) = env0 l n := rfl
theorem e0_nil {n : Nat} : env0 [] n = Und := rfl
theorem s_s {v : Value} : seen (seen v) = seen v := by
 cases v <;> rfl
section
variable {t : TypeId} {k : IntKind} {a b : Int}
theorem b_add : binV C .add t (.int k a) (.int k b) = some (.int k (k.wrap (a + b))) := by simp [binV]
theorem b_sub : binV C .sub t (.int k a) (.int k b) = some (.int k (k.wrap (a - b))) := by simp [binV]
theorem b_mul : binV C .mul t (.int k a) (.int k b) = some (.int k (k.wrap (a * b))) := by simp [binV]
theorem b_quo (hb : b ≠ 0) : binV C .quo t (.int k a) (.int k b) = some (.int k (k.wrap (a.tdiv b))) := by simp [binV, hb]
theorem b_rem (hb : b ≠ 0) : binV C .rem t (.int k a) (.int k b) = some (.int k (a.tmod b)) := by simp [binV, hb]
theorem b_eql : binV C .eql t (.int k a) (.int k b) = some (.bool (decide (a = b))) := by simp [binV]; rfl
theorem b_neq : binV C .neq t (.int k a) (.int k b) = some (.bool (decide (a ≠ b))) := by simp [binV, bne]; rfl
theorem b_lss : binV C .lss t (.int k a) (.int k b) = some (.bool (decide (a < b))) := by simp [binV]
theorem b_leq : binV C .leq t (.int k a) (.int k b) = some (.bool (decide (a ≤ b))) := by simp [binV]
theorem b_gtr : binV C .gtr t (.int k a) (.int k b) = some (.bool (decide (a > b))) := by simp [binV]
theorem b_geq : binV C .geq t (.int k a) (.int k b) = some (.bool (decide (a ≥ b))) := by simp [binV]
theorem b_shl {k' : IntKind} (hb : 0 ≤ b) : binV C .shl t (.int k a) (.int k' b) = some (.int k (k.wrap (a * 2 ^ (min b.toNat k.bits)))) := by simp [binV]; omega
theorem b_shr {k' : IntKind} (hb : 0 ≤ b) : binV C .shr t (.int k a) (.int k' b) = some (.int k (a.fdiv (2 ^ (min b.toNat k.bits)))) := by simp [binV]; omega
theorem b_shr32 {k' : IntKind} : binV C .shr t (.int .u64 a) (.int k' 32) = some (.int .u64 (a / 4294967296)) := by
 simp only [binV]
 rw [if_neg (by omega)]
 have : (2 : Int) ^ (min (32 : Int).toNat IntKind.u64.bits) = 4294967296 := by decide
 rw [this, Int.fdiv_eq_ediv_of_nonneg _ (by decide)]
theorem b_shr63 {k' : IntKind} : binV C .shr t (.int .u64 a) (.int k' 63) = some (.int .u64 (a / 9223372036854775808)) := by
 simp only [binV]
 rw [if_neg (by omega)]
 have : (2 : Int) ^ (min (63 : Int).toNat IntKind.u64.bits) = 9223372036854775808 := by decide
 rw [this, Int.fdiv_eq_ediv_of_nonneg _ (by decide)]
theorem b_shl32 {k' : IntKind} : binV C .shl t (.int .u64 a) (.int k' 32) = some (.int .u64 (IntKind.u64.wrap (a * 4294967296))) := by
 simp only [binV]
 rw [if_neg (by omega)]
 have : (2 : Int) ^ (min (32 : Int).toNat IntKind.u64.bits) = 4294967296 := by decide
 rw [this]
theorem u_neg : unV .neg (.int k a) = some (.int k (k.wrap (0 - a))) := rfl
theorem u_not {x : Bool} : unV .not (.bool x) = some (.bool (!x)) := rfl
theorem mm_max : mmV true (.int k a) (.int k b) = some (.int k (max a b)) := by
 simp only [mmV, if_true, Option.some.injEq, Value.int.injEq, true_and]
 omega
theorem mm_min : mmV false (.int k a) (.int k b) = some (.int k (min a b)) := by
 simp only [mmV, Bool.false_eq_true, if_false, Option.some.injEq, Value.int.injEq, true_and]
 omega
theorem wrap_i64 (h1 : -9223372036854775808 ≤ a) (h2 : a < 9223372036854775808) : IntKind.i64.wrap a = a := by
 simp only [IntKind.wrap, IntKind.bits, IntKind.signed]
 simp
 omega
theorem wrap_u64 (h1 : 0 ≤ a) (h2 : a < 18446744073709551616) : IntKind.u64.wrap a = a := by
 simp only [IntKind.wrap, IntKind.bits, IntKind.signed]
 simp
 omega
theorem wrap_u32 (h1 : 0 ≤ a) (h2 : a < 4294967296) : IntKind.u32.wrap a = a := by
 simp only [IntKind.wrap, IntKind.bits, IntKind.signed]
 simp
 omega
theorem wrap_u8 (h1 : 0 ≤ a) (h2 : a < 256) : IntKind.u8.wrap a = a := by
 simp only [IntKind.wrap, IntKind.bits, IntKind.signed]
 simp
 omega
theorem wrap_u8m : IntKind.u8.wrap a = a % 256 := by
 simp [IntKind.wrap, IntKind.bits, IntKind.signed]
theorem wrap_i32 (h1 : -2147483648 ≤ a) (h2 : a < 2147483648) : IntKind.i32.wrap a = a := by
 simp only [IntKind.wrap, IntKind.bits, IntKind.signed]
 simp
 omega
theorem wrap_i8 (h1 : -128 ≤ a) (h2 : a < 128) : IntKind.i8.wrap a = a := by
 simp only [IntKind.wrap, IntKind.bits, IntKind.signed]
 simp
 omega
theorem b_shr16w {k' : IntKind} : binV C .shr t (.int .u32 a) (.int k' 16) = some (.int .u32 (a / 65536)) := by
 simp only [binV]
 rw [if_neg (by omega)]
 have : (2 : Int) ^ (min (16 : Int).toNat IntKind.u32.bits) = 65536 := by decide
 rw [this, Int.fdiv_eq_ediv_of_nonneg _ (by decide)]
theorem b_shr8w {k' : IntKind} : binV C .shr t (.int .u32 a) (.int k' 8) = some (.int .u32 (a / 256)) := by
 simp only [binV]
 rw [if_neg (by omega)]
 have : (2 : Int) ^ (min (8 : Int).toNat IntKind.u32.bits) = 256 := by decide
 rw [this, Int.fdiv_eq_ediv_of_nonneg _ (by decide)]
theorem b_shrn {n : Nat} (hn : n < 64) {k' : IntKind} : binV C .shr t (.int .u64 a) (.int k' (n : Int)) = some (.int .u64 (a / 2 ^ n)) := by
 simp only [binV]
 rw [if_neg (by omega)]
 have : min ((n : Int)).toNat IntKind.u64.bits = n := by simp [IntKind.bits]; omega
 rw [this, Int.fdiv_eq_ediv_of_nonneg _ (by exact_mod_cast Nat.zero_le (2 ^ n))]
theorem b_shln {n : Nat} (hn : n < 64) {k' : IntKind} : binV C .shl t (.int .u64 a) (.int k' (n : Int)) = some (.int .u64 (IntKind.u64.wrap (a * 2 ^ n))) := by
 simp only [binV]
 rw [if_neg (by omega)]
 have : min ((n : Int)).toNat IntKind.u64.bits = n := by simp [IntKind.bits]; omega
 rw [this]
theorem b_quo' (hb : 0 < b) (h0 : 0 ≤ a) : binV C .quo t (.int k a) (.int k b) = some (.int k (k.wrap (a / b))) := by
 rw [b_quo (by omega), Int.tdiv_eq_ediv_of_nonneg h0]
theorem b_rem' (hb : 0 < b) (h0 : 0 ≤ a) : binV C .rem t (.int k a) (.int k b) = some (.int k (a % b)) := by
 rw [b_rem (by omega), Int.tmod_eq_emod_of_nonneg h0]
theorem b_or_n {x y n : Nat} (hx : x < 2 ^ n) (hy : y % 2 ^ n = 0) : y ||| x = y + x := by
 obtain ⟨q, rfl⟩ := Nat.dvd_of_mod_eq_zero hy
 exact (Nat.two_pow_add_eq_or_of_lt hx q).symm
theorem b_oru64 {x y : Nat} (hx : x < 18446744073709551616) (hy : y < 18446744073709551616) : binV C .or t (.int .u64 (x : Int)) (.int .u64 (y : Int)) = some (.int .u64 ((x ||| y : Nat) : Int)) := by
 have h1 : x ||| y < 2 ^ 64 := Nat.or_lt_two_pow hx hy
 simp only [binV, if_true, Option.some.injEq, Value.int.injEq, true_and]
 have : (BitVec.ofInt IntKind.u64.bits (x : Int) ||| BitVec.ofInt IntKind.u64.bits (y : Int)).toNat = x ||| y := by
  show (BitVec.ofInt 64 (x : Int) ||| BitVec.ofInt 64 (y : Int)).toNat = _
  rw [BitVec.toNat_or, BitVec.toNat_ofInt, BitVec.toNat_ofInt]
  congr 1 <;> omega
 rw [this, wrap_u64 (by omega) (by omega)]
theorem b_oru32 {x y : Nat} (hx : x < 4294967296) (hy : y < 4294967296) : binV C .or t (.int .u32 (x : Int)) (.int .u32 (y : Int)) = some (.int .u32 ((x ||| y : Nat) : Int)) := by
 have h1 : x ||| y < 2 ^ 32 := Nat.or_lt_two_pow hx hy
 simp only [binV, if_true, Option.some.injEq, Value.int.injEq, true_and]
 have : (BitVec.ofInt IntKind.u32.bits (x : Int) ||| BitVec.ofInt IntKind.u32.bits (y : Int)).toNat = x ||| y := by
  show (BitVec.ofInt 32 (x : Int) ||| BitVec.ofInt 32 (y : Int)).toNat = _
  rw [BitVec.toNat_or, BitVec.toNat_ofInt, BitVec.toNat_ofInt]
  congr 1 <;> omega
 rw [this, wrap_u32 (by omega) (by omega)]
theorem b_andu64 {x y : Nat} (hx : x < 18446744073709551616) (hy : y < 18446744073709551616) : binV C .and t (.int .u64 (x : Int)) (.int .u64 (y : Int)) = some (.int .u64 ((x &&& y : Nat) : Int)) := by
 have h1 : x &&& y < 2 ^ 64 := Nat.and_lt_two_pow _ hy
 simp only [binV, if_true, Option.some.injEq, Value.int.injEq, true_and]
 have : (BitVec.ofInt IntKind.u64.bits (x : Int) &&& BitVec.ofInt IntKind.u64.bits (y : Int)).toNat = x &&& y := by
  show (BitVec.ofInt 64 (x : Int) &&& BitVec.ofInt 64 (y : Int)).toNat = _
  rw [BitVec.toNat_and, BitVec.toNat_ofInt, BitVec.toNat_ofInt]
  congr 1 <;> omega
 rw [this, wrap_u64 (by omega) (by omega)]
theorem b_or64 (h1 : a % 4294967296 = 0) (h2 : 0 ≤ a) (h3 : a < 18446744073709551616) (h4 : 0 ≤ b) (h5 : b < 4294967296) : binV C .or t (.int .u64 a) (.int .u64 b) = some (.int .u64 (a + b)) := by
 obtain ⟨x, rfl⟩ := Int.eq_ofNat_of_zero_le h2
 obtain ⟨y, rfl⟩ := Int.eq_ofNat_of_zero_le h4
 rw [b_oru64 (by omega) (by omega), b_or_n (n := 32) (by omega) (by omega)]
 simp
theorem b_and32 (h2 : 0 ≤ a) (h3 : a < 18446744073709551616) : binV C .and t (.int .u64 a) (.int .u64 4294967295) = some (.int .u64 (a % 4294967296)) := by
 obtain ⟨x, rfl⟩ := Int.eq_ofNat_of_zero_le h2
 have := b_andu64 (C := C) (t := t) (x := x) (y := 4294967295) (by omega) (by omega)
 refine Eq.trans this ?_
 have e : x &&& 4294967295 = x % 4294967296 := Nat.and_two_pow_sub_one_eq_mod x 32
 rw [e]
 simp
theorem wrap_u64m : IntKind.u64.wrap a = a % 18446744073709551616 := by
 simp [IntKind.wrap, IntKind.bits, IntKind.signed]
theorem wrap_u32m : IntKind.u32.wrap a = a % 4294967296 := by
 simp [IntKind.wrap, IntKind.bits, IntKind.signed]
end
def u32L (l : List Nat) : List Value := l.map fun (x : Nat) => Value.int .u32 (x : Int)
def u32S (l : List Nat) : Value := fS l.length (u32L l).toArray
theorem u32L_len (l : List Nat) : (u32L l).length = l.length := by simp [u32L]
theorem u32L_get {l : List Nat} {i : Nat} (hi : i < l.length) : (u32L l)[i]? = some (.int .u32 (l.getD i 0 : Nat)) := by simp [u32L, hi]
theorem s_u32S {l : List Nat} : seen (u32S l) = u32S l := rfl
section
variable {t e' : TypeId} {s b s' b' : Nat} {z z' : Value}
theorem len_u32S {l : List Nat} (ht : C.T t = some ⟨.slice e', s, b, z⟩) : lenV C t (u32S l) = some (.int .i64 (l.length : Int)) := by
 unfold lenV u32S
 rw [ht]
theorem idx_u32S {l : List Nat} {i : Int} {k : IntKind} (ht : C.T t = some ⟨.slice e', s, b, z⟩) (he : C.T e' = some ⟨.int .u32, 1, b', z'⟩) (h0 : 0 ≤ i) (h1 : i < l.length) :
  idxV C t (u32S l) (.int k i) = some (fP i.toNat (u32L l).toArray) := by
 unfold idxV u32S
 simp only [ht, he, Option.bind_some]
 rw [if_pos ⟨h0, h1, by simp [u32L_len]⟩, Nat.mul_one]
theorem load_u32S {l : List Nat} {i : Nat} (he : C.T e' = some ⟨.int .u32, s', b', z'⟩) (h1 : i < l.length) : loadV C e' (fP i (u32L l).toArray) h = some (.int .u32 (l.getD i 0 : Nat)) := by
 unfold loadV
 simp only [he, TK.isAgg]
 simpa using u32L_get h1
end
theorem vm (P : Program) (C : Cfg) : type_of% (And.intro (@WOps.cons P C) (And.intro (@WOps.nil P C) (And.intro (@WTs.cons P C) (And.intro (@WTs.nil P C) (And.intro (@wst_guard P C) (And.intro (@w_move P C) (And.intro (@w_assign P C) (And.intro (@w_pick P C) (And.intro (@w_alloc P C) (And.intro (@w_box P C) (And.intro (@w_build P C) (And.intro (@w_buildSlice P C) (And.intro (@w_load P C) (And.intro (@w_store P C) (And.intro (@w_nilCheck P C) (And.intro (@w_bin P C) (And.intro (@w_un P C) (And.intro (@w_cvt P C) (And.intro (@w_makeFunc P C) (And.intro (@w_makeSlice P C) (And.intro (@w_slice P C) (And.intro (@w_fieldAddr P C) (And.intro (@w_field P C) (And.intro (@w_indexAddr P C) (And.intro (@w_extract P C) (And.intro (@w_index P C) (And.intro (@w_len P C) (And.intro (@w_append P C) (And.intro (@w_copy P C) (And.intro (@w_max P C) (And.intro (@w_min P C) (And.intro (@w_callf P C) (And.intro (@WCall_c P C) (And.intro (@rd_tmp C) (And.intro (@rd_const C) (And.intro (@rd_func C) (And.intro (@b_add C) (And.intro (@b_sub C) (And.intro (@b_mul C) (And.intro (@b_eql C) (And.intro (@b_neq C) (And.intro (@b_lss C) (And.intro (@b_leq C) (And.intro (@b_gtr C) (And.intro (@b_geq C) (And.intro (@OV_some) (And.intro (@WG_tt) (And.intro (@WG_ff) (And.intro (@WG_tf) (And.intro (@WG_ft) (And.intro (@WG_u) (And.intro (@gdst_zero) (And.intro (@gdst_succ) (And.intro (@gval_some) (And.intro (@pickV_tt) (And.intro (@pickV_ff) (And.intro (@put_some) (And.intro (@put_none) (And.intro (@c_int) (And.intro (@c_bool) (And.intro (@c_string) (And.intro (@c_nil) (And.intro (@c_ptr) (And.intro (@s_int) (And.intro (@s_bool) (And.intro (@s_string) (And.intro (@s_slice) (And.intro (@s_ptr) (And.intro (@s_func) (And.intro (@s_agg) (And.intro (@s_tuple) (And.intro (@s_und) (And.intro (@e0_zero) (And.intro (@e0_succ) (And.intro (@e0_nil) (And.intro (@s_s) (And.intro (@s_u32S) (And.intro (@w_newAt) (And.intro (@u_neg) (And.intro (@u_not) (And.intro (@mm_max) (And.intro (@mm_min) (And.intro (@gr_refl) (And.intro (@gr_push) (And.intro (@lo_fP) (And.intro (@lo_ptr) (And.intro (@ow_load) (And.intro (@ow_move) (And.intro (@ow_assign) (And.intro (@ow_pick) (And.intro (@ow_alloc) (And.intro (@ow_box) (And.intro (@ow_build) (And.intro (@ow_buildSlice) (And.intro (@ow_store) (And.intro (@ow_nilCheck) (And.intro (@ow_bin) (And.intro (@ow_un) (And.intro (@ow_cvt) (And.intro (@ow_makeFunc) (And.intro (@ow_makeSlice) (And.intro (@ow_slice) (And.intro (@ow_fieldAddr) (And.intro (@ow_field) (And.intro (@ow_indexAddr) (And.intro (@ow_extract) (And.intro (@ow_index) (And.intro (@ow_call) (And.intro (@true_and) (And.intro (@and_true) (@true_or))))))))))))))))))))))))))))))))))))))))))))))))))))))))))))))))))))))))))))))))))))))))))))))))))))))))))))))) :=
 ⟨@WOps.cons P C, @WOps.nil P C, @WTs.cons P C, @WTs.nil P C, @wst_guard P C, @w_move P C, @w_assign P C, @w_pick P C, @w_alloc P C, @w_box P C, @w_build P C, @w_buildSlice P C, @w_load P C, @w_store P C, @w_nilCheck P C, @w_bin P C, @w_un P C, @w_cvt P C, @w_makeFunc P C, @w_makeSlice P C, @w_slice P C, @w_fieldAddr P C, @w_field P C, @w_indexAddr P C, @w_extract P C, @w_index P C, @w_len P C, @w_append P C, @w_copy P C, @w_max P C, @w_min P C, @w_callf P C, @WCall_c P C, @rd_tmp C, @rd_const C, @rd_func C, @b_add C, @b_sub C, @b_mul C, @b_eql C, @b_neq C, @b_lss C, @b_leq C, @b_gtr C, @b_geq C, @OV_some, @WG_tt, @WG_ff, @WG_tf, @WG_ft, @WG_u, @gdst_zero, @gdst_succ, @gval_some, @pickV_tt, @pickV_ff, @put_some, @put_none, @c_int, @c_bool, @c_string, @c_nil, @c_ptr, @s_int, @s_bool, @s_string, @s_slice, @s_ptr, @s_func, @s_agg, @s_tuple, @s_und, @e0_zero, @e0_succ, @e0_nil, @s_s, @s_u32S, @w_newAt, @u_neg, @u_not, @mm_max, @mm_min, @gr_refl, @gr_push, @lo_fP, @lo_ptr, @ow_load, @ow_move, @ow_assign, @ow_pick, @ow_alloc, @ow_box, @ow_build, @ow_buildSlice, @ow_store, @ow_nilCheck, @ow_bin, @ow_un, @ow_cvt, @ow_makeFunc, @ow_makeSlice, @ow_slice, @ow_fieldAddr, @ow_field, @ow_indexAddr, @ow_extract, @ow_index, @ow_call, @true_and, @and_true, @true_or⟩
end Go.QM
end

section
namespace Go.QM
variable {P : Program}
def descK : TypeDesc → TK
 | .int k => .int k
 | .bool => .bool
 | .string => .string
 | .slice e => .slice e
 | .struct f => .struct (f.toList.map fun x => (x.offset, x.type))
 | .array n e => .array n e
 | .pointer e => .pointer e
 | _ => .other
theorem descK_ok (d : TypeDesc) : DescOk (descK d) d := by
 cases d <;> first | rfl | exact ⟨_, rfl, rfl⟩ | exact trivial
theorem TOk.of {t : TypeId} {i : TI} (hk : (P.underlying t).map descK = some i.k) (hi : (P.info? t).map (fun f => (f.size, f.bytes, f.zero)) = some (i.size, i.bytes, some i.zero))
  (hz : (i.zero.cells.size == i.size && i.zero.cells.toList.all plainV) = true) : TOk P t i := by
 simp only [Bool.and_eq_true, beq_iff_eq, List.all_eq_true] at hz
 rw [Option.map_eq_some_iff] at hk hi
 obtain ⟨d, hd, hk⟩ := hk
 obtain ⟨f, hf, hi⟩ := hi
 injection hi with e1 e2
 injection e2 with e2 e3
 exact ⟨hz.1, hz.2, ⟨d, hd, by rw [← hk]; exact descK_ok d⟩, f, hf, e1, e2, e3⟩
end Go.QM
end

section
namespace Go.QM
variable {P : Program} {C : Cfg} {h g : VH} {b x off n : Nat} {B B' : Blk} {v : Value}
structure VH.le (h h1 : VH) : Prop where
 next : h.next ≤ h1.next
 keep : ∀ b, b < h.next → h1.blk b = h.blk b
theorem VH.le_refl (h : VH) : h.le h := ⟨Nat.le_refl _, fun _ _ => rfl⟩
theorem VH.le_trans {h1 h2 h3 : VH} (a : h1.le h2) (b : h2.le h3) : h1.le h3 := ⟨Nat.le_trans a.1 b.1, fun x hx => (b.2 x (Nat.lt_of_lt_of_le hx a.1)).trans (a.2 x hx)⟩
theorem VH.le.trans {h1 h2 h3 : VH} (a : h1.le h2) (b : h2.le h3) : h1.le h3 := VH.le_trans a b
theorem VH.le_push (h : VH) (B : Blk) : h.le (h.push B) := ⟨Nat.le_succ _, fun b hb => by
 show (if b = h.next then _ else _) = _
 rw [if_neg (by omega)]⟩
theorem VH.le_set {h h1 : VH} (hl : h.le h1) {b : Nat} (hb : h.next ≤ b) (B : Option Blk) : h.le (h1.set b B) := ⟨hl.1, fun y hy => by
 show (if y = b then _ else _) = _
 rw [if_neg (by omega)]
 exact hl.2 y hy⟩
theorem next_push : (h.push B).next = h.next + 1 := rfl
theorem next_set {o : Option Blk} : (h.set b o).next = h.next := rfl
theorem blk_push : (h.push B).blk h.next = some B := if_pos rfl
theorem blk_push_ne (hb : b ≠ h.next) : (h.push B).blk b = h.blk b := if_neg hb
theorem blk_set {o : Option Blk} : (h.set b o).blk b = o := if_pos rfl
theorem blk_set_ne {o : Option Blk} (hb : x ≠ b) : (h.set b o).blk x = h.blk x := if_neg hb
theorem set_push {o : Blk} : (h.push B).set h.next (some o) = h.push o := by
 unfold VH.set VH.push
 simp only [VH.mk.injEq, true_and]
 funext y
 by_cases hy : y = h.next <;> simp [hy]
theorem set_push_ne {o : Option Blk} (hb : b ≠ h.next) : (h.push B).set b o = (h.set b o).push B := by
 unfold VH.set VH.push
 simp only [VH.mk.injEq, true_and]
 funext y
 by_cases hy : y = h.next
 ·subst hy; simp; intro e; exact absurd e.symm hb
 ·simp [hy]
theorem set_set {o o' : Option Blk} : (h.set b o).set b o' = h.set b o' := by
 unfold VH.set
 simp only [VH.mk.injEq, true_and]
 funext y
 by_cases hy : y = b <;> simp [hy]
def wr1 (h : VH) (b off : Nat) (v : Value) : Option VH := (h.blk b).bind fun B => if off < B.cs.length then some (h.set b (some ⟨B.ty, B.sz, B.cs.set off v⟩)) else none
theorem wrN_one : wrN 0 h b off [v] = wr1 h b off v := by
 unfold wrN wr1
 rw [if_pos (Nat.zero_le _)]
 cases h.blk b with
 | none => rfl
 | some B =>
  simp only [Option.bind_some, List.length_singleton]
  by_cases ho : off < B.cs.length
  ·rw [if_pos ho, if_pos (by omega), List.set_eq_take_append_cons_drop, if_pos ho]
   simp
  ·rw [if_neg ho, if_neg (by omega)]
theorem rd1_push : rd1 (h.push B) h.next off = B.cs[off]? := by simp [rd1, VH.push]
theorem rd1_push_ne (hb : b ≠ h.next) : rd1 (h.push B) b off = rd1 h b off := by simp [rd1, VH.push, hb]
theorem rd1_set : rd1 (h.set b (some B)) b off = B.cs[off]? := by simp [rd1, VH.set]
theorem rd1_set_ne {o : Option Blk} (hb : x ≠ b) : rd1 (h.set b o) x off = rd1 h x off := by simp [rd1, VH.set, hb]
theorem rd1_of (hb : h.blk b = some B) : rd1 h b off = B.cs[off]? := by simp [rd1, hb]
theorem rdN_push : rdN (h.push B) h.next off n = if off + n ≤ B.cs.length then some ((B.cs.drop off).take n) else none := by simp [rdN, VH.push]
theorem rdN_push_ne (hb : b ≠ h.next) : rdN (h.push B) b off n = rdN h b off n := by simp [rdN, VH.push, hb]
theorem rdN_set : rdN (h.set b (some B)) b off n = if off + n ≤ B.cs.length then some ((B.cs.drop off).take n) else none := by simp [rdN, VH.set]
theorem rdN_set_ne {o : Option Blk} (hb : x ≠ b) : rdN (h.set b o) x off n = rdN h x off n := by simp [rdN, VH.set, hb]
theorem rdN_of (hb : h.blk b = some B) : rdN h b off n = if off + n ≤ B.cs.length then some ((B.cs.drop off).take n) else none := by simp [rdN, hb]
theorem wr1_push (ho : off < B.cs.length) : wr1 (h.push B) h.next off v = some (h.push ⟨B.ty, B.sz, B.cs.set off v⟩) := by
 simp only [wr1, blk_push, Option.bind_some, if_pos ho, set_push]
theorem wr1_push_ne (hb : b ≠ h.next) : wr1 (h.push B) b off v = (wr1 h b off v).map fun g => g.push B := by
 unfold wr1
 rw [blk_push_ne hb]
 cases h.blk b with
 | none => rfl
 | some B2 =>
  simp only [Option.bind_some]
  split
  ·rw [set_push_ne hb]; rfl
  ·rfl
theorem wr1_of (hb : h.blk b = some B) (ho : off < B.cs.length) : wr1 h b off v = some (h.set b (some ⟨B.ty, B.sz, B.cs.set off v⟩)) := by
 simp only [wr1, hb, Option.bind_some, if_pos ho]
theorem wr1_set (ho : off < B.cs.length) : wr1 (h.set b (some B)) b off v = some (h.set b (some ⟨B.ty, B.sz, B.cs.set off v⟩)) := by
 simp only [wr1, blk_set, Option.bind_some, if_pos ho, set_set]
def VH.skip (h : VH) : VH := ⟨h.next + 1, fun y => if y = h.next then none else h.blk y⟩
theorem next_skip : h.skip.next = h.next + 1 := rfl
theorem VH.le_skip (h : VH) : h.le h.skip := ⟨Nat.le_succ _, fun b hb => by
 show (if b = h.next then _ else _) = _
 rw [if_neg (by omega)]⟩
theorem set_push_none (hb : b = h.next) : (h.push B).set b none = h.skip := by
 subst hb
 unfold VH.set VH.push VH.skip
 simp only [VH.mk.injEq, true_and]
 funext y
 by_cases hy : y = h.next <;> simp [hy]
theorem set_skip_ne {o : Option Blk} (hb : b ≠ h.next) : h.skip.set b o = (h.set b o).skip := by
 unfold VH.set VH.skip
 simp only [VH.mk.injEq, true_and]
 funext y
 by_cases hy : y = h.next
 ·subst hy; simp; intro e; exact absurd e.symm hb
 ·simp [hy]
theorem blk_skip_ne (hb : b ≠ h.next) : h.skip.blk b = h.blk b := if_neg hb
theorem rd1_skip_ne (hb : b ≠ h.next) : rd1 h.skip b off = rd1 h b off := by simp [rd1, VH.skip, hb]
theorem rdN_skip_ne (hb : b ≠ h.next) : rdN h.skip b off n = rdN h b off n := by simp [rdN, VH.skip, hb]
theorem wr1_skip_ne (hb : b ≠ h.next) : wr1 h.skip b off v = (wr1 h b off v).map fun g => g.skip := by
 unfold wr1
 rw [blk_skip_ne hb]
 cases h.blk b with
 | none => rfl
 | some B2 =>
  simp only [Option.bind_some]
  split
  ·rw [set_skip_ne hb]; rfl
  ·rfl
theorem rd1_le {h1 : VH} (hl : h.le h1) (hb : b < h.next) : rd1 h1 b off = rd1 h b off := by simp [rd1, hl.2 b hb]
theorem rdN_le {h1 : VH} (hl : h.le h1) (hb : b < h.next) : rdN h1 b off n = rdN h b off n := by simp [rdN, hl.2 b hb]
theorem gr_le {Kp : Nat → Prop} {n0 : Nat} {h1 : VH} (hl : h.le h1) : Grow Kp n0 h h1 = True := eq_true ⟨hl.1, fun b hb hn => by rw [hl.2 b hb]; exact hn, fun b hb _ => hl.2 b hb⟩
def WF (P : Program) (C : Cfg) (c : Code) (e : Env) (h : VH) (Q : Exit → Env → VH → Prop) (_ : Cw Q := .mk) : Prop := ∃ e2 h2, Fz C.base e h e2 h2 ∧ W P C c e2 h2 Q
section
variable {c : Code} {e : Env} {Q : Exit → Env → VH → Prop} {cw : Cw Q}
theorem WF.done (hw : W P C c e h Q) : WF P C c e h Q cw := ⟨_, _, .refl _ _, hw⟩
theorem WF.one (t b : Nat) {B : Blk} (h0 : C.base = 0) (hB : h.blk b = some B) (hw : WF P C c (e.put (some t) (fzT b B (e t))) (h.set b none) Q) : WF P C c e h Q cw := by
 obtain ⟨e2, h2, hf, hw⟩ := hw
 refine ⟨e2, h2, .env [t] b hB (by omega) ?_, hw⟩
 have : (fun x => if [t].contains x then fzT b B (e x) else e x) = e.put (some t) (fzT b B (e t)) := by
  funext x
  by_cases hx : x = t
  ·subst hx; simp [Env.put]
  ·simp [Env.put, hx]
 rw [this]
 exact hf
theorem WF.nil (t : Nat) (hw : WF P C c (e.put (some t) (nilT (e t))) h Q) : WF P C c e h Q cw := by
 obtain ⟨e2, h2, hf, hw⟩ := hw
 refine ⟨e2, h2, .nils [t] ?_, hw⟩
 have : (fun x => if [t].contains x then nilT (e x) else e x) = e.put (some t) (nilT (e t)) := by
  funext x
  by_cases hx : x = t
  ·subst hx; simp [Env.put]
  ·simp [Env.put, hx]
 rw [this]
 exact hf
theorem W.rseqZ {id : Nat} {ops : Array Oper} {b : Code} (hw : WOps P C ops ops.toList e h fun e1 h1 => WF P C b e1 h1 Q) : W P C (.seq (.region id ops false) b) e h Q := W.rseqF hw
theorem W.dseqZ {id : Nat} {ops : Array Oper} {b : Code} (Kp : Nat → Prop) (hd : drawOk ops (masksOf ops) = true) (hw : WTs P C Kp h.next ops ops.toList e h fun e1 h1 => WF P C b e1 h1 Q) : W P C (.seq (.region id ops true) b) e h Q := W.dseqF Kp hd hw
theorem W.seqZ {a b : Code} (hw : W P C a e h fun x e1 h1 => match x with | .normal => WF P C b e1 h1 Q | x => Q x e1 h1) : W P C (.seq a b) e h Q := W.seqF hw
end
section
variable {c : Code} {e : Env} {Q : Exit → Env → VH → Prop} {cw : Cw Q} {B0 B1 B2 B3 B4 B5 : Blk}
theorem WF.d0 (t : Nat) (h0 : C.base = 0) (hw : WF P C c (e.put (some t) (fzT h.next B0 (e t))) (h.skip) Q) : WF P C c e (h.push B0) Q cw := by
 have hb : (h.push B0).blk h.next = some B0 := by
  exact blk_push
 have hs : (h.push B0).set h.next none = h.skip := by
  rw [set_push_none rfl]
 refine WF.one t h.next h0 hb ?_
 rw [hs]
 exact hw
theorem WF.d1 (t : Nat) (h0 : C.base = 0) (hw : WF P C c (e.put (some t) (fzT h.next B0 (e t))) ((h.skip).push B1) Q) : WF P C c e ((h.push B0).push B1) Q cw := by
 have hb : ((h.push B0).push B1).blk h.next = some B0 := by
  rw [blk_push_ne (by simp only [next_push]; omega)]
  exact blk_push
 have hs : ((h.push B0).push B1).set h.next none = (h.skip).push B1 := by
  rw [set_push_ne (by simp only [next_push]; omega)]
  rw [set_push_none rfl]
 refine WF.one t h.next h0 hb ?_
 rw [hs]
 exact hw
theorem WF.d2 (t : Nat) (h0 : C.base = 0) (hw : WF P C c (e.put (some t) (fzT h.next B0 (e t))) (((h.skip).push B1).push B2) Q) : WF P C c e (((h.push B0).push B1).push B2) Q cw := by
 have hb : (((h.push B0).push B1).push B2).blk h.next = some B0 := by
  rw [blk_push_ne (by simp only [next_push]; omega)]
  rw [blk_push_ne (by simp only [next_push]; omega)]
  exact blk_push
 have hs : (((h.push B0).push B1).push B2).set h.next none = ((h.skip).push B1).push B2 := by
  rw [set_push_ne (by simp only [next_push]; omega)]
  rw [set_push_ne (by simp only [next_push]; omega)]
  rw [set_push_none rfl]
 refine WF.one t h.next h0 hb ?_
 rw [hs]
 exact hw
theorem WF.d3 (t : Nat) (h0 : C.base = 0) (hw : WF P C c (e.put (some t) (fzT h.next B0 (e t))) ((((h.skip).push B1).push B2).push B3) Q) : WF P C c e ((((h.push B0).push B1).push B2).push B3) Q cw := by
 have hb : ((((h.push B0).push B1).push B2).push B3).blk h.next = some B0 := by
  rw [blk_push_ne (by simp only [next_push]; omega)]
  rw [blk_push_ne (by simp only [next_push]; omega)]
  rw [blk_push_ne (by simp only [next_push]; omega)]
  exact blk_push
 have hs : ((((h.push B0).push B1).push B2).push B3).set h.next none = (((h.skip).push B1).push B2).push B3 := by
  rw [set_push_ne (by simp only [next_push]; omega)]
  rw [set_push_ne (by simp only [next_push]; omega)]
  rw [set_push_ne (by simp only [next_push]; omega)]
  rw [set_push_none rfl]
 refine WF.one t h.next h0 hb ?_
 rw [hs]
 exact hw
theorem WF.d4 (t : Nat) (h0 : C.base = 0) (hw : WF P C c (e.put (some t) (fzT h.next B0 (e t))) (((((h.skip).push B1).push B2).push B3).push B4) Q) : WF P C c e (((((h.push B0).push B1).push B2).push B3).push B4) Q cw := by
 have hb : (((((h.push B0).push B1).push B2).push B3).push B4).blk h.next = some B0 := by
  rw [blk_push_ne (by simp only [next_push]; omega)]
  rw [blk_push_ne (by simp only [next_push]; omega)]
  rw [blk_push_ne (by simp only [next_push]; omega)]
  rw [blk_push_ne (by simp only [next_push]; omega)]
  exact blk_push
 have hs : (((((h.push B0).push B1).push B2).push B3).push B4).set h.next none = ((((h.skip).push B1).push B2).push B3).push B4 := by
  rw [set_push_ne (by simp only [next_push]; omega)]
  rw [set_push_ne (by simp only [next_push]; omega)]
  rw [set_push_ne (by simp only [next_push]; omega)]
  rw [set_push_ne (by simp only [next_push]; omega)]
  rw [set_push_none rfl]
 refine WF.one t h.next h0 hb ?_
 rw [hs]
 exact hw
theorem WF.d5 (t : Nat) (h0 : C.base = 0) (hw : WF P C c (e.put (some t) (fzT h.next B0 (e t))) ((((((h.skip).push B1).push B2).push B3).push B4).push B5) Q) : WF P C c e ((((((h.push B0).push B1).push B2).push B3).push B4).push B5) Q cw := by
 have hb : ((((((h.push B0).push B1).push B2).push B3).push B4).push B5).blk h.next = some B0 := by
  rw [blk_push_ne (by simp only [next_push]; omega)]
  rw [blk_push_ne (by simp only [next_push]; omega)]
  rw [blk_push_ne (by simp only [next_push]; omega)]
  rw [blk_push_ne (by simp only [next_push]; omega)]
  rw [blk_push_ne (by simp only [next_push]; omega)]
  exact blk_push
 have hs : ((((((h.push B0).push B1).push B2).push B3).push B4).push B5).set h.next none = (((((h.skip).push B1).push B2).push B3).push B4).push B5 := by
  rw [set_push_ne (by simp only [next_push]; omega)]
  rw [set_push_ne (by simp only [next_push]; omega)]
  rw [set_push_ne (by simp only [next_push]; omega)]
  rw [set_push_ne (by simp only [next_push]; omega)]
  rw [set_push_ne (by simp only [next_push]; omega)]
  rw [set_push_none rfl]
 refine WF.one t h.next h0 hb ?_
 rw [hs]
 exact hw
end
theorem fzT_ptr {b' off : Nat} (hb : b' = b) : fzT b B (.pointer (some ⟨b', off, none⟩)) = fP off B.cs.toArray := by simp [fzT, fz1, hb]
theorem fzT_sl {b' off len cap : Nat} (hb : b' = b) (hl : off + len * B.sz ≤ B.cs.length) : fzT b B (.slice (some ⟨b', off, none⟩) len cap) = fS len ((B.cs.drop off).take (len * B.sz)).toArray := by simp [fzT, fz1, hb, hl]
theorem fzT_u32 {b' len cap ty : Nat} {l : List Nat} (hb : b' = b) (hl : len = l.length) : fzT b ⟨ty, 1, u32L l⟩ (.slice (some ⟨b', 0, none⟩) len cap) = u32S l := by
 subst hl
 have : List.take l.length (u32L l) = u32L l := List.take_of_length_le (by rw [u32L_len]; exact Nat.le_refl _)
 simp [fzT, fz1, hb, u32L_len, u32S, this]
theorem nilT_nil : nilT (.slice none 0 0) = fS 0 #[] := rfl
theorem Runs.frz {g : FuncId} {args : List Value} {Q : Value → VH → Prop} {c : Cw Q} (i b : Nat) {B : Blk} {v : Value} (h0 : C.base = 0) (hB : h.blk b = some B) (hv : args[i]? = some v)
  (hr : Runs P C g (args.set i (fzT b B v)) (h.set b none) Q) : Runs P C g args h Q c := by
 obtain ⟨v1, h1, ⟨n, hn⟩, hq⟩ := hr
 refine ⟨v1, h1, ⟨n, ?_⟩, hq⟩
 cases n with
 | zero => exact hn.elim
 | succ n =>
  obtain ⟨fn, body, e0, h0', e1, h2, e', x, a1, a2, a3, a4, a5, a6, a7, a8, a9, a10⟩ := hn
  refine ⟨fn, body, e0, h0', e1, h2, e', x, a1, a2, a3, a4, by simpa using a5, ?_, a7, a8, a9, a10⟩
  refine .env [i] b hB (by omega) ?_
  have : (fun t => if [i].contains t then fzT b B (env0 args t) else env0 args t) = env0 (args.set i (fzT b B v)) := by
   have hi := (List.getElem?_eq_some_iff.1 hv).1
   funext t
   by_cases ht : t = i
   ·subst ht
    have hv2 : args[t] = v := (List.getElem?_eq_some_iff.1 hv).2
    simp [env0, hv2, hi]
   ·simp [env0, ht, List.getElem?_set_ne (fun e => ht e.symm)]
  rw [this]
  exact a6
theorem ress_t {fn : Func} {e : Env} {t : Tmp} (hr : fn.results = #[.tmp t]) : ressV C fn e h = some (seen (e t)) := by
 simp [ressV, hr, resV]
theorem ress_c {fn : Func} {e : Env} {t : Tmp} {ty : TypeId} {v : Value} (hr : fn.results = #[.cell t ty]) (hv : loadV C ty (e t) h = some v) : ressV C fn e h = some v := by
 simp [ressV, hr, resV, hv]
theorem ress_l {fn : Func} {e : Env} {rs : List ResultVar} {v w : Value} {vs : List Value} (hr : fn.results.toList = rs) (hv : rs.mapM (resV C e h) = some (v :: w :: vs)) : ressV C fn e h = some (.tuple (v :: w :: vs).toArray) := by
 unfold ressV
 rw [hr, hv]
section
variable {t e' : TypeId} {s b0 s' b1 : Nat} {z z' : Value} {k k' : IntKind} {a : Int} {l : List Nat}
def loadT (i : Option TI) (x : Value) (h : VH) : Option Value :=
 match x, i with
 | .pointer (some ⟨b, off, none⟩), some i => if i.k.isAgg then (rdN h b off i.size).map fun l => .agg l.toArray else rd1 h b off
 | .func (.methodOf off _) _ cs, some i => if i.k.isAgg then (if off + i.size ≤ cs.size then some (.agg ((cs.toList.drop off).take i.size).toArray) else none) else cs[off]?
 | _, _ => none
theorem ld {x : Value} : loadV C t x h = loadT (C.T t) x h := rfl
theorem ldT_int : loadT (some ⟨.int k, s, b0, z⟩) (.pointer (some ⟨b, off, none⟩)) h = rd1 h b off := rfl
theorem ldT_bool : loadT (some ⟨.bool, s, b0, z⟩) (.pointer (some ⟨b, off, none⟩)) h = rd1 h b off := rfl
theorem ldT_string : loadT (some ⟨.string, s, b0, z⟩) (.pointer (some ⟨b, off, none⟩)) h = rd1 h b off := rfl
theorem ldT_slice : loadT (some ⟨.slice e', s, b0, z⟩) (.pointer (some ⟨b, off, none⟩)) h = rd1 h b off := rfl
theorem ldT_ptr : loadT (some ⟨.pointer e', s, b0, z⟩) (.pointer (some ⟨b, off, none⟩)) h = rd1 h b off := rfl
theorem ldT_other : loadT (some ⟨.other, s, b0, z⟩) (.pointer (some ⟨b, off, none⟩)) h = rd1 h b off := rfl
theorem ldT_struct {fs : List (Nat × TypeId)} : loadT (some ⟨.struct fs, s, b0, z⟩) (.pointer (some ⟨b, off, none⟩)) h = (rdN h b off s).map fun l => .agg l.toArray := rfl
theorem ldF_int {cs : Array Value} : loadT (some ⟨.int k, s, b0, z⟩) (fP off cs) h = cs[off]? := rfl
theorem ldF_bool {cs : Array Value} : loadT (some ⟨.bool, s, b0, z⟩) (fP off cs) h = cs[off]? := rfl
theorem ldF_string {cs : Array Value} : loadT (some ⟨.string, s, b0, z⟩) (fP off cs) h = cs[off]? := rfl
theorem ldF_slice {cs : Array Value} : loadT (some ⟨.slice e', s, b0, z⟩) (fP off cs) h = cs[off]? := rfl
theorem ldF_ptr {cs : Array Value} : loadT (some ⟨.pointer e', s, b0, z⟩) (fP off cs) h = cs[off]? := rfl
theorem ldF_other {cs : Array Value} : loadT (some ⟨.other, s, b0, z⟩) (fP off cs) h = cs[off]? := rfl
theorem ldF_struct {fs : List (Nat × TypeId)} {cs : Array Value} (ho : off + s ≤ cs.size) : loadT (some ⟨.struct fs, s, b0, z⟩) (fP off cs) h = some (.agg ((cs.toList.drop off).take s).toArray) := by
 unfold loadT; simp only [TK.isAgg, if_true, if_pos ho]
def storeT (i : Option TI) (x y : Value) (h : VH) : Option VH :=
 match x, i, cellsV y with
 | .pointer (some ⟨b, off, none⟩), some i, some l => if l.length = i.size then wrN 0 h b off l else none
 | _, _, _ => none
theorem st {x y : Value} (h0 : C.base = 0) : storeV C t x y h = storeT (C.T t) x y h := by
 unfold storeV storeT
 rw [h0]
 rfl
theorem st_int {kk : TK} : storeT (some ⟨kk, 1, b0, z⟩) (.pointer (some ⟨b, off, none⟩)) (.int k a) h = wr1 h b off (.int k a) := wrN_one
theorem st_bool {kk : TK} {y : Bool} : storeT (some ⟨kk, 1, b0, z⟩) (.pointer (some ⟨b, off, none⟩)) (.bool y) h = wr1 h b off (.bool y) := wrN_one
theorem st_string {kk : TK} {y : ByteArray} : storeT (some ⟨kk, 1, b0, z⟩) (.pointer (some ⟨b, off, none⟩)) (.string y) h = wr1 h b off (.string y) := wrN_one
theorem st_slice {kk : TK} {y : Option Addr} {l c : Nat} : storeT (some ⟨kk, 1, b0, z⟩) (.pointer (some ⟨b, off, none⟩)) (.slice y l c) h = wr1 h b off (.slice y l c) := wrN_one
theorem st_ptr {kk : TK} {y : Option Addr} : storeT (some ⟨kk, 1, b0, z⟩) (.pointer (some ⟨b, off, none⟩)) (.pointer y) h = wr1 h b off (.pointer y) := wrN_one
theorem st_func {kk : TK} {f : Fn} {y y' : Array Value} : storeT (some ⟨kk, 1, b0, z⟩) (.pointer (some ⟨b, off, none⟩)) (.func f y y') h = wr1 h b off (.func f y y') := wrN_one
theorem st_u32S {kk : TK} : storeT (some ⟨kk, 1, b0, z⟩) (.pointer (some ⟨b, off, none⟩)) (u32S l) h = wr1 h b off (u32S l) := wrN_one
theorem st_agg {kk : TK} {y : Array Value} (hy : y.size = s) : storeT (some ⟨kk, s, b0, z⟩) (.pointer (some ⟨b, off, none⟩)) (.agg y) h = wrN 0 h b off y.toList := by
 unfold storeT cellsV
 simp only [Array.length_toList, hy, if_true]
theorem wrN_push {l : List Value} (hb : b = h.next) (ho : off + l.length ≤ B.cs.length) : wrN 0 (h.push B) b off l = some (h.push ⟨B.ty, B.sz, B.cs.take off ++ l ++ B.cs.drop (off + l.length)⟩) := by
 subst hb
 unfold wrN
 rw [if_pos (Nat.zero_le _), blk_push, Option.bind_some, if_pos ho, set_push]
theorem wrN_of {l : List Value} (hb : h.blk b = some B) (ho : off + l.length ≤ B.cs.length) : wrN 0 h b off l = some (h.set b (some ⟨B.ty, B.sz, B.cs.take off ++ l ++ B.cs.drop (off + l.length)⟩)) := by
 unfold wrN
 rw [if_pos (Nat.zero_le _), hb, Option.bind_some, if_pos ho]
theorem cv_int : cellsV (.int k a) = some [.int k a] := rfl
theorem cv_bool {y : Bool} : cellsV (.bool y) = some [.bool y] := rfl
theorem cv_string {y : ByteArray} : cellsV (.string y) = some [.string y] := rfl
theorem cv_slice {y : Option Addr} {l c : Nat} : cellsV (.slice y l c) = some [.slice y l c] := rfl
theorem cv_ptr {y : Option Addr} : cellsV (.pointer y) = some [.pointer y] := rfl
theorem cv_func {f : Fn} {y y' : Array Value} : cellsV (.func f y y') = some [.func f y y'] := rfl
theorem cv_agg {y : Array Value} : cellsV (.agg y) = some y.toList := rfl
def idxT (C : Cfg) (i : Option TI) (x ix : Value) : Option Value :=
 match x, ix, i with
 | .slice (some ⟨b, off, none⟩) len _, .int _ n, some ⟨.slice e, _, _, _⟩ => (C.T e).bind fun i => if 0 ≤ n ∧ n < len then some (.pointer (some ⟨b, off + n.toNat * i.size, none⟩)) else none
 | .pointer (some ⟨b, off, none⟩), .int _ n, some ⟨.array len e, _, _, _⟩ => (C.T e).bind fun i => if 0 ≤ n ∧ n < len then some (.pointer (some ⟨b, off + n.toNat * i.size, none⟩)) else none
 | .func (.yield len) _ cs, .int _ n, some ⟨.slice e, _, _, _⟩ => (C.T e).bind fun i => if 0 ≤ n ∧ n < len ∧ cs.size = len * i.size then some (fP (n.toNat * i.size) cs) else none
 | .func (.methodOf off _) _ cs, .int _ n, some ⟨.array len e, _, _, _⟩ => (C.T e).bind fun i => if 0 ≤ n ∧ n < len then some (fP (off + n.toNat * i.size) cs) else none
 | _, _, _ => none
theorem ix {x y : Value} : idxV C t x y = idxT C (C.T t) x y := rfl
def ixE (i : Option TI) (b off len : Nat) (n : Int) : Option Value := i.bind fun i => if 0 ≤ n ∧ n < len then some (.pointer (some ⟨b, off + n.toNat * i.size, none⟩)) else none
theorem ix_sl {len cap : Nat} : idxT C (some ⟨.slice e', s, b0, z⟩) (.slice (some ⟨b, off, none⟩) len cap) (.int k a) = ixE (C.T e') b off len a := rfl
theorem ixE_ok {i : TI} {len : Nat} (h0 : 0 ≤ a) (h1 : a < len) : ixE (some i) b off len a = some (.pointer (some ⟨b, off + a.toNat * i.size, none⟩)) := by
 unfold ixE; rw [Option.bind_some, if_pos ⟨h0, h1⟩]
def ixF (i : Option TI) (len : Nat) (cs : Array Value) (n : Int) : Option Value := i.bind fun i => if 0 ≤ n ∧ n < len ∧ cs.size = len * i.size then some (fP (n.toNat * i.size) cs) else none
theorem ix_fS {len : Nat} {cs : Array Value} : idxT C (some ⟨.slice e', s, b0, z⟩) (fS len cs) (.int k a) = ixF (C.T e') len cs a := rfl
theorem ix_u32S : idxT C (some ⟨.slice e', s, b0, z⟩) (u32S l) (.int k a) = ixF (C.T e') l.length (u32L l).toArray a := rfl
theorem ixF_u32 (h0 : 0 ≤ a) (h1 : a < l.length) : ixF (some ⟨.int .u32, 1, b0, z⟩) l.length (u32L l).toArray a = some (fP a.toNat (u32L l).toArray) := by
 unfold ixF; simp only [Option.bind_some]
 rw [if_pos ⟨h0, h1, by simp [u32L_len]⟩, Nat.mul_one]
def fldA (C : Cfg) (i : Option TI) (x : Value) (f : Nat) : Option Value :=
 match x, i with
 | .pointer (some ⟨b, off, none⟩), some ⟨.struct fs, _, _, _⟩ => fs[f]?.bind fun (o, t) => (C.T t).bind fun i => if i.size ≠ 0 then some (.pointer (some ⟨b, off + o, none⟩)) else none
 | .func (.methodOf off _) _ cs, some ⟨.struct fs, _, _, _⟩ => fs[f]?.bind fun (o, t) => (C.T t).bind fun i => if i.size ≠ 0 then some (fP (off + o) cs) else none
 | _, _ => none
def lenT (i : Option TI) (x : Value) : Option Value :=
 match x, i with
 | .slice _ n _, some ⟨.slice _, _, _, _⟩ => some (.int .i64 n)
 | .string s, some ⟨.string, _, _, _⟩ => some (.int .i64 s.size)
 | .func (.yield n) _ _, some ⟨.slice _, _, _, _⟩ => some (.int .i64 n)
 | _, some ⟨.array n _, _, _, _⟩ => some (.int .i64 n)
 | _, _ => none
theorem ln {x : Value} : lenV C t x = lenT (C.T t) x := rfl
theorem ln_sl {y : Option Addr} {len cap : Nat} : lenT (some ⟨.slice e', s, b0, z⟩) (.slice y len cap) = some (.int .i64 len) := rfl
theorem ln_fS {len : Nat} {cs : Array Value} : lenT (some ⟨.slice e', s, b0, z⟩) (fS len cs) = some (.int .i64 len) := rfl
theorem ln_u32S : lenT (some ⟨.slice e', s, b0, z⟩) (u32S l) = some (.int .i64 (l.length : Int)) := rfl
def cvtT (i j : Option TI) (x : Value) : Option Value :=
 match x, i, j with
 | .int _ n, some _, some ⟨.int k, _, _, _⟩ => some (.int k (k.wrap n))
 | _, _, _ => none
theorem cv {x : Value} : cvtV C e' t x = cvtT (C.T e') (C.T t) x := rfl
theorem cvT_int {i : TI} : cvtT (some i) (some ⟨.int k', s, b0, z⟩) (.int k a) = some (.int k' (k'.wrap a)) := rfl
theorem u32L_set {y : Int} (hy : 0 ≤ y) : (u32L l).set off (.int .u32 y) = u32L (l.set off y.toNat) := by
 have : Value.int .u32 y = Value.int .u32 ((y.toNat : Nat) : Int) := by rw [Int.toNat_of_nonneg hy]
 rw [this]
 simp [u32L, List.map_set]
theorem u32L_get' (hi : off < l.length) : (u32L l)[off]? = some (.int .u32 (l.getD off 0 : Nat)) := u32L_get hi
def slcT (C : Cfg) (i : Option TI) (x : Value) (lo hi mx : Option Value) : Option Value :=
 match x, i, numV lo, numV hi, numV mx with
 | .slice (some ⟨b, off, none⟩) len cap, some ⟨.slice e, _, _, _⟩, some lo, some hi, some mx =>
  (C.T e).bind fun i => (cutB len cap lo hi mx).map fun c => .slice (some ⟨b, if c.2.2 = c.1 then off else off + c.1 * i.size, none⟩) (c.2.1 - c.1) (c.2.2 - c.1)
 | .slice none 0 0, some ⟨.slice e, _, _, _⟩, some lo, some hi, some mx => (C.T e).bind fun _ => (cutB 0 0 lo hi mx).map fun _ => .slice none 0 0
 | .string s, some ⟨.string, _, _, _⟩, some lo, some hi, some none => (cutB s.size s.size lo hi none).map fun c => .string (s.extract c.1 c.2.1)
 | .func (.yield len) _ cs, some ⟨.slice e, _, _, _⟩, some lo, some hi, some mx =>
  (C.T e).bind fun i => if cs.size = len * i.size then (cutB len len lo hi mx).map fun c => fS (c.2.1 - c.1) ((cs.toList.drop (c.1 * i.size)).take ((c.2.1 - c.1) * i.size)).toArray else none
 | _, _, _, _, _ => none
theorem sl {x : Value} {lo hi mx : Option Value} : slcV C t x lo hi mx = slcT C (C.T t) x lo hi mx := rfl
def slW (i : Option TI) (l : List Nat) (lo hi mx : Option Int) : Option Value := i.bind fun i => if (u32L l).length = l.length * i.size then (cutB l.length l.length lo hi mx).map fun c => fS (c.2.1 - c.1) (((u32L l).drop (c.1 * i.size)).take ((c.2.1 - c.1) * i.size)).toArray else none
theorem sl_u32a {n1 n2 : Int} : slcT C (some ⟨.slice e', s, b0, z⟩) (u32S l) none (some (.int k n1)) (some (.int k' n2)) = slW (C.T e') l none (some n1) (some n2) := by
 simp [slcT, slW, u32S, numV]
theorem sl_u32b {n1 : Int} : slcT C (some ⟨.slice e', s, b0, z⟩) (u32S l) none (some (.int k n1)) none = slW (C.T e') l none (some n1) none := by
 simp [slcT, slW, u32S, numV]
theorem slW_ok {n1 : Int} {mx : Option Int} (h0 : 0 ≤ n1) (h1 : n1 ≤ l.length) (h2 : mx = none ∨ mx = some n1) :
  slW (some ⟨.int .u32, 1, b1, z'⟩) l none (some n1) mx = some (u32S (l.take n1.toNat)) := by
 unfold slW
 rw [Option.bind_some, if_pos (by simp [u32L_len])]
 have e1 : n1.toNat = (l.take n1.toNat).length := by simp; omega
 have key : ∀ c, fS (n1.toNat - 0) (((u32L l).drop (0 * c)).take ((n1.toNat - 0) * 1)).toArray = u32S (l.take n1.toNat) := by
  intro c
  unfold u32S
  rw [← e1]
  simp [u32L, List.map_take]
 rcases h2 with rfl | rfl
 ·have : cutB l.length l.length none (some n1) none = some (0, n1.toNat, l.length) := by
   unfold cutB
   simp
   omega
  simp only [this, Option.map_some, key]
 ·have : cutB l.length l.length none (some n1) (some n1) = some (0, n1.toNat, n1.toNat) := by
   unfold cutB
   simp
   omega
  simp only [this, Option.map_some, key]
theorem slW_a {n1 : Int} (h0 : 0 ≤ n1) (h1 : n1 ≤ l.length) : slW (some ⟨.int .u32, 1, b1, z'⟩) l none (some n1) (some n1) = some (u32S (l.take n1.toNat)) := slW_ok h0 h1 (.inr rfl)
theorem slW_b {n1 : Int} (h0 : 0 ≤ n1) (h1 : n1 ≤ l.length) : slW (some ⟨.int .u32, 1, b1, z'⟩) l none (some n1) none = some (u32S (l.take n1.toNat)) := slW_ok h0 h1 (.inl rfl)
theorem zC_one {y : Value} (hy : y.cells = #[y]) (n : Nat) : zC y n = List.replicate n y := by
 unfold zC madeCells
 rw [hy]
 refine List.ext_getElem? fun i => ?_
 by_cases hi : i < n <;> simp [hi, Nat.mod_one]
def binB (i : Option TI) (op : BinOp) (a b : Bool) : Option Value := match i, op with
 | some ⟨.bool, _, _, _⟩, .eql => some (.bool (a == b))
 | some ⟨.bool, _, _, _⟩, .neq => some (.bool (a != b))
 | _, _ => none
theorem b_bb {op : BinOp} {x y : Bool} : binV C op t (.bool x) (.bool y) = binB (C.T t) op x y := rfl
theorem bB_eq {x y : Bool} : binB (some ⟨.bool, s, b0, z⟩) .eql x y = some (.bool (x == y)) := rfl
theorem bB_ne {x y : Bool} : binB (some ⟨.bool, s, b0, z⟩) .neq x y = some (.bool (x != y)) := rfl
def binS (i : Option TI) (op : BinOp) (a : Option Addr) : Option Value := match i, op with
 | some ⟨.slice _, _, _, _⟩, .eql => some (.bool a.isNone)
 | some ⟨.slice _, _, _, _⟩, .neq => some (.bool (!a.isNone))
 | _, _ => none
theorem b_ss {op : BinOp} {x : Option Addr} {l c : Nat} : binV C op t (.slice x l c) (.slice none 0 0) = binS (C.T t) op x := rfl
theorem bS_eq {x : Option Addr} : binS (some ⟨.slice e', s, b0, z⟩) .eql x = some (.bool x.isNone) := rfl
theorem bS_ne {x : Option Addr} : binS (some ⟨.slice e', s, b0, z⟩) .neq x = some (.bool (!x.isNone)) := rfl
def mkT (C : Cfg) (i : Option TI) (l c : Value) (h : VH) : Option (Value × VH) :=
 match l, c, i with
 | .int _ l, .int _ c, some ⟨.slice e, _, _, _⟩ => (C.T e).bind fun i =>
  if 0 ≤ l ∧ l ≤ c ∧ (i.bytes : Int) * c ≤ 281474976710656 ∧ c ≤ 9223372036854775807 ∧ 0 < i.size then
   some (.slice (some ⟨h.next, 0, none⟩) l.toNat c.toNat, h.push ⟨e, i.size, zC i.zero (c.toNat * i.size)⟩) else none
 | _, _, _ => none
theorem mk {x y : Value} : mkSlV C t x y h = mkT C (C.T t) x y h := rfl
def mkE (e : TypeId) (i : Option TI) (n : Int) (h : VH) : Option (Value × VH) := i.bind fun i =>
  if 0 ≤ n ∧ n ≤ n ∧ (i.bytes : Int) * n ≤ 281474976710656 ∧ n ≤ 9223372036854775807 ∧ 0 < i.size then
   some (.slice (some ⟨h.next, 0, none⟩) n.toNat n.toNat, h.push ⟨e, i.size, zC i.zero (n.toNat * i.size)⟩) else none
theorem mk_sl : mkT C (some ⟨.slice e', s, b0, z⟩) (.int k a) (.int k' a) h = mkE e' (C.T e') a h := rfl
theorem mkE_u32 (h0 : 0 ≤ a) (h1 : a ≤ 70368744177664) : mkE e' (some ⟨.int .u32, 1, 4, .int .u32 0⟩) a h = some (.slice (some ⟨h.next, 0, none⟩) a.toNat a.toNat, h.push ⟨e', 1, u32L (List.replicate a.toNat 0)⟩) := by
 unfold mkE
 rw [Option.bind_some, if_pos ⟨h0, Int.le_refl _, by simp only; omega, by omega, by simp only; omega⟩, zC_one rfl]
 simp [u32L]
theorem rd1_push' (hb : b = h.next) : rd1 (h.push B) b off = B.cs[off]? := by rw [hb, rd1_push]
theorem rdN_push' (hb : b = h.next) : rdN (h.push B) b off n = if off + n ≤ B.cs.length then some ((B.cs.drop off).take n) else none := by rw [hb, rdN_push]
theorem wr1_push' (hb : b = h.next) (ho : off < B.cs.length) : wr1 (h.push B) b off v = some (h.push ⟨B.ty, B.sz, B.cs.set off v⟩) := by rw [hb, wr1_push ho]
theorem blk_push' (hb : b = h.next) : (h.push B).blk b = some B := by rw [hb, blk_push]
theorem set_push' {o : Blk} (hb : b = h.next) : (h.push B).set b (some o) = h.push o := by rw [hb, set_push]
theorem st_agg2 {kk : TK} {y0 y1 : Value} : storeT (some ⟨kk, 2, b0, z⟩) (.pointer (some ⟨b, off, none⟩)) (.agg #[y0, y1]) h = wrN 0 h b off [y0, y1] := rfl
theorem wr_p2 {ty sz : Nat} {x0 x1 y0 y1 : Value} (hb : b = h.next) : wrN 0 (h.push ⟨ty, sz, [x0, x1]⟩) b 0 [y0, y1] = some (h.push ⟨ty, sz, [y0, y1]⟩) := wrN_push hb (Nat.le_refl _)
theorem rd_p2 {ty sz : Nat} {x0 x1 : Value} (hb : b = h.next) : rdN (h.push ⟨ty, sz, [x0, x1]⟩) b 0 2 = some [x0, x1] := by rw [rdN_push' hb]; rfl
theorem wr_s2 {ty sz : Nat} {x0 x1 y0 y1 : Value} (hb : h.blk b = some ⟨ty, sz, [x0, x1]⟩) : wrN 0 h b 0 [y0, y1] = some (h.set b (some ⟨ty, sz, [y0, y1]⟩)) := wrN_of hb (Nat.le_refl _)
theorem rd_s2 {ty sz : Nat} {x0 x1 : Value} (hb : h.blk b = some ⟨ty, sz, [x0, x1]⟩) : rdN h b 0 2 = some [x0, x1] := by rw [rdN_of hb]; rfl
theorem st_agg3 {kk : TK} {y0 y1 y2 : Value} : storeT (some ⟨kk, 3, b0, z⟩) (.pointer (some ⟨b, off, none⟩)) (.agg #[y0, y1, y2]) h = wrN 0 h b off [y0, y1, y2] := rfl
theorem wr_p3 {ty sz : Nat} {x0 x1 x2 y0 y1 y2 : Value} (hb : b = h.next) : wrN 0 (h.push ⟨ty, sz, [x0, x1, x2]⟩) b 0 [y0, y1, y2] = some (h.push ⟨ty, sz, [y0, y1, y2]⟩) := wrN_push hb (Nat.le_refl _)
theorem rd_p3 {ty sz : Nat} {x0 x1 x2 : Value} (hb : b = h.next) : rdN (h.push ⟨ty, sz, [x0, x1, x2]⟩) b 0 3 = some [x0, x1, x2] := by rw [rdN_push' hb]; rfl
theorem wr_s3 {ty sz : Nat} {x0 x1 x2 y0 y1 y2 : Value} (hb : h.blk b = some ⟨ty, sz, [x0, x1, x2]⟩) : wrN 0 h b 0 [y0, y1, y2] = some (h.set b (some ⟨ty, sz, [y0, y1, y2]⟩)) := wrN_of hb (Nat.le_refl _)
theorem rd_s3 {ty sz : Nat} {x0 x1 x2 : Value} (hb : h.blk b = some ⟨ty, sz, [x0, x1, x2]⟩) : rdN h b 0 3 = some [x0, x1, x2] := by rw [rdN_of hb]; rfl
theorem st_agg4 {kk : TK} {y0 y1 y2 y3 : Value} : storeT (some ⟨kk, 4, b0, z⟩) (.pointer (some ⟨b, off, none⟩)) (.agg #[y0, y1, y2, y3]) h = wrN 0 h b off [y0, y1, y2, y3] := rfl
theorem wr_p4 {ty sz : Nat} {x0 x1 x2 x3 y0 y1 y2 y3 : Value} (hb : b = h.next) : wrN 0 (h.push ⟨ty, sz, [x0, x1, x2, x3]⟩) b 0 [y0, y1, y2, y3] = some (h.push ⟨ty, sz, [y0, y1, y2, y3]⟩) := wrN_push hb (Nat.le_refl _)
theorem rd_p4 {ty sz : Nat} {x0 x1 x2 x3 : Value} (hb : b = h.next) : rdN (h.push ⟨ty, sz, [x0, x1, x2, x3]⟩) b 0 4 = some [x0, x1, x2, x3] := by rw [rdN_push' hb]; rfl
theorem wr_s4 {ty sz : Nat} {x0 x1 x2 x3 y0 y1 y2 y3 : Value} (hb : h.blk b = some ⟨ty, sz, [x0, x1, x2, x3]⟩) : wrN 0 h b 0 [y0, y1, y2, y3] = some (h.set b (some ⟨ty, sz, [y0, y1, y2, y3]⟩)) := wrN_of hb (Nat.le_refl _)
theorem rd_s4 {ty sz : Nat} {x0 x1 x2 x3 : Value} (hb : h.blk b = some ⟨ty, sz, [x0, x1, x2, x3]⟩) : rdN h b 0 4 = some [x0, x1, x2, x3] := by rw [rdN_of hb]; rfl
theorem ldF2 {fs : List (Nat × TypeId)} {x0 x1 : Value} : loadT (some ⟨.struct fs, 2, b0, z⟩) (fP 0 #[x0, x1]) h = some (.agg #[x0, x1]) := rfl
theorem ldF3 {fs : List (Nat × TypeId)} {x0 x1 x2 : Value} : loadT (some ⟨.struct fs, 3, b0, z⟩) (fP 0 #[x0, x1, x2]) h = some (.agg #[x0, x1, x2]) := rfl
theorem ldF4 {fs : List (Nat × TypeId)} {x0 x1 x2 x3 : Value} : loadT (some ⟨.struct fs, 4, b0, z⟩) (fP 0 #[x0, x1, x2, x3]) h = some (.agg #[x0, x1, x2, x3]) := rfl
theorem ldF42a {fs : List (Nat × TypeId)} {x y u v : Value} : loadT (some ⟨.struct fs, 2, b0, z⟩) (fP 0 #[x, y, u, v]) h = some (.agg #[x, y]) := rfl
theorem ldF42b {fs : List (Nat × TypeId)} {x y u v : Value} : loadT (some ⟨.struct fs, 2, b0, z⟩) (fP 2 #[x, y, u, v]) h = some (.agg #[u, v]) := rfl
theorem cp_u32 {l l0 : List Nat} {dl cap : Nat} (h0 : C.base = 0) (ht : C.T t = some ⟨.slice e', s, b0, z⟩) (he : C.T e' = some ⟨.int .u32, 1, b1, z'⟩) (hb : b = h.next) (h1 : dl = l.length) (h2 : l0.length = l.length) :
  cpyV C t (.slice (some ⟨b, 0, none⟩) dl cap) (u32S l) (h.push ⟨e', 1, u32L l0⟩) = some (.int .i64 (l.length : Int), h.push ⟨e', 1, u32L l⟩) := by
 subst h1
 subst hb
 unfold cpyV u32S
 simp only [ht, he, Option.bind_some]
 rw [if_pos (by simp [u32L_len])]
 simp only [show Nat.min l.length l.length = l.length from Nat.min_self _, Nat.mul_one]
 by_cases hl : l.length = 0
 ·rw [if_pos hl]
  have e1 : l = [] := List.eq_nil_of_length_eq_zero hl
  have e2 : l0 = [] := List.eq_nil_of_length_eq_zero (by omega)
  subst e1
  subst e2
  rfl
 ·rw [if_neg hl]
  have : List.take l.length (u32L l) = u32L l := List.take_of_length_le (by rw [u32L_len]; exact Nat.le_refl _)
  rw [this, h0, wrN_push rfl (by simp [u32L_len, h2])]
  simp only [Option.map_some, List.take_zero, List.nil_append, Nat.zero_add]
  rw [List.drop_of_length_le (by simp [u32L_len, h2]), List.append_nil]
end
end Go.QM
end

section
namespace Go.QM
variable {P : Program} {C : Cfg} {e : Env} {h : VH} {Q : Exit → Env → VH → Prop}
theorem W.range {id r1 r2 : Nat} {ti tn d d2 : Tmp} {t1 t2 t3 t4 y1 y2 y3 : TypeId} {p1 p2 p3 : String} {a1 a2 a3 : Array Edge} {body : Code} (I : Nat → Env → VH → Prop) (n : Nat)
  (hn : n < 4611686018427387904) (hne : (ti != tn && d != tn && d != ti && d2 != tn) = true) (h0 : e ti = .int .i64 0) (hN : e tn = .int .i64 (n : Int)) (hI : I 0 e h)
  (hb : ∀ k e h, k < n → e ti = .int .i64 (k : Int) → e tn = .int .i64 (n : Int) → I k e h → W P C body (e.put (some d) (.bool true)) h fun x e1 h1 => match x with
   | .normal => e1 ti = .int .i64 (k : Int) ∧ e1 tn = .int .i64 (n : Int) ∧ I (k + 1) ((e1.put (some d2) (.int .i64 ((k : Int) + 1))).put (some ti) (.int .i64 ((k : Int) + 1))) h1
   | .exit i => if i = id then Q .normal e1 h1 else Q (.exit i) e1 h1
   | x => Q x e1 h1)
  (he : ∀ e h, e ti = .int .i64 (n : Int) → I n e h → Q .normal (e.put (some d) (.bool false)) h) :
  W P C (.block id (.loop (.seq (.region r1 #[⟨some d, .binOp .lss t1 (.tmp ti) (.tmp tn) t2, y1, p1, a1, none⟩] false) (.seq (.cond (.tmp d) .skip (.exit id))
   (.seq body (.region r2 #[⟨some d2, .binOp .add t3 (.tmp ti) (.const (.int .i64 1)) t4, y2, p2, a2, none⟩, ⟨some ti, .move (.tmp d2), y3, p3, a3, none⟩] false)))))) e h Q := by
 simp only [Bool.and_eq_true, bne_iff_ne, ne_eq] at hne
 obtain ⟨⟨⟨n1, n2⟩, n3⟩, n4⟩ := hne
 refine W.block (W.loop (fun m e h => ∃ k, m = n - k ∧ k ≤ n ∧ e ti = .int .i64 (k : Int) ∧ e tn = .int .i64 (n : Int) ∧ I k e h) n ⟨0, rfl, Nat.zero_le _, h0, hN, hI⟩ ?_)
 rintro m e h ⟨k, rfl, hk, ei, en, hi⟩
 refine W.rseq ?_
 simp only [WOps.cons, w_bin, rd_tmp, ei, en, s_int, b_lss, OV_some, WOps.nil]
 by_cases hlt : k < n
 ·have : decide ((k : Int) < n) = true := decide_eq_true (by omega)
  rw [this]
  refine W.seq (W.cond true (by simp [rd_tmp, put_some]; rfl) (fun _ => W.skip ?_) nofun)
  refine W.seq ((hb k e h hlt ei en hi).mono ?_)
  intro x e1 h1 hx
  cases x with
  | normal =>
   obtain ⟨f1, f2, f3⟩ := hx
   refine W.reg ?_
   simp only [WOps.cons, WOps.nil, w_bin, w_move, rd_tmp, rd_const, c_int, f1, s_int, b_add, OV_some]
   rw [wrap_i64 (by omega) (by omega)]
   refine ⟨n - (k + 1), by omega, k + 1, rfl, by omega, ?_, ?_, ?_⟩
   ·simp only [put_some, if_true, s_int]
    congr 1
   ·simp only [put_some, if_neg (Ne.symm n1), if_neg (Ne.symm n4)]
    exact f2
   ·simpa only [put_some, if_true, s_int] using f3
  | exit i => exact hx
  | _ => exact hx
 ·have : decide ((k : Int) < n) = false := decide_eq_false (by omega)
  rw [this]
  refine W.seq (W.cond false (by simp [rd_tmp, put_some]; rfl) nofun (fun _ => W.exit ?_))
  simp only [if_true]
  obtain rfl : k = n := by omega
  exact he e h ei hi
def sub : Code → List Nat → Code
 | c, [] => c
 | .seq a b, 0 :: p => sub a p
 | .seq a b, _ :: p => sub b p
 | .cond _ a b, 0 :: p => sub a p
 | .cond _ a b, _ :: p => sub b p
 | .block _ c, _ :: p => sub c p
 | .loop c, _ :: p => sub c p
 | c, _ => c
def bodyOf (f : Func) : Code := f.body.getD .skip
theorem W.gen {c : Code} (ts : List Nat) (hw : ∀ e' : Env, (∀ t ∈ ts, e' t = e t) → W P C c e' h Q) : W P C c e h Q := hw e (fun _ _ => rfl)
def flagsOf (ops : Array Oper) (ms : List Nat) : List Bool := (List.range ops.size).map fun i => match ops[i]? with
 | some o => heapy o && looseAt ops ms i
 | none => true
structure Grow0 (h h1 : VH) : Prop where
 next : h.next ≤ h1.next
 res : ∀ b, b < h.next → h.blk b = none → h1.blk b = none
def OwedL (Kp : Nat → Prop) (n0 : Nat) (l : Bool) (op : Op) (r : Operand → Value) (h h1 : VH) : Prop := if l then Owed Kp n0 op r h h1 else Grow0 h h1 ∧ match op with
 | .load _ a => LoadOk Kp n0 (r a)
 | _ => True
def WTL (P : Program) (C : Cfg) (Kp : Nat → Prop) (n0 : Nat) (ops : Array Oper) (ls : List Bool) (os : List Oper) (e : Env) (h : VH) (K : Env → VH → Prop) (_ : Cw K := .mk) : Prop :=
 match os, ls with
 | [], _ => K e h
 | o :: os, l :: ls => WStep P C ops o e h fun v h1 => OwedL Kp n0 l o.op (rd C e) h h1 ∧ WTL P C Kp n0 ops ls os (e.put o.dst v) h1 K
 | _, _ => False
theorem WTL.tr {Kp : Nat → Prop} {n0 : Nat} {ms : List Nat} {ops : Array Oper} : ∀ {os : List Oper} {ls : List Bool} {i : Nat} {e : Env} {h : VH} {K : Env → VH → Prop} {c : Cw K}, (∀ j o, os[j]? = some o → ls[j]? = some (heapy o && looseAt ops ms (i + j))) →
  WTL P C Kp n0 ops ls os e h K c → ∃ e' h', VTr C (VC P C) Kp n0 ms ops os i e h e' h' ∧ K e' h'
 | [], ls, _, _, _, _, _, _, hw => by
  unfold WTL at hw
  exact ⟨_, _, ⟨rfl, rfl⟩, hw⟩
 | o :: os, [], i, e, h, K, c, hf, hw => by
  unfold WTL at hw
  exact hw.elim
 | o :: os, l :: ls, i, e, h, K, c, hf, hw => by
  unfold WTL at hw
  obtain ⟨v, h1, a, s, hw⟩ := hw
  have hl := hf 0 o rfl
  simp only [List.getElem?_cons_zero, Option.some.injEq, Nat.add_zero] at hl
  obtain ⟨e', h', b, k⟩ := WTL.tr (i := i + 1) (fun j o hj => by
   have := hf (j + 1) o (by simpa using hj)
   simp only [List.getElem?_cons_succ] at this
   rw [this]
   congr 3
   omega) hw
  refine ⟨e', h', ⟨v, h1, a, ?_, b⟩, k⟩
  cases l with
  | true =>
   obtain ⟨⟨s1, s2, s3⟩, s4⟩ := s
   refine ⟨s1, s2, fun _ => s3, fun t x b off hop hr => ?_⟩
   rw [hop] at s4
   simp only [hr] at s4
   exact s4
  | false =>
   simp only [OwedL, Bool.false_eq_true, if_false] at s
   obtain ⟨⟨s1, s2⟩, s4⟩ := s
   refine ⟨s1, s2, fun hh => by rw [← hl] at hh; (cases hh), fun t x b off hop hr => ?_⟩
   rw [hop] at s4
   simp only [hr] at s4
   exact s4
theorem W.dseqL {id : Nat} {ops : Array Oper} {b : Code} (Kp : Nat → Prop) (ls : List Bool) (hd : (drawOk ops (masksOf ops) && (flagsOf ops (masksOf ops) == ls)) = true) (hw : WTL P C Kp h.next ops ls ops.toList e h fun e1 h1 => W P C b e1 h1 Q) :
  W P C (.seq (.region id ops true) b) e h Q := by
 simp only [Bool.and_eq_true, beq_iff_eq] at hd
 obtain ⟨e', h', a, k⟩ := WTL.tr (ms := masksOf ops) (i := 0) (fun j o hj => by
  rw [← hd.2]
  have hj' : j < ops.size := by
   have := (List.getElem?_eq_some_iff.1 hj).1
   simpa using this
  have ho : ops[j]? = some o := by simpa using hj
  simp only [flagsOf, List.getElem?_map, List.getElem?_range hj', Option.map_some, ho, Nat.zero_add]) hw
 exact W.seq ⟨_, _, _, ⟨rfl, _, Kp, hd.1, a⟩, k⟩
section
variable {ops : Array Oper} {os : List Oper} {o : Oper} {K : Env → VH → Prop} {Kp : Nat → Prop} {n0 : Nat} {ls : List Bool} {h1 : VH} {r : Operand → Value} {op : Op}
theorem WTL.nil {c : Cw K} : WTL P C Kp n0 ops ls [] e h K c = K e h := by unfold WTL; rfl
theorem WTL.cons {l : Bool} {c : Cw K} : WTL P C Kp n0 ops (l :: ls) (o :: os) e h K c = WStep P C ops o e h fun v h1 => OwedL Kp n0 l o.op (rd C e) h h1 ∧ WTL P C Kp n0 ops ls os (e.put o.dst v) h1 K := by
 rw [WTL]
theorem lo_un : LoadOk Kp n0 Un = True := rfl
theorem owl_t : OwedL Kp n0 true op r h h1 = Owed Kp n0 op r h h1 := rfl
theorem owl_f : OwedL Kp n0 false op r h h1 = (Grow0 h h1 ∧ match op with
  | .load _ a => LoadOk Kp n0 (r a)
  | _ => True) := rfl
theorem gr0_refl : Grow0 h h = True := eq_true ⟨Nat.le_refl _, fun _ _ x => x⟩
theorem gr0_push {B : Blk} : Grow0 h (h.push B) = True := eq_true ⟨Nat.le_succ _, fun b hb hn => by
 show (if b = h.next then _ else _) = _
 rw [if_neg (by omega)]
 exact hn⟩
theorem gr0_le (hl : h.le h1) : Grow0 h h1 = True := eq_true ⟨hl.1, fun b hb hn => by rw [hl.2 b hb]; exact hn⟩
theorem gr0_set {b : Nat} {B B' : Blk} (hB : h.blk b = some B) : Grow0 h (h.set b (some B')) := ⟨Nat.le_refl _, fun x hx hx0 => by
 show (if x = b then _ else _) = _
 by_cases hxb : x = b
 ·rw [hxb, hB] at hx0; cases hx0
 ·rw [if_neg hxb]; exact hx0⟩
end
theorem WF.nilb {c : Code} {cw : Cw Q} (x : Nat) {X : Blk} (h0 : C.base = 0) (hX : h.blk x = some X) (hw : WF P C c e (h.set x (some ⟨X.ty, X.sz, X.cs.map nil1⟩)) Q) : WF P C c e h Q cw := by
 obtain ⟨e2, h2, hf, hw⟩ := hw
 exact ⟨e2, h2, .nilb x hX (by omega) hf, hw⟩
theorem WF.cell {c : Code} {cw : Cw Q} (x : Nat) {X : Blk} (i b : Nat) {B : Blk} (h0 : C.base = 0) (hX : h.blk x = some X) (hB : h.blk b = some B) (hne : x ≠ b)
  (hw : WF P C c e ((h.set b none).set x (some ⟨X.ty, X.sz, X.cs.modify i (fz1 b B)⟩)) Q) : WF P C c e h Q cw := by
 obtain ⟨e2, h2, hf, hw⟩ := hw
 exact ⟨e2, h2, .cell x i b hX (by omega) hB (by omega) hne hf, hw⟩
def Own (n0 : Nat) (ty : TypeId) (sz : Nat) (h : VH) (v : Value) (len : Nat) (cs : List Value) : Prop :=
 cs.length = len * sz ∧ ((v = .slice none 0 0 ∧ len = 0) ∨ ∃ b, v = .slice (some ⟨b, 0, none⟩) len len ∧ 0 < len ∧ n0 ≤ b ∧ b < h.next ∧ h.blk b = some ⟨ty, sz, cs⟩)
theorem Own.nil {n0 ty sz : Nat} : Own n0 ty sz h (.slice none 0 0) 0 [] := ⟨by simp, .inl ⟨rfl, rfl⟩⟩
theorem Own.mono {n0 ty sz len : Nat} {cs : List Value} {v : Value} {h1 : VH} (ho : Own n0 ty sz h v len cs) (hl : h.le h1) : Own n0 ty sz h1 v len cs := by
 obtain ⟨h0, ⟨rfl, rfl⟩ | ⟨b, rfl, h2, h3, h4, h5⟩⟩ := ho
 ·exact ⟨h0, .inl ⟨rfl, rfl⟩⟩
 ·exact ⟨h0, .inr ⟨b, rfl, h2, h3, Nat.lt_of_lt_of_le h4 hl.1, by rw [hl.2 b h4]; exact h5⟩⟩
theorem Own.app {n0 ty sz len m t s' b' bb : Nat} {z z' : Value} {kk : TK} {cs news : List Value} {v x : Value} (ho : Own n0 ty sz h v len cs) (h0 : C.base = 0) (ht : C.T t = some ⟨.slice ty, s', b', z⟩) (he : C.T ty = some ⟨kk, sz, bb, z'⟩)
  (hx : rdS h x sz = some (m, news)) (hm : 0 < m) (hnl : news.length = m * sz) (hsz : 0 < sz) (hb : (len + m) * bb ≤ 140737488355328) (hlm : len + m ≤ 4611686018427387904) (hn0 : n0 ≤ h.next) :
  ∃ v' h', appV C t v x h = some (v', h') ∧ Own n0 ty sz h' v' (len + m) (cs ++ news) ∧ (∀ h0 : VH, h0.le h → h0.next ≤ n0 → h0.le h') ∧ h'.next = h.next + 1 ∧ (∀ y, y < h.next → h.blk y ≠ none → (∀ c, v ≠ .slice (some ⟨y, 0, none⟩) len c) → h'.blk y = h.blk y) := by
 obtain ⟨hcl, ⟨rfl, rfl⟩ | ⟨b, rfl, hpos, hb0, hbn, hB⟩⟩ := ho
 ·have hcs : cs = [] := List.eq_nil_of_length_eq_zero (by simpa using hcl)
  subst hcs
  refine ⟨.slice (some ⟨h.next, 0, none⟩) m m, h.push ⟨ty, sz, news⟩, ?_, ⟨by simpa using hnl, .inr ⟨h.next, by simp, by omega, hn0, Nat.lt_succ_self _, by simpa using blk_push⟩⟩, fun h0 hl _ => hl.trans (VH.le_push _ _), rfl, fun y hy _ _ => blk_push_ne (by omega)⟩
  unfold appV
  simp only [ht, he, Option.bind_some, hx]
  rw [if_neg (by omega), if_pos ⟨by simpa using hb, by omega, hsz⟩]
 ·refine ⟨.slice (some ⟨h.next, 0, none⟩) (len + m) (len + m), (h.set b none).push ⟨ty, sz, cs ++ news⟩, ?_, ⟨by rw [List.length_append, hcl, hnl, Nat.add_mul], .inr ⟨h.next, rfl, by omega, hn0, Nat.lt_succ_self _, blk_push⟩⟩, fun h0 hl hle => ?_, rfl, fun y hy _ hne => ?_⟩
  ·unfold appV
   simp only [ht, he, Option.bind_some, hx]
   rw [if_pos ⟨hpos, hm, by omega, hb, hlm, hsz⟩, hB]
   simp only [Option.bind_some]
   rw [if_pos ⟨trivial, trivial⟩, rdN_of hB]
   simp only [Nat.zero_add, hcl, Nat.le_refl, if_true, Option.map_some, List.drop_zero]
   rw [List.take_of_length_le (by omega)]
  ·exact (VH.le_set hl (by omega) none).trans (VH.le_push _ _)
  ·rw [blk_push_ne (by rw [next_set]; omega), blk_set_ne]
   rintro rfl
   exact hne len rfl
theorem Own.frz {n0 ty sz len : Nat} {cs : List Value} {e : Env} (t : Nat) (ho : Own n0 ty sz h (e t) len cs) (hbase : C.base = 0) :
  ∃ h', Fz C.base e h (e.put (some t) (fS len cs.toArray)) h' ∧ (∀ g : VH, g.le h → g.next ≤ n0 → g.le h') ∧ h'.next = h.next ∧ (∀ y, h'.blk y ≠ h.blk y → ∃ l c, e t = .slice (some ⟨y, 0, none⟩) l c) := by
 obtain ⟨hcl, ⟨hv, rfl⟩ | ⟨b, hv, hpos, hb0, hbn, hB⟩⟩ := ho
 ·have hcs : cs = [] := List.eq_nil_of_length_eq_zero (by simpa using hcl)
  subst hcs
  have he : (fun u => if [t].contains u then nilT (e u) else e u) = e.put (some t) (fS 0 #[]) := by
   funext u
   by_cases hu : u = t
   ·subst hu; simp [Env.put, hv]; rfl
   ·simp [Env.put, hu]
  exact ⟨h, .nils [t] (by rw [he]; exact .refl _ _), fun g hl _ => hl, rfl, fun y hy => absurd rfl hy⟩
 ·have he : (fun u => if [t].contains u then fzT b ⟨ty, sz, cs⟩ (e u) else e u) = e.put (some t) (fS len cs.toArray) := by
   funext u
   by_cases hu : u = t
   ·subst hu
    simp only [List.contains_cons, beq_self_eq_true, Bool.true_or, if_true, hv, Env.put]
    rw [fzT_sl rfl (by simp only; omega)]
    simp only [List.drop_zero]
    rw [List.take_of_length_le (by omega)]
   ·simp [Env.put, hu]
  refine ⟨h.set b none, .env [t] b hB (by omega) (by rw [he]; exact .refl _ _), fun g hl hle => VH.le_set hl (by omega) _, rfl, fun y hy => ?_⟩
  by_cases hyb : y = b
  ·subst hyb
   exact ⟨len, len, hv⟩
  ·exact absurd (blk_set_ne hyb) hy
theorem WF.own {c : Code} {cw : Cw Q} {n0 ty sz len : Nat} {cs : List Value} (t : Nat) (h0 : C.base = 0) (ho : Own n0 ty sz h (e t) len cs)
  (hw : ∀ h', (∀ g : VH, g.le h → g.next ≤ n0 → g.le h') → h'.next = h.next → (∀ y, h'.blk y ≠ h.blk y → ∃ l c, e t = .slice (some ⟨y, 0, none⟩) l c) → WF P C c (e.put (some t) (fS len cs.toArray)) h' Q) : WF P C c e h Q cw := by
 obtain ⟨h', h1, h4, h5, h6⟩ := ho.frz t h0
 obtain ⟨e2, h2', hf, hw⟩ := hw h' h4 h5 h6
 exact ⟨e2, h2', h1.trans hf, hw⟩
end Go.QM
end

section
namespace Go.QM
abbrev WB : Nat := 4294967296
def nv : List Nat → Nat
 | [] => 0
 | x :: l => x + WB * nv l
def Lim (l : List Nat) : Prop := ∀ x ∈ l, x < WB
def trimL : List Nat → List Nat
 | [] => []
 | x :: l => match trimL l with
  | [] => if x = 0 then [] else [x]
  | y :: m => x :: y :: m
def dig (n : Nat) : List Nat := if n = 0 then [] else n % WB :: dig (n / WB)
termination_by n
decreasing_by exact Nat.div_lt_self (by omega) (by decide)
theorem Lim.nil : Lim [] := fun x h => by cases h
theorem Lim.cons {x : Nat} {l : List Nat} (hx : x < WB) (hl : Lim l) : Lim (x :: l) := fun y hy => by
 rcases List.mem_cons.1 hy with rfl | h
 ·exact hx
 ·exact hl y h
theorem Lim.tail {x : Nat} {l : List Nat} (h : Lim (x :: l)) : Lim l := fun y hy => h y (List.mem_cons_of_mem _ hy)
theorem Lim.head {x : Nat} {l : List Nat} (h : Lim (x :: l)) : x < WB := h x (List.mem_cons_self ..)
theorem Lim.append {l m : List Nat} (hl : Lim l) (hm : Lim m) : Lim (l ++ m) := fun y hy => by
 rcases List.mem_append.1 hy with h | h
 ·exact hl y h
 ·exact hm y h
theorem Lim.take {l : List Nat} (hl : Lim l) (n : Nat) : Lim (l.take n) := fun y hy => hl y (List.mem_of_mem_take hy)
theorem Lim.drop {l : List Nat} (hl : Lim l) (n : Nat) : Lim (l.drop n) := fun y hy => hl y (List.mem_of_mem_drop hy)
theorem Lim.set {l : List Nat} (hl : Lim l) {i x : Nat} (hx : x < WB) : Lim (l.set i x) := fun y hy => by
 rcases List.mem_or_eq_of_mem_set hy with h | rfl
 ·exact hl y h
 ·exact hx
theorem Lim.rep (n : Nat) : Lim (List.replicate n 0) := fun y hy => by
 rw [(List.mem_replicate.1 hy).2]; decide
theorem Lim.getD {l : List Nat} (hl : Lim l) (i : Nat) : l.getD i 0 < 4294967296 := by
 by_cases h : i < l.length
 ·simp only [List.getD_eq_getElem?_getD, h, List.getElem?_eq_getElem, Option.getD_some]
  exact hl _ (List.getElem_mem h)
 ·simp only [List.getD_eq_getElem?_getD, List.getElem?_eq_none (Nat.le_of_not_lt h), Option.getD_none]
  decide
theorem nv_append (l m : List Nat) : nv (l ++ m) = nv l + WB ^ l.length * nv m := by
 induction l with
 | nil => simp [nv]
 | cons x l ih =>
  simp only [List.cons_append, nv, ih, List.length_cons, Nat.pow_succ, Nat.mul_add]
  rw [Nat.mul_comm (WB ^ l.length) WB, Nat.mul_assoc]
  omega
theorem nv_lt {l : List Nat} (h : Lim l) : nv l < WB ^ l.length := by
 induction l with
 | nil => simp [nv]
 | cons x l ih =>
  have h1 := ih h.tail
  have h2 := h.head
  simp only [nv, List.length_cons, Nat.pow_succ]
  have : WB * (nv l + 1) ≤ WB * WB ^ l.length := Nat.mul_le_mul_left _ h1
  rw [Nat.mul_comm (WB ^ l.length) WB]
  rw [Nat.mul_add] at this
  omega
theorem nv_rep (n : Nat) : nv (List.replicate n 0) = 0 := by
 induction n with
 | zero => rfl
 | succ n ih => simp [List.replicate_succ, nv, ih]
theorem dig_zero : dig 0 = [] := by rw [dig]; simp
theorem dig_pos {n : Nat} (h : n ≠ 0) : dig n = n % WB :: dig (n / WB) := by rw [dig]; simp [h]
theorem nv_dig (n : Nat) : nv (dig n) = n := by
 induction n using Nat.strongRecOn with
 | _ n ih =>
  by_cases h : n = 0
  ·subst h; rw [dig_zero]; rfl
  ·rw [dig_pos h]
   simp only [nv, ih (n / WB) (Nat.div_lt_self (by omega) (by decide))]
   exact Nat.mod_add_div n WB
theorem Lim_dig (n : Nat) : Lim (dig n) := by
 induction n using Nat.strongRecOn with
 | _ n ih =>
  by_cases h : n = 0
  ·subst h; rw [dig_zero]; exact Lim.nil
  ·rw [dig_pos h]
   exact Lim.cons (Nat.mod_lt _ (by decide)) (ih _ (Nat.div_lt_self (by omega) (by decide)))
theorem trimL_dig {l : List Nat} (h : Lim l) : trimL l = dig (nv l) := by
 induction l with
 | nil => simp [trimL, nv, dig_zero]
 | cons x l ih =>
  have h1 := ih h.tail
  have h2 := h.head
  have hd : (x + WB * nv l) / WB = nv l := by
   rw [Nat.add_mul_div_left _ _ (by decide), Nat.div_eq_of_lt h2]; omega
  have hm : (x + WB * nv l) % WB = x := by
   rw [Nat.add_mul_mod_self_left, Nat.mod_eq_of_lt h2]
  simp only [trimL, nv]
  by_cases h0 : x + WB * nv l = 0
  ·have hx : x = 0 := by omega
   have hl : nv l = 0 := by
    rcases Nat.eq_zero_or_pos (nv l) with h | h
    ·exact h
    ·have : WB * 1 ≤ WB * nv l := Nat.mul_le_mul_left _ h
     omega
   rw [h1, hl, dig_zero, hx]
   simp [dig_zero]
  ·rw [dig_pos h0, hd, hm, h1]
   cases e : dig (nv l) with
   | nil =>
    have : nv l = 0 := by rw [← nv_dig (nv l), e]; rfl
    rw [this] at h0
    simp only
    rw [if_neg (by omega)]
   | cons y m => rfl
theorem dig_len {n k : Nat} : (dig n).length ≤ k ↔ n < WB ^ k := by
 constructor
 ·intro h
  have h1 := nv_lt (Lim_dig n)
  rw [nv_dig] at h1
  exact Nat.lt_of_lt_of_le h1 (Nat.pow_le_pow_right (by decide) h)
 ·induction n using Nat.strongRecOn generalizing k with
  | _ n ih =>
   intro h
   by_cases h0 : n = 0
   ·subst h0; rw [dig_zero]; exact Nat.zero_le _
   ·rw [dig_pos h0, List.length_cons]
    cases k with
    | zero => simp at h; omega
    | succ k =>
     have : n / WB < WB ^ k := by
      rw [Nat.pow_succ] at h
      exact Nat.div_lt_of_lt_mul (by rw [Nat.mul_comm]; exact h)
     exact Nat.succ_le_succ (ih _ (Nat.div_lt_self (by omega) (by decide)) this)
theorem dig_inj {a b : Nat} (h : dig a = dig b) : a = b := by rw [← nv_dig a, h, nv_dig]
theorem dig_nil {n : Nat} : dig n = [] ↔ n = 0 := ⟨fun h => by rw [← nv_dig n, h]; rfl, fun h => by rw [h, dig_zero]⟩
theorem trimL_len (l : List Nat) : (trimL l).length ≤ l.length := by
 induction l with
 | nil => simp [trimL]
 | cons x l ih =>
  simp only [trimL]
  split
  ·split <;> simp
  ·rename_i y m h
   rw [h] at ih
   simp at ih ⊢
   omega
theorem nv_trimL (l : List Nat) : nv (trimL l) = nv l := by
 induction l with
 | nil => rfl
 | cons x l ih =>
  simp only [trimL]
  split
  ·rename_i h
   rw [h] at ih
   simp only [nv] at ih ⊢
   rw [← ih]
   split
   ·rename_i hx; simp [nv, hx]
   ·simp [nv]
  ·rename_i y m h
   rw [h] at ih
   simp only [nv] at ih ⊢
   rw [ih]
theorem Lim.trim {l : List Nat} (h : Lim l) : Lim (trimL l) := by rw [trimL_dig h]; exact Lim_dig _
theorem trimL_snoc (l : List Nat) : trimL (l ++ [0]) = trimL l := by
 induction l with
 | nil => simp [trimL]
 | cons x l ih => simp only [List.cons_append, trimL, ih]
theorem trimL_last {l : List Nat} (h : l.length ≠ 0) (h0 : l.getD (l.length - 1) 0 ≠ 0) : trimL l = l := by
 induction l with
 | nil => simp at h
 | cons x l ih =>
  cases l with
  | nil =>
   simp at h0
   simp [trimL, h0]
  | cons y m =>
   have : trimL (y :: m) = y :: m := ih (by simp) (by simpa using h0)
   rw [trimL, this]
theorem take_succ_getD {l : List Nat} {n : Nat} (h : n < l.length) : l.take (n + 1) = l.take n ++ [l.getD n 0] := by
 rw [List.take_add_one]
 simp [h]
theorem nv_take_succ {l : List Nat} {n : Nat} (h : n < l.length) : nv (l.take (n + 1)) = nv (l.take n) + WB ^ n * l.getD n 0 := by
 rw [take_succ_getD h, nv_append]
 simp [nv, Nat.min_eq_left (Nat.le_of_lt h)]
theorem nv_split (l : List Nat) (i : Nat) : nv l = nv (l.take i) + WB ^ (min i l.length) * nv (l.drop i) := by
 have := nv_append (l.take i) (l.drop i)
 rw [List.take_append_drop, List.length_take] at this
 exact this
theorem nv_lt_of {a b : List Nat} {i : Nat} (hl : a.length = b.length) (hi : i < a.length) (ha : Lim a) (hd : a.drop (i + 1) = b.drop (i + 1)) (h : a.getD i 0 < b.getD i 0) : nv a < nv b := by
 have h1 := nv_split a (i + 1)
 have h2 := nv_split b (i + 1)
 rw [Nat.min_eq_left (by omega)] at h1 h2
 rw [nv_take_succ (by omega)] at h1 h2
 have h3 := nv_lt (ha.take i)
 rw [List.length_take, Nat.min_eq_left (by omega)] at h3
 have h4 : WB ^ i * (a.getD i 0 + 1) ≤ WB ^ i * b.getD i 0 := Nat.mul_le_mul_left _ h
 rw [Nat.mul_add] at h4
 rw [hd] at h1
 omega
theorem dig_length_lt {x y : Nat} (h : (dig x).length < (dig y).length) : x < y := by
 rcases Nat.lt_or_ge x y with h1 | h1
 ·exact h1
 ·have h2 := nv_lt (Lim_dig x)
  rw [nv_dig] at h2
  have := (dig_len (n := y) (k := (dig x).length)).2 (by omega)
  omega
def cmpN (x y : Nat) : Int := if x < y then -1 else if x = y then 0 else 1
theorem drop_getD {l : List Nat} {n : Nat} (h : n < l.length) : l.drop n = l.getD n 0 :: l.drop (n + 1) := by
 rw [List.drop_eq_getElem_cons h]
 simp [h]
theorem nv_set {l : List Nat} {i : Nat} (h : i < l.length) (x : Nat) : nv (l.set i x) + WB ^ i * l.getD i 0 = nv l + WB ^ i * x := by
 induction l generalizing i with
 | nil => simp at h
 | cons y l ih =>
  cases i with
  | zero => simp [nv]; omega
  | succ i =>
   have h0 := ih (i := i) (by simpa using h)
   have h2 : WB * nv (l.set i x) + WB ^ (i + 1) * l.getD i 0 = WB * nv l + WB ^ (i + 1) * x := by
    rw [Nat.pow_succ, Nat.mul_comm (WB ^ i) WB, Nat.mul_assoc, Nat.mul_assoc, ← Nat.mul_add, ← Nat.mul_add, h0]
   simp only [List.set_cons_succ, nv, List.getD_cons_succ]
   omega
theorem getDL_set_ne {l : List Nat} {i k x : Nat} (h : i ≠ k) : (l.set i x).getD k 0 = l.getD k 0 := by
 simp [List.getElem?_set_ne h]
theorem dig_mono {x y : Nat} (h : x ≤ y) : (dig x).length ≤ (dig y).length := dig_len.2 (Nat.lt_of_le_of_lt h (dig_len.1 (Nat.le_refl _)))
theorem dig_add_le {x y k : Nat} (hx : (dig x).length ≤ k) (hy : (dig y).length ≤ k) : (dig (x + y)).length ≤ k + 1 := by
 have h1 := dig_len.1 hx
 have h2 := dig_len.1 hy
 refine dig_len.2 ?_
 rw [Nat.pow_succ]
 have : WB ^ k * 2 ≤ WB ^ k * WB := Nat.mul_le_mul_left _ (by decide)
 omega
theorem dig_mul_le (x y : Nat) : (dig (x * y)).length ≤ (dig x).length + (dig y).length := by
 have h1 := dig_len.1 (Nat.le_refl (dig x).length)
 have h2 := dig_len.1 (Nat.le_refl (dig y).length)
 refine dig_len.2 ?_
 rw [Nat.pow_add]
 exact Nat.mul_lt_mul'' h1 h2
end Go.QM
end
