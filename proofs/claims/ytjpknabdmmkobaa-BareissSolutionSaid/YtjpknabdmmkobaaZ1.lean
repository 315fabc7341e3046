/- Part 1 of the proof: Qm, QmStep, QmOp, QmMake, QmApp, QmExec. -/
import Derived.Calls
import Derived.Orders
import Derived.Laws.AppendOwn
import Derived.Laws.MakeOwn
import Derived.Laws.CopyRow
import Derived.Laws.Slices
import Derived.Laws.Wrap64
set_option linter.unusedVariables false
set_option linter.unusedSimpArgs false
section
namespace Go.QM
structure Blk where
 ty : TypeId
 sz : Nat
 cs : List Value
structure VH where
 next : Nat
 blk : Nat → Option Blk
def VH.push (h : VH) (B : Blk) : VH := ⟨h.next + 1, fun b => if b = h.next then some B else h.blk b⟩
def VH.set (h : VH) (b : Nat) (B : Option Blk) : VH := ⟨h.next, fun x => if x = b then B else h.blk x⟩
inductive TK where
 | int (k : IntKind)
 | bool
 | string
 | slice (e : TypeId)
 | struct (fs : List (Nat × TypeId))
 | array (n : Nat) (e : TypeId)
 | pointer (e : TypeId)
 | other
structure TI where
 k : TK
 size : Nat
 bytes : Nat
 zero : Value
def TK.isAgg : TK → Bool
 | .struct _ | .array _ _ => true
 | _ => false
def DescOk : TK → TypeDesc → Prop
 | .int k, d => d = .int k
 | .bool, d => d = .bool
 | .string, d => d = .string
 | .slice e, d => d = .slice e
 | .struct fs, d => ∃ f, d = .struct f ∧ f.toList.map (fun x => (x.offset, x.type)) = fs
 | .array n e, d => d = .array n e
 | .pointer e, d => d = .pointer e
 | .other, d => (match d with | .struct _ | .array _ _ | .int _ => False | _ => True)
structure Cfg where
 T : TypeId → Option TI
 base : Nat
 gl : Nat → Bool
def plainV : Value → Bool
 | .bool _ | .int _ _ | .string _ | .pointer none | .nilFunc | .nilIface => true
 | .slice none 0 0 => true
 | _ => false
structure TOk (P : Program) (t : TypeId) (i : TI) : Prop where
 zsz : i.zero.cells.size = i.size
 zok : ∀ v ∈ i.zero.cells.toList, plainV v = true
 desc : ∃ d, P.underlying t = some d ∧ DescOk i.k d
 info : ∃ f, P.info? t = some f ∧ f.size = i.size ∧ f.bytes = i.bytes ∧ f.zero = some i.zero
def Cfg.Ok (P : Program) (C : Cfg) : Prop := ∀ t i, C.T t = some i → TOk P t i
structure MB where
 k : Nat
 s : Nat
 c : Nat
structure Mu where
 m : Nat → Option MB
 z : Nat → Option (Array Value)
instance : CoeFun Mu (fun _ => Nat → Option MB) := ⟨Mu.m⟩
abbrev Un : Value := .tuple #[]
abbrev fS (len : Nat) (cs : Array Value) : Value := .func (.yield len) #[] cs
abbrev fP (off : Nat) (cs : Array Value) : Value := .func (.methodOf off "") #[] cs
inductive VR (μ : Mu) : Value → Value → Prop
 | junk (cv : Value) : VR μ (.tuple #[]) cv
 | bool (b : Bool) : VR μ (.bool b) (.bool b)
 | int (k : IntKind) (n : Int) : VR μ (.int k n) (.int k n)
 | string (s : ByteArray) : VR μ (.string s) (.string s)
 | ptrNil : VR μ (.pointer none) (.pointer none)
 | ptr {b off : Nat} {m : MB} (h : μ b = some m) : VR μ (.pointer (some ⟨b, off, none⟩)) (.pointer (some ⟨m.k, off, none⟩))
 | slNil : VR μ (.slice none 0 0) (.slice none 0 0)
 | sl {b off len cap cap' : Nat} {m : MB} (h : μ b = some m) (hl : len ≤ cap) (hc : cap ≤ cap') (hs : off = 0 → cap' * m.s ≤ m.c) :
   VR μ (.slice (some ⟨b, off, none⟩) len cap) (.slice (some ⟨m.k, off, none⟩) len cap')
 | slE {b off off' cap' : Nat} {m : MB} (h : μ b = some m) (hs : off' = 0 → cap' * m.s ≤ m.c) :
   VR μ (.slice (some ⟨b, off, none⟩) 0 0) (.slice (some ⟨m.k, off', none⟩) 0 cap')
 | nilFunc : VR μ .nilFunc .nilFunc
 | nilIface : VR μ .nilIface .nilIface
 | iface {t : TypeId} {v cv : Value} (h : VR μ v cv) : VR μ (.iface t v) (.iface t cv)
 | func {fn : FuncId} {a b a' b' : Array Value} (ha : a.size = a'.size) (hb : b.size = b'.size)
   (h1 : ∀ (i : Nat) (v cv : Value), a[i]? = some v → a'[i]? = some cv → VR μ v cv) (h2 : ∀ (i : Nat) (v cv : Value), b[i]? = some v → b'[i]? = some cv → VR μ v cv) :
   VR μ (.func (.func fn) a b) (.func (.func fn) a' b')
 | frS {k off len cap : Nat} {cur cs : Array Value} (hf : μ.z k = some cur) (hl : len ≤ cap) (hz : off + cs.size ≤ cur.size) (ho : ∀ v ∈ cs.toList, v.oneCell' = true)
   (h1 : ∀ (i : Nat) (v cv : Value), cs[i]? = some v → cur[off + i]? = some cv → VR μ v cv) : VR μ (.func (.yield len) #[] cs) (.slice (some ⟨k, off, none⟩) len cap)
 | frN : VR μ (.func (.yield 0) #[] #[]) (.slice none 0 0)
 | frE (a : Addr) (cap : Nat) : VR μ (.func (.yield 0) #[] #[]) (.slice (some a) 0 cap)
 | frP {k base off : Nat} {cur cs : Array Value} (hf : μ.z k = some cur) (hz : base + cs.size ≤ cur.size) (ho : ∀ v ∈ cs.toList, v.oneCell' = true)
   (h1 : ∀ (i : Nat) (v cv : Value), cs[i]? = some v → cur[base + i]? = some cv → VR μ v cv) : VR μ (.func (.methodOf off "") #[] cs) (.pointer (some ⟨k, base + off, none⟩))
 | agg {a a' : Array Value} (ha : a.size = a'.size) (ho : ∀ v ∈ a.toList, v.oneCell' = true)
   (h1 : ∀ (i : Nat) (v cv : Value), a[i]? = some v → a'[i]? = some cv → VR μ v cv) : VR μ (.agg a) (.agg a')
 | tuple {a a' : Array Value} (ha : a.size = a'.size) (h1 : ∀ (i : Nat) (v cv : Value), a[i]? = some v → a'[i]? = some cv → VR μ v cv) : VR μ (.tuple a) (.tuple a')
structure Mu.le (μ μ' : Mu) : Prop where
 m : ∀ b m, μ b = some m → μ' b = some m
 z : ∀ k c, μ.z k = some c → μ'.z k = some c
instance {μ μ' : Mu} : CoeFun (Mu.le μ μ') (fun _ => ∀ b m, μ b = some m → μ' b = some m) := ⟨Mu.le.m⟩
theorem Mu.le_refl (μ : Mu) : μ.le μ := ⟨fun _ _ h => h, fun _ _ h => h⟩
theorem Mu.le_trans {a b c : Mu} (h : a.le b) (k : b.le c) : a.le c := ⟨fun _ _ x => k _ _ (h _ _ x), fun _ _ x => k.z _ _ (h.z _ _ x)⟩
theorem VR.mono {μ μ' : Mu} (hm : μ.le μ') {v cv : Value} (h : VR μ v cv) : VR μ' v cv := by
 induction h with
 | junk cv => exact .junk cv
 | bool b => exact .bool b
 | int k n => exact .int k n
 | string s => exact .string s
 | ptrNil => exact .ptrNil
 | ptr h => exact .ptr (hm _ _ h)
 | slNil => exact .slNil
 | sl h hl hc hs => exact .sl (hm _ _ h) hl hc hs
 | slE h hs => exact .slE (hm _ _ h) hs
 | nilFunc => exact .nilFunc
 | nilIface => exact .nilIface
 | iface _ ih => exact .iface ih
 | func ha hb _ _ i1 i2 => exact .func ha hb i1 i2
 | frS hf hl hz ho _ i1 => exact .frS (hm.z _ _ hf) hl hz ho i1
 | frN => exact .frN
 | frE a c => exact .frE a c
 | frP hf hz ho _ i1 => exact .frP (hm.z _ _ hf) hz ho i1
 | agg ha ho _ i1 => exact .agg ha ho i1
 | tuple ha _ i1 => exact .tuple ha i1
theorem VR.oneCell {μ : Mu} {v cv : Value} (h : VR μ v cv) (ho : v.oneCell' = true) : cv.oneCell' = true := by
 cases h <;> first | rfl | simp [Value.oneCell'] at ho
theorem VR.plain {μ : Mu} {v : Value} (h : plainV v = true) : VR μ v v ∧ v.oneCell' = true := by
 unfold plainV at h
 split at h <;> first
  | exact ⟨.bool _, rfl⟩
  | exact ⟨.int _ _, rfl⟩
  | exact ⟨.string _, rfl⟩
  | exact ⟨.ptrNil, rfl⟩
  | exact ⟨.nilFunc, rfl⟩
  | exact ⟨.nilIface, rfl⟩
  | exact ⟨.slNil, rfl⟩
  | cases h
def VRL (μ : Mu) (l cl : List Value) : Prop := l.length = cl.length ∧ ∀ (i : Nat) (v cv : Value), l[i]? = some v → cl[i]? = some cv → VR μ v cv
theorem VRL.nil (μ : Mu) : VRL μ [] [] := ⟨rfl, fun i v cv h => by simp at h⟩
theorem VRL.mono {μ μ' : Mu} (hm : μ.le μ') {l cl : List Value} (h : VRL μ l cl) : VRL μ' l cl := ⟨h.1, fun i v cv a b => (h.2 i v cv a b).mono hm⟩
theorem VRL.cons {μ : Mu} {v cv : Value} {l cl : List Value} (h : VR μ v cv) (hl : VRL μ l cl) : VRL μ (v :: l) (cv :: cl) :=
 ⟨by simp [hl.1], fun i x cx a b => by
  cases i with
  | zero => simp at a b; subst a b; exact h
  | succ i => simp at a b; exact hl.2 i x cx a b⟩
theorem VRL.append {μ : Mu} {l cl l' cl' : List Value} (h : VRL μ l cl) (h' : VRL μ l' cl') : VRL μ (l ++ l') (cl ++ cl') :=
 ⟨by simp [h.1, h'.1], fun i v cv a b => by
  by_cases hi : i < l.length
  ·rw [List.getElem?_append_left hi] at a
   rw [List.getElem?_append_left (by rw [← h.1]; exact hi)] at b
   exact h.2 i v cv a b
  ·rw [List.getElem?_append_right (by omega)] at a
   rw [List.getElem?_append_right (by have := h.1; omega), ← h.1] at b
   exact h'.2 _ v cv a b⟩
theorem VRL.take {μ : Mu} {l cl : List Value} (h : VRL μ l cl) (n : Nat) : VRL μ (l.take n) (cl.take n) :=
 ⟨by simp [h.1], fun i v cv a b => by
  rw [List.getElem?_take] at a b
  split at a
  ·simp_all; exact h.2 i v cv a b
  ·cases a⟩
theorem VRL.drop {μ : Mu} {l cl : List Value} (h : VRL μ l cl) (n : Nat) : VRL μ (l.drop n) (cl.drop n) :=
 ⟨by simp [h.1], fun i v cv a b => by
  rw [List.getElem?_drop] at a b
  exact h.2 _ v cv a b⟩
theorem VRL.get {μ : Mu} {l cl : List Value} (h : VRL μ l cl) {i : Nat} {v : Value} (hv : l[i]? = some v) : ∃ cv, cl[i]? = some cv ∧ VR μ v cv := by
 have hi : i < cl.length := by
  rw [← h.1]
  exact (List.getElem?_eq_some_iff.1 hv).1
 exact ⟨cl[i], by simp [hi], h.2 i v _ hv (by simp [hi])⟩
theorem VRL.map {μ : Mu} {α : Type} {f g : α → Value} (xs : List α) (h : ∀ x ∈ xs, VR μ (f x) (g x)) : VRL μ (xs.map f) (xs.map g) :=
 ⟨by simp, fun i v cv a b => by
  simp only [List.getElem?_map, Option.map_eq_some_iff] at a b
  obtain ⟨x, hx, rfl⟩ := a
  obtain ⟨y, hy, rfl⟩ := b
  rw [hx] at hy
  injection hy with hy
  subst hy
  exact h x (List.mem_of_getElem? hx)⟩
theorem VR.agg_of {μ : Mu} {a a' : Array Value} (h : VRL μ a.toList a'.toList) (ho : ∀ v ∈ a.toList, v.oneCell' = true) : VR μ (.agg a) (.agg a') :=
 .agg (by simpa using h.1) ho (fun i v cv x y => h.2 i v cv (by simpa using x) (by simpa using y))
theorem VR.tuple_of {μ : Mu} {a a' : Array Value} (h : VRL μ a.toList a'.toList) : VR μ (.tuple a) (.tuple a') :=
 .tuple (by simpa using h.1) (fun i v cv x y => h.2 i v cv (by simpa using x) (by simpa using y))
theorem VR.agg_inv {μ : Mu} {a : Array Value} {cv : Value} (h : VR μ (.agg a) cv) : ∃ a', cv = .agg a' ∧ VRL μ a.toList a'.toList ∧ ∀ v ∈ a.toList, v.oneCell' = true := by
 cases h with
 | agg ha ho h1 => exact ⟨_, rfl, ⟨by simpa using ha, fun i v cv x y => h1 i v cv (by simpa using x) (by simpa using y)⟩, ho⟩
structure Sim (C : Cfg) (μ : Mu) (h : VH) (w : World) : Prop where
 blk : ∀ b m B, μ b = some m → h.blk b = some B → ∃ cur : Array Value, w.heap[m.k]? = some (.cells cur B.ty (0, 0)) ∧ cur.size = m.c ∧ B.sz = m.s ∧
  VRL μ B.cs (cur.toList.take B.cs.length) ∧ ∀ v ∈ B.cs, v.oneCell' = true
 inj : ∀ b1 b2 m1 m2, μ b1 = some m1 → μ b2 = some m2 → m1.k = m2.k → h.blk b1 ≠ none → h.blk b2 ≠ none → b1 = b2
 dom : ∀ b m, μ b = some m → b < h.next
 rng : ∀ b m, μ b = some m → m.k < w.heap.size
 glob : ∀ g, C.gl g = true → ∃ m, μ g = some m ∧ m.k = g
 fz : ∀ k cur, μ.z k = some cur → ∃ ty fr, w.heap[k]? = some (.cells cur ty fr)
 fzd : ∀ b m, μ b = some m → h.blk b ≠ none → μ.z m.k = none
structure Step (C : Cfg) (μ : Mu) (h : VH) (w : World) (μ' : Mu) (h' : VH) (w' : World) : Prop where
 le : μ.le μ'
 sim : Sim C μ' h' w'
 os : w'.os = w.os
 tape : w'.tape = w.tape
 output : w'.output = w.output
 size : w.heap.size ≤ w'.heap.size
 next : h.next ≤ h'.next
 other : ∀ k, k < w.heap.size → (∀ b m, μ b = some m → h.blk b ≠ none → m.k ≠ k) → w'.heap[k]? = w.heap[k]?
 ro : ∀ b m, b < C.base → μ b = some m → h.blk b ≠ none → w'.heap[m.k]? = w.heap[m.k]?
 roV : ∀ b, b < C.base → b < h.next → h'.blk b = h.blk b
 fresh : ∀ b m, μ' b = some m → μ b = none → h.next ≤ b ∧ (w.heap.size ≤ m.k ∨ ∃ b0 m0, μ b0 = some m0 ∧ h.blk b0 ≠ none ∧ m0.k = m.k)
 noRes : ∀ b, b < h.next → h.blk b = none → h'.blk b = none
 dom0 : ∀ b m, μ b = some m → b < h.next
 allm : ∀ b, h.next ≤ b → b < h'.next → h'.blk b ≠ none → ∃ m, μ' b = some m
 frz : ∀ k c, μ'.z k = some c → μ.z k = some c ∨ w.heap.size ≤ k ∨ ∃ b0 m0, μ b0 = some m0 ∧ h.blk b0 ≠ none ∧ m0.k = k
theorem Step.refl {C : Cfg} {μ : Mu} {h : VH} {w : World} (hs : Sim C μ h w) : Step C μ h w μ h w :=
 ⟨Mu.le_refl _, hs, rfl, rfl, rfl, Nat.le_refl _, Nat.le_refl _, fun _ _ _ => rfl, fun _ _ _ _ _ => rfl, fun _ _ _ => rfl, fun b m h1 h2 => (by rw [h1] at h2; cases h2), fun _ _ x => x, hs.dom, fun b x y _ => (by omega), fun _ _ x => .inl x⟩
theorem Step.sim0 {C : Cfg} {μ μ1 : Mu} {h h1 : VH} {w w1 : World} (a : Step C μ h w μ1 h1 w1) {b : Nat} {m : MB} (hb : μ b = some m) : b < h.next := a.dom0 b m hb
theorem Step.trans {C : Cfg} {μ μ1 μ2 : Mu} {h h1 h2 : VH} {w w1 w2 : World} (a : Step C μ h w μ1 h1 w1) (b : Step C μ1 h1 w1 μ2 h2 w2) : Step C μ h w μ2 h2 w2 where
 le := Mu.le_trans a.le b.le
 sim := b.sim
 os := b.os.trans a.os
 tape := b.tape.trans a.tape
 output := b.output.trans a.output
 size := Nat.le_trans a.size b.size
 next := Nat.le_trans a.next b.next
 other := fun k hk hn => by
  rw [b.other k (Nat.lt_of_lt_of_le hk a.size) ?_, a.other k hk hn]
  intro b0 m hb0 hl hkk
  cases hb : μ b0 with
  | some m' =>
   have := a.le _ _ hb
   rw [hb0] at this
   cases this
   exact hn _ _ hb (fun e => hl (a.noRes _ (a.sim0 hb) e)) hkk
  | none =>
   rcases (a.fresh _ _ hb0 hb).2 with h3 | ⟨b1, m1, h4, h5, h6⟩
   ·omega
   ·exact hn _ _ h4 h5 (h6.trans hkk)
 ro := fun b0 m hb hm hl => (b.ro b0 m hb (a.le _ _ hm) (by rw [a.roV b0 hb (a.sim0 hm)]; exact hl)).trans (a.ro b0 m hb hm hl)
 roV := fun b0 hb hn => (b.roV b0 hb (Nat.lt_of_lt_of_le hn a.next)).trans (a.roV b0 hb hn)
 fresh := fun b0 m hm hn => by
  cases hb : μ1 b0 with
  | some m' =>
   have := b.le _ _ hb
   rw [hm] at this
   cases this
   exact a.fresh _ _ hb hn
  | none =>
   obtain ⟨h3, h4⟩ := b.fresh _ _ hm hb
   refine ⟨Nat.le_trans a.next h3, ?_⟩
   rcases h4 with h4 | ⟨b1, m1, h5, h6, h7⟩
   ·exact .inl (Nat.le_trans a.size h4)
   ·cases hb1 : μ b1 with
    | some m' =>
     have := a.le _ _ hb1
     rw [h5] at this
     cases this
     exact .inr ⟨_, _, hb1, fun e => h6 (a.noRes _ (a.sim0 hb1) e), h7⟩
    | none =>
     rcases (a.fresh _ _ h5 hb1).2 with h8 | ⟨b2, m2, h8, h9, h10⟩
     ·exact .inl (by omega)
     ·exact .inr ⟨_, _, h8, h9, h10.trans h7⟩
 noRes := fun b0 hb hn => b.noRes b0 (Nat.lt_of_lt_of_le hb a.next) (a.noRes b0 hb hn)
 dom0 := a.dom0
 allm := fun b0 x y z => by
  rcases Nat.lt_or_ge b0 h1.next with hb | hb
  ·obtain ⟨m, hm⟩ := a.allm b0 x hb (fun e => z (b.noRes b0 hb e))
   exact ⟨m, b.le _ _ hm⟩
  ·exact b.allm b0 hb y z
 frz := fun k c hk => by
  rcases b.frz k c hk with h3 | h3 | ⟨b1, m1, h5, h6, h7⟩
  ·exact a.frz k c h3
  ·exact .inr (.inl (Nat.le_trans a.size h3))
  ·cases hb1 : μ b1 with
   | some m' =>
    have := a.le _ _ hb1
    rw [h5] at this
    cases this
    exact .inr (.inr ⟨_, _, hb1, fun e => h6 (a.noRes _ (a.sim0 hb1) e), h7⟩)
   | none =>
    rcases (a.fresh _ _ h5 hb1).2 with h8 | ⟨b2, m2, h8, h9, h10⟩
    ·exact .inr (.inl (by omega))
    ·exact .inr (.inr ⟨_, _, h8, h9, h10.trans h7⟩)
theorem Sim.drawn {C : Cfg} {μ : Mu} {h : VH} {w w' : World} (hs : Sim C μ h w) (hh : w'.heap = w.heap) : Sim C μ h w' :=
 ⟨fun b m B h1 h2 => by rw [hh]; exact hs.blk b m B h1 h2, hs.inj, hs.dom, fun b m h1 => by rw [hh]; exact hs.rng b m h1, hs.glob, fun k cur h1 => by rw [hh]; exact hs.fz k cur h1, hs.fzd⟩
theorem Step.drawn {C : Cfg} {μ : Mu} {h : VH} {w w' : World} (hs : Sim C μ h w) (hh : w'.heap = w.heap) (ho : w'.os = w.os) (ht : w'.tape = w.tape) (hp : w'.output = w.output) : Step C μ h w μ h w' :=
 ⟨Mu.le_refl _, hs.drawn hh, ho, ht, hp, by rw [hh]; exact Nat.le_refl _, Nat.le_refl _, fun _ _ _ => by rw [hh], fun _ _ _ _ _ => by rw [hh], fun _ _ _ => rfl, fun b m h1 h2 => (by rw [h1] at h2; cases h2), fun _ _ x => x, hs.dom, fun b x y _ => (by omega), fun _ _ x => .inl x⟩
end Go.QM
end

section
namespace Go.QM
variable {P : Program} {C : Cfg} {μ : Mu} {h : VH} {w : World}
def rdN (h : VH) (b off n : Nat) : Option (List Value) := (h.blk b).bind fun B => if off + n ≤ B.cs.length then some ((B.cs.drop off).take n) else none
def rd1 (h : VH) (b off : Nat) : Option Value := (h.blk b).bind fun B => B.cs[off]?
def cellsV : Value → Option (List Value)
 | .agg cs => some cs.toList
 | .tuple _ => none
 | v => some [v]
def wrN (base : Nat) (h : VH) (b off : Nat) (l : List Value) : Option VH :=
 if base ≤ b then (h.blk b).bind fun B => if off + l.length ≤ B.cs.length then some (h.set b (some ⟨B.ty, B.sz, B.cs.take off ++ l ++ B.cs.drop (off + l.length)⟩)) else none else none
theorem add_at (k off j : Nat) : (⟨k, off, none⟩ : Addr).add j = ⟨k, off + j, none⟩ := by unfold Addr.add; split <;> simp_all
theorem cellsV_sim {v cv : Value} (hv : VR μ v cv) {l : List Value} (hl : cellsV v = some l) : VRL μ l cv.cells.toList ∧ ∀ x ∈ l, x.oneCell' = true := by
 have hv' := hv
 cases hv with
 | junk => simp [cellsV] at hl
 | tuple => simp [cellsV] at hl
 | agg ha ho h1 =>
  simp only [cellsV, Option.some.injEq] at hl
  subst hl
  exact ⟨⟨by simpa [Value.cells] using ha, fun i v cv x y => h1 i v cv (by simpa using x) (by simpa [Value.cells] using y)⟩, ho⟩
 | _ =>
  simp only [cellsV, Option.some.injEq] at hl
  subst hl
  refine ⟨VRL.cons ?_ (VRL.nil _), fun x hx => ?_⟩
  ·exact hv'
  ·rw [List.mem_singleton.1 hx]; rfl
theorem rdN_sim (hs : Sim C μ h w) {b off n : Nat} {m : MB} (hb : μ b = some m) {l : List Value} (hl : rdN h b off n = some l) :
  ∃ cl, VRL μ l cl ∧ l.length = n ∧ (∀ j v, cl[j]? = some v → w.cell? ((⟨m.k, off, none⟩ : Addr).add j) = some v) ∧ ∀ v ∈ l, v.oneCell' = true := by
 unfold rdN at hl
 cases hB : h.blk b with
 | none => simp [hB] at hl
 | some B =>
  simp only [hB, Option.bind_some] at hl
  split at hl
  ·rename_i hle
   injection hl with hl
   subst hl
   obtain ⟨cur, hc, hsz, _, hv, ho⟩ := hs.blk b m B hb hB
   have hlen := hv.1
   simp only [List.length_take, Array.length_toList] at hlen
   refine ⟨(cur.toList.drop off).take n, ?_, by simp; omega, fun j v hj => ?_, fun v hv' => ho v (List.mem_of_mem_drop (List.mem_of_mem_take hv'))⟩
   ·have h2 := (hv.drop off).take n
    refine ⟨by simp; omega, fun i x cx a c => h2.2 i x cx a ?_⟩
    rw [List.getElem?_take] at c ⊢
    split at c
    ·rename_i hi
     rw [if_pos hi, List.getElem?_drop, List.getElem?_take, if_pos (by omega)]
     rwa [List.getElem?_drop] at c
    ·cases c
   ·rw [add_at]
    rw [List.getElem?_take] at hj
    split at hj
    ·rw [List.getElem?_drop] at hj
     simp only [World.cell?, hc, Option.isSome_none, Bool.false_eq_true, if_false]
     simpa using hj
    ·cases hj
  ·cases hl
theorem rd1_sim (hs : Sim C μ h w) {b off : Nat} {m : MB} (hb : μ b = some m) {v : Value} (hl : rd1 h b off = some v) :
  ∃ cv, VR μ v cv ∧ w.cell? ⟨m.k, off, none⟩ = some cv ∧ v.oneCell' = true := by
 unfold rd1 at hl
 cases hB : h.blk b with
 | none => simp [hB] at hl
 | some B =>
  simp only [hB, Option.bind_some] at hl
  obtain ⟨cur, hc, hsz, _, hv, ho⟩ := hs.blk b m B hb hB
  obtain ⟨cv, h1, h2⟩ := hv.get hl
  refine ⟨cv, h2, ?_, ho v (List.mem_of_getElem? hl)⟩
  rw [List.getElem?_take] at h1
  split at h1
  ·simp only [World.cell?, hc, Option.isSome_none, Bool.false_eq_true, if_false]
   simpa using h1
  ·cases h1
theorem Step.setRow (hs : Sim C μ h w) {b : Nat} {m : MB} (hb : μ b = some m) {B : Blk} (hB : h.blk b = some B) (hbase : C.base ≤ b) {cs : List Value} {cur : Array Value}
  (hsz : cur.size = m.c) (hv : VRL μ cs (cur.toList.take cs.length)) (ho : ∀ v ∈ cs, v.oneCell' = true) :
  Step C μ h w μ (h.set b (some ⟨B.ty, B.sz, cs⟩)) (w.setRow m.k cur) := by
 obtain ⟨cur0, hc, hsz0, hBs, _, _⟩ := hs.blk b m B hb hB
 have live : ∀ x, (h.set b (some ⟨B.ty, B.sz, cs⟩)).blk x ≠ none → h.blk x ≠ none := by
  intro x hx
  by_cases hxb : x = b
  ·subst hxb; rw [hB]; simp
  ·simpa [VH.set, hxb] using hx
 refine ⟨Mu.le_refl _, ⟨?_, ?_, hs.dom, fun b m h1 => by simpa using hs.rng b m h1, hs.glob, fun k' c' h1 => (by
  rw [setRow_other w _ _ _ (fun e => by have := hs.fzd b m hb (by rw [hB]; simp); rw [← e, h1] at this; cases this)]
  exact hs.fz k' c' h1), fun b1 m1 h1 h2 => hs.fzd b1 m1 h1 (live _ h2)⟩, rfl, rfl, rfl, by simp, Nat.le_refl _, ?_, ?_, fun x hx _ => (by
  have : x ≠ b := by omega
  simp [VH.set, this]), fun b m h1 h2 => (by rw [h1] at h2; cases h2), fun x hx hn => (by
  by_cases hxb : x = b
  ·subst hxb; rw [hB] at hn; cases hn
  ·simpa [VH.set, hxb] using hn), hs.dom, fun x y z _ => (by simp only [VH.set] at z; omega), fun _ _ x => .inl x⟩
 ·intro b' m' B' hb' hB'
  by_cases hx : b' = b
  ·subst hx
   rw [hb] at hb'
   cases hb'
   simp only [VH.set, if_true, Option.some.injEq] at hB'
   subst hB'
   exact ⟨cur, setRow_heap w _ _ _ _ _ hc, hsz, hBs, hv, ho⟩
  ·simp only [VH.set, if_neg hx] at hB'
   obtain ⟨c1, h1, h2, h3, h4, h5⟩ := hs.blk b' m' B' hb' hB'
   have hne : m'.k ≠ m.k := fun e => hx (hs.inj b' b m' m hb' hb e (by rw [hB']; simp) (by rw [hB]; simp))
   exact ⟨c1, by rw [setRow_other w _ _ _ hne]; exact h1, h2, h3, h4, h5⟩
 ·intro b1 b2 m1 m2 h1 h2 h3 h4 h5
  exact hs.inj b1 b2 m1 m2 h1 h2 h3 (live _ h4) (live _ h5)
 ·intro k hk hn
  exact setRow_other w _ _ _ (fun e => hn b m hb (by rw [hB]; simp) e.symm)
 ·intro b' m' hb' hm' hl'
  refine setRow_other w _ _ _ (fun hk => ?_)
  have := hs.inj b' b m' m hm' hb hk hl' (by rw [hB]; simp)
  omega
theorem wrN_sim (hs : Sim C μ h w) {b off : Nat} {m : MB} (hb : μ b = some m) {l cl : List Value} {h' : VH} (hw : wrN C.base h b off l = some h') (hv : VRL μ l cl) (ho : ∀ v ∈ l, v.oneCell' = true) :
  ∃ w', (storeCells ⟨m.k, off, none⟩ cl).run P w = .ok () w' ∧ Step C μ h w μ h' w' := by
 unfold wrN at hw
 split at hw
 ·rename_i hbase
  cases hB : h.blk b with
  | none => simp [hB] at hw
  | some B =>
   simp only [hB, Option.bind_some] at hw
   split at hw
   ·rename_i hle
    injection hw with hw
    subst hw
    obtain ⟨cur, hc, hsz, hBs, hv0, ho0⟩ := hs.blk b m B hb hB
    have hlen := hv0.1
    simp only [List.length_take, Array.length_toList] at hlen
    have hcl := hv.1
    have hst := run_storeCells_at P m.k off B.ty cl 0 cur w hc (by omega) (fun v hv' => by
     obtain ⟨i, hi⟩ := List.getElem?_of_mem hv'
     have hi2 : i < l.length := by rw [hcl]; exact (List.getElem?_eq_some_iff.1 hi).1
     exact (hv.2 i l[i] v (by simp [hi2]) hi).oneCell (ho _ (List.getElem_mem hi2)))
    refine ⟨_, hst, Step.setRow hs hb hB hbase (by simp; omega) ?_ ?_⟩
    ·have h1 : VRL μ (B.cs.take off) (cur.toList.take off) := by
      have := hv0.take off
      rwa [List.take_take, Nat.min_eq_left (by omega)] at this
     have h3 := hv0.drop (off + l.length)
     have hL : (B.cs.take off ++ l ++ B.cs.drop (off + l.length)).length = B.cs.length := by simp; omega
     rw [hL]
     have e : (cur.toList.take (off + 0) ++ cl ++ cur.toList.drop (off + 0 + cl.length)).take B.cs.length = cur.toList.take off ++ cl ++ (cur.toList.take B.cs.length).drop (off + l.length) := by
      rw [Nat.add_zero, ← hcl, List.take_append, List.take_of_length_le (by simp; omega)]
      congr 1
      rw [List.drop_take]
      congr 1
      simp
      omega
     simp only [e]
     exact (h1.append hv).append h3
    ·intro v hv'
     rcases List.mem_append.1 hv' with h4 | h4
     ·rcases List.mem_append.1 h4 with h4 | h4
      ·exact ho0 v (List.mem_of_mem_take h4)
      ·exact ho v h4
     ·exact ho0 v (List.mem_of_mem_drop h4)
   ·cases hw
 ·cases hw
theorem Step.push (hs : Sim C μ h w) {w1 : World} (hh : w1.heap = w.heap) (ho1 : w1.os = w.os) (ht1 : w1.tape = w.tape) (hp1 : w1.output = w.output) (ty : TypeId) (sz : Nat) {cs : List Value} {cur : Array Value}
  (hv : VRL μ cs (cur.toList.take cs.length)) (ho : ∀ v ∈ cs, v.oneCell' = true) :
  ∃ μ', μ' h.next = some ⟨w.heap.size, sz, cur.size⟩ ∧ Step C μ h w μ' (h.push ⟨ty, sz, cs⟩) (w1.alloc (.cells cur ty)) := by
 have hnone : μ h.next = none := by
  cases e : μ h.next with
  | none => rfl
  | some m => have := hs.dom _ _ e; omega
 have hle : μ.le ⟨fun b => if b = h.next then some ⟨w.heap.size, sz, cur.size⟩ else μ b, μ.z⟩ := ⟨fun b m hb => by
  have := hs.dom _ _ hb
  show (if b = h.next then _ else _) = _
  rw [if_neg (by omega)]
  exact hb, fun _ _ x => x⟩
 have hsz1 : w1.heap.size = w.heap.size := by rw [hh]
 have old : ∀ k, k < w.heap.size → (w1.alloc (.cells cur ty)).heap[k]? = w.heap[k]? := fun k hk => by rw [heap_alloc_old _ _ _ (by omega), hh]
 refine ⟨⟨fun b => if b = h.next then some ⟨w.heap.size, sz, cur.size⟩ else μ b, μ.z⟩, by simp, hle, ⟨?_, ?_, ?_, ?_, ?_, ?_, ?_⟩, ho1, ht1, hp1, by simp; omega, Nat.le_succ _, fun k hk _ => old k hk, fun b m _ hm _ => old _ (hs.rng _ _ hm), fun x _ hx => (by
  have : x ≠ h.next := by omega
  simp [VH.push, this]), ?_, fun x hx hn => (by
  have : x ≠ h.next := by omega
  simpa [VH.push, this] using hn), hs.dom, fun x y z _ => ⟨_, if_pos (by simp only [VH.push] at z; omega)⟩, fun _ _ x => .inl x⟩
 ·intro b m B hb hB
  by_cases hx : b = h.next
  ·simp only [hx, if_true, Option.some.injEq] at hb
   simp only [VH.push, hx, if_true, Option.some.injEq] at hB
   subst hb
   subst hB
   exact ⟨cur, by rw [← hsz1]; exact heap_alloc_new _ _, rfl, rfl, hv.mono hle, ho⟩
  ·simp only [if_neg hx] at hb
   simp only [VH.push, if_neg hx] at hB
   obtain ⟨c1, h1, h2, h3, h4, h5⟩ := hs.blk b m B hb hB
   exact ⟨c1, by rw [old _ (hs.rng _ _ hb)]; exact h1, h2, h3, h4.mono hle, h5⟩
 ·intro b1 b2 m1 m2 h1 h2 h3 h4 h5
  by_cases hx : b1 = h.next <;> by_cases hy : b2 = h.next
  ·omega
  ·simp only [hx, if_true, if_neg hy, Option.some.injEq] at h1 h2
   have := hs.rng _ _ h2
   subst h1
   simp at h3
   omega
  ·simp only [hy, if_true, if_neg hx, Option.some.injEq] at h1 h2
   have := hs.rng _ _ h1
   subst h2
   simp at h3
   omega
  ·simp only [if_neg hx, if_neg hy] at h1 h2
   simp only [VH.push, if_neg hx, if_neg hy] at h4 h5
   exact hs.inj b1 b2 m1 m2 h1 h2 h3 h4 h5
 ·intro b m hb
  by_cases hx : b = h.next
  ·simp [VH.push, hx]
  ·simp only [if_neg hx] at hb
   have := hs.dom _ _ hb
   simp only [VH.push]
   omega
 ·intro b m hb
  by_cases hx : b = h.next
  ·simp only [hx, if_true, Option.some.injEq] at hb
   subst hb
   simp
   omega
  ·simp only [if_neg hx] at hb
   have := hs.rng _ _ hb
   simp
   omega
 ·intro g hg
  obtain ⟨m, h1, h2⟩ := hs.glob g hg
  exact ⟨m, hle _ _ h1, h2⟩
 ·intro k c hk
  obtain ⟨ty0, fr0, h1⟩ := hs.fz k c hk
  exact ⟨ty0, fr0, by rw [old _ (Array.getElem?_eq_some_iff.1 h1).1]; exact h1⟩
 ·intro b m hb hl
  by_cases hx : b = h.next
  ·simp only [hx, if_true, Option.some.injEq] at hb
   subst hb
   cases e : μ.z w.heap.size with
   | none => rfl
   | some c =>
    obtain ⟨ty0, fr0, h1⟩ := hs.fz _ c e
    exact absurd (Array.getElem?_eq_some_iff.1 h1).1 (Nat.lt_irrefl _)
  ·simp only [if_neg hx] at hb
   simp only [VH.push, if_neg hx] at hl
   exact hs.fzd b m hb hl
 ·intro b m hb hn
  by_cases hx : b = h.next
  ·simp only [hx, if_true, Option.some.injEq] at hb
   subst hb
   exact ⟨by omega, .inl (Nat.le_refl _)⟩
  ·simp only [if_neg hx] at hb
   rw [hb] at hn
   cases hn
theorem Step.grow (hs : Sim C μ h w) {b : Nat} {m : MB} (hb : μ b = some m) {B : Blk} (hB : h.blk b = some B) (hbase : C.base ≤ b) {cs : List Value} {cur : Array Value}
  (hsz : cur.size = m.c) (hv : VRL μ cs (cur.toList.take cs.length)) (ho : ∀ v ∈ cs, v.oneCell' = true) :
  ∃ μ', μ' h.next = some m ∧ Step C μ h w μ' ((h.set b none).push ⟨B.ty, B.sz, cs⟩) (w.setRow m.k cur) := by
 obtain ⟨cur0, hc, hsz0, hBs, _, _⟩ := hs.blk b m B hb hB
 have hbn : b < h.next := hs.dom _ _ hb
 have hle : μ.le ⟨fun x => if x = h.next then some m else μ x, μ.z⟩ := ⟨fun x mx hx => by
  have := hs.dom _ _ hx
  show (if x = h.next then _ else _) = _
  rw [if_neg (by omega)]
  exact hx, fun _ _ x => x⟩
 have live : ∀ x, x ≠ h.next → ((h.set b none).push ⟨B.ty, B.sz, cs⟩).blk x ≠ none → h.blk x ≠ none ∧ x ≠ b := by
  intro x hx1 hx
  by_cases hxb : x = b
  ·subst hxb; simp [VH.push, VH.set, hx1] at hx
  ·exact ⟨by simpa [VH.push, VH.set, hx1, hxb] using hx, hxb⟩
 have other : ∀ x mx, μ x = some mx → x ≠ b → h.blk x ≠ none → mx.k ≠ m.k := fun x mx hx hne hl e => hne (hs.inj x b mx m hx hb e hl (by rw [hB]; simp))
 refine ⟨⟨fun x => if x = h.next then some m else μ x, μ.z⟩, by simp, hle, ⟨?_, ?_, ?_, ?_, ?_, ?_, ?_⟩, rfl, rfl, rfl, by simp, Nat.le_succ _, fun k _ hn => setRow_other w _ _ _ (fun e => hn b m hb (by rw [hB]; simp) e.symm), ?_, fun x hx hx2 => (by
  have h1 : x ≠ h.next := by omega
  have h2 : x ≠ b := by omega
  simp [VH.push, VH.set, h1, h2]), ?_, fun x hx hn => (by
  have : x ≠ h.next := by omega
  by_cases hxb : x = b
  ·subst hxb; simp [VH.push, VH.set, this]
  ·simpa [VH.push, VH.set, this, hxb] using hn), hs.dom, fun x y z _ => ⟨_, if_pos (by simp only [VH.push, VH.set] at z; omega)⟩, fun _ _ x => .inl x⟩
 ·intro b' m' B' hb' hB'
  by_cases hx : b' = h.next
  ·simp only [hx, if_true, Option.some.injEq] at hb'
   simp only [VH.push, VH.set, hx, if_true, Option.some.injEq] at hB'
   subst hb'
   subst hB'
   exact ⟨cur, setRow_heap w _ _ _ _ _ hc, hsz, hBs, hv.mono hle, ho⟩
  ·simp only [if_neg hx] at hb'
   have hl := live b' hx (by rw [hB']; simp)
   have hB2 : h.blk b' = some B' := by simpa [VH.push, VH.set, hx, hl.2] using hB'
   obtain ⟨c1, h1, h2, h3, h4, h5⟩ := hs.blk b' m' B' hb' hB2
   exact ⟨c1, by rw [setRow_other w _ _ _ (other _ _ hb' hl.2 hl.1)]; exact h1, h2, h3, h4.mono hle, h5⟩
 ·intro b1 b2 m1 m2 h1 h2 h3 h4 h5
  by_cases hx : b1 = h.next <;> by_cases hy : b2 = h.next
  ·omega
  ·simp only [hx, if_true, if_neg hy, Option.some.injEq] at h1 h2
   subst h1
   have hl := live b2 hy h5
   exact absurd h3.symm (other _ _ h2 hl.2 hl.1)
  ·simp only [hy, if_true, if_neg hx, Option.some.injEq] at h1 h2
   subst h2
   have hl := live b1 hx h4
   exact absurd h3 (other _ _ h1 hl.2 hl.1)
  ·simp only [if_neg hx, if_neg hy] at h1 h2
   exact hs.inj b1 b2 m1 m2 h1 h2 h3 (live b1 hx h4).1 (live b2 hy h5).1
 ·intro x mx hx
  by_cases hxn : x = h.next
  ·simp [VH.push, VH.set, hxn]
  ·simp only [if_neg hxn] at hx
   have := hs.dom _ _ hx
   simp only [VH.push, VH.set]
   omega
 ·intro x mx hx
  by_cases hxn : x = h.next
  ·simp only [hxn, if_true, Option.some.injEq] at hx
   subst hx
   simpa using hs.rng _ _ hb
  ·simp only [if_neg hxn] at hx
   simpa using hs.rng _ _ hx
 ·intro g hg
  obtain ⟨mg, h1, h2⟩ := hs.glob g hg
  exact ⟨mg, hle _ _ h1, h2⟩
 ·intro k c hk
  rw [setRow_other w _ _ _ (fun e => by have := hs.fzd b m hb (by rw [hB]; simp); rw [← e, hk] at this; cases this)]
  exact hs.fz k c hk
 ·intro x mx hx hl
  by_cases hxn : x = h.next
  ·simp only [hxn, if_true, Option.some.injEq] at hx
   subst hx
   exact hs.fzd b _ hb (by rw [hB]; simp)
  ·simp only [if_neg hxn] at hx
   exact hs.fzd x mx hx (live x hxn hl).1
 ·intro x mx hx hm hl
  refine setRow_other w _ _ _ (other _ _ hm (by omega) hl)
 ·intro x mx hx hn
  by_cases hxn : x = h.next
  ·simp only [hxn, if_true, Option.some.injEq] at hx
   subst hx
   exact ⟨by omega, .inr ⟨_, _, hb, by rw [hB]; simp, rfl⟩⟩
  ·simp only [if_neg hxn] at hx
   rw [hx] at hn
   cases hn
end Go.QM
end

section
namespace Go.QM
variable {P : Program} {C : Cfg} {μ : Mu} {h : VH} {w : World}
theorem TOk.run_info {t : TypeId} {i : TI} (hT : TOk P t i) (w : World) : ∃ f, (typeInfo t).run P w = .ok f w ∧ P.info? t = some f ∧ f.size = i.size ∧ f.bytes = i.bytes ∧ f.zero = some i.zero := by
 obtain ⟨f, h1, h2⟩ := hT.info
 exact ⟨f, by simp [typeInfo, h1], h1, h2⟩
theorem TOk.run_size {t : TypeId} {i : TI} (hT : TOk P t i) (w : World) : (sizeOf t).run P w = .ok i.size w := by
 obtain ⟨f, h1, _, h2, _⟩ := hT.run_info w
 simp [sizeOf, h1, h2]
theorem TOk.run_zero {t : TypeId} {i : TI} (hT : TOk P t i) (w : World) : (zeroValue t).run P w = .ok i.zero w := by
 obtain ⟨f, h1, _, _, _, h2⟩ := hT.run_info w
 simp [zeroValue, h1, h2]
theorem TOk.run_agg {t : TypeId} {i : TI} (hT : TOk P t i) (w : World) : (isAgg t).run P w = .ok i.k.isAgg w := by
 obtain ⟨d, h1, h2⟩ := hT.desc
 obtain ⟨k, s, b, z⟩ := i
 unfold isAgg
 simp only [Sem.run_bind, run_underlying h1, Result.andThen_ok]
 cases k <;> simp only [DescOk] at h2
 case struct fs => obtain ⟨f, rfl, _⟩ := h2; rfl
 case other => cases d <;> first | exact h2.elim | rfl
 all_goals subst h2; rfl
theorem TOk.slice {t : TypeId} {e : TypeId} {s b : Nat} {z : Value} (hT : TOk P t ⟨.slice e, s, b, z⟩) : P.underlying t = some (.slice e) := by
 obtain ⟨d, h1, h2⟩ := hT.desc
 simp only [DescOk] at h2
 rw [h1, h2]
theorem cell_fz (hs : Sim C μ h w) {k : Nat} {cur : Array Value} (hf : μ.z k = some cur) (off : Nat) : w.cell? ⟨k, off, none⟩ = cur[off]? := by
 obtain ⟨ty, fr, h1⟩ := hs.fz k cur hf
 simp [World.cell?, h1]
theorem rdF_sim (hs : Sim C μ h w) {k : Nat} {cur cs : Array Value} (hf : μ.z k = some cur) {base : Nat} (hz : base + cs.size ≤ cur.size)
  (h1 : ∀ (i : Nat) (v cv : Value), cs[i]? = some v → cur[base + i]? = some cv → VR μ v cv) (off n : Nat) (hn : off + n ≤ cs.size) :
  ∃ cl, VRL μ ((cs.toList.drop off).take n) cl ∧ ((cs.toList.drop off).take n).length = n ∧ ∀ j v, cl[j]? = some v → w.cell? ((⟨k, base + off, none⟩ : Addr).add j) = some v := by
 refine ⟨(cur.toList.drop (base + off)).take n, ⟨by simp; omega, fun i v cv x y => ?_⟩, by simp; omega, fun j v hj => ?_⟩
 ·rw [List.getElem?_take] at x y
  split at x
  ·rename_i hi
   rw [if_pos hi, List.getElem?_drop] at y
   rw [List.getElem?_drop] at x
   refine h1 (off + i) v cv (by simpa using x) ?_
   rw [← Nat.add_assoc]
   simpa using y
  ·cases x
 ·rw [add_at, cell_fz hs hf]
  rw [List.getElem?_take] at hj
  split at hj
  ·rw [List.getElem?_drop] at hj
   simpa using hj
  ·cases hj
theorem rdF1_sim (hs : Sim C μ h w) {k : Nat} {cur cs : Array Value} (hf : μ.z k = some cur) {base : Nat} (hz : base + cs.size ≤ cur.size)
  (h1 : ∀ (i : Nat) (v cv : Value), cs[i]? = some v → cur[base + i]? = some cv → VR μ v cv) {off : Nat} {v : Value} (hv : cs[off]? = some v) : ∃ cv, VR μ v cv ∧ w.cell? ⟨k, base + off, none⟩ = some cv := by
 have hlt : off < cs.size := (Array.getElem?_eq_some_iff.1 hv).1
 have hlt2 : base + off < cur.size := by omega
 exact ⟨cur[base + off], h1 off v _ hv (by simp [hlt2]), by rw [cell_fz hs hf]; simp [hlt2]⟩
def loadV (C : Cfg) (t : TypeId) (x : Value) (h : VH) : Option Value :=
 match x, C.T t with
 | .pointer (some ⟨b, off, none⟩), some i => if i.k.isAgg then (rdN h b off i.size).map fun l => .agg l.toArray else rd1 h b off
 | .func (.methodOf off _) _ cs, some i => if i.k.isAgg then (if off + i.size ≤ cs.size then some (.agg ((cs.toList.drop off).take i.size).toArray) else none) else cs[off]?
 | _, _ => none
theorem loadV_sim (hC : C.Ok P) (hs : Sim C μ h w) {t : TypeId} {x cx v : Value} (hx : VR μ x cx) (hv : loadV C t x h = some v) :
  ∃ cv, (Instr.loadAt t cx).run P w = .ok cv w ∧ VR μ v cv := by
 unfold loadV at hv
 split at hv
 ·rename_i b off i hi
  have hT := hC _ _ hi
  cases hx with
  | ptr hb =>
   rename_i m
   simp only [Instr.loadAt, Instr.sureAddr, Sem.run_bind, Sem.run_pure, Result.andThen_ok, loadVar, hT.run_agg]
   split at hv
   ·rename_i ha
    rw [Option.map_eq_some_iff] at hv
    obtain ⟨l, hl, rfl⟩ := hv
    obtain ⟨cl, h1, h2, h3, h4⟩ := rdN_sim hs hb hl
    have := run_loadCells_list (P := P) w ⟨m.k, off, none⟩ cl h3
    rw [← h1.1, h2] at this
    simp only [ha, if_true, Sem.run_bind, hT.run_size, Result.andThen_ok, this, Sem.run_pure]
    exact ⟨_, rfl, .agg_of (by simpa using h1) (by simpa using h4)⟩
   ·rename_i ha
    obtain ⟨cv, h1, h2, h3⟩ := rd1_sim hs hb hv
    simp only [ha, Bool.false_eq_true, if_false, run_load, h2]
    exact ⟨_, rfl, h1⟩
 ·rename_i off nm fst cs i hi
  have hT := hC _ _ hi
  cases hx with
  | frP hf hz ho h1 =>
   rename_i k base cur
   simp only [Instr.loadAt, Instr.sureAddr, Sem.run_bind, Sem.run_pure, Result.andThen_ok, loadVar, hT.run_agg]
   split at hv
   ·rename_i ha
    split at hv
    ·rename_i hle
     injection hv with hv
     subst hv
     obtain ⟨cl, h2, h3, h4⟩ := rdF_sim hs hf hz h1 off i.size hle
     have := run_loadCells_list (P := P) w ⟨k, base + off, none⟩ cl h4
     rw [← h2.1, h3] at this
     simp only [ha, if_true, Sem.run_bind, hT.run_size, Result.andThen_ok, this, Sem.run_pure]
     exact ⟨_, rfl, .agg_of (by simpa using h2) (fun v hv => ho v (List.mem_of_mem_drop (List.mem_of_mem_take (by simpa using hv))))⟩
    ·cases hv
   ·rename_i ha
    obtain ⟨cv, h2, h3⟩ := rdF1_sim hs hf hz h1 hv
    simp only [ha, Bool.false_eq_true, if_false, run_load, h3]
    exact ⟨_, rfl, h2⟩
 ·cases hv
def storeV (C : Cfg) (t : TypeId) (x y : Value) (h : VH) : Option VH :=
 match x, C.T t, cellsV y with
 | .pointer (some ⟨b, off, none⟩), some i, some l => if l.length = i.size then wrN C.base h b off l else none
 | _, _, _ => none
theorem storeV_sim (hC : C.Ok P) (hs : Sim C μ h w) {t : TypeId} {x cx y cy : Value} (hx : VR μ x cx) (hy : VR μ y cy) {h' : VH} (hv : storeV C t x y h = some h') :
  ∃ w', (Instr.storeAt t cx cy).run P w = .ok () w' ∧ Step C μ h w μ h' w' := by
 unfold storeV at hv
 split at hv
 ·rename_i b off i l hi hl
  have hT := hC _ _ hi
  cases hx with
  | ptr hb =>
   split at hv
   ·rename_i hsz
    obtain ⟨h1, h2⟩ := cellsV_sim hy hl
    obtain ⟨w', h3, h4⟩ := wrN_sim (P := P) hs hb hv h1 h2
    refine ⟨w', ?_, h4⟩
    have hne : ¬ (cy.cells.size ≠ i.size) := by
     have := h1.1
     simp only [Array.length_toList] at this
     omega
    simp only [Instr.storeAt, Instr.sureAddr, Sem.run_bind, Sem.run_pure, Result.andThen_ok, storeVar, hT.run_size, Sem.run_ite, if_neg hne, h3]
   ·cases hv
 ·cases hv
def idxV (C : Cfg) (t : TypeId) (x ix : Value) : Option Value :=
 match x, ix, C.T t with
 | .slice (some ⟨b, off, none⟩) len _, .int _ n, some ⟨.slice e, _, _, _⟩ => (C.T e).bind fun i => if 0 ≤ n ∧ n < len then some (.pointer (some ⟨b, off + n.toNat * i.size, none⟩)) else none
 | .pointer (some ⟨b, off, none⟩), .int _ n, some ⟨.array len e, _, _, _⟩ => (C.T e).bind fun i => if 0 ≤ n ∧ n < len then some (.pointer (some ⟨b, off + n.toNat * i.size, none⟩)) else none
 | .func (.yield len) _ cs, .int _ n, some ⟨.slice e, _, _, _⟩ => (C.T e).bind fun i => if 0 ≤ n ∧ n < len ∧ cs.size = len * i.size then some (fP (n.toNat * i.size) cs) else none
 | .func (.methodOf off _) _ cs, .int _ n, some ⟨.array len e, _, _, _⟩ => (C.T e).bind fun i => if 0 ≤ n ∧ n < len then some (fP (off + n.toNat * i.size) cs) else none
 | _, _, _ => none
theorem idxV_sim (hC : C.Ok P) {t : TypeId} {x cx y cy v : Value} (hx : VR μ x cx) (hy : VR μ y cy) (hv : idxV C t x y = some v) :
  ∃ cv, (Instr.indexAt t cx cy).run P w = .ok cv w ∧ VR μ v cv := by
 unfold idxV at hv
 split at hv
 ·rename_i b off len cap k n e s by_ z hi
  have hT := hC _ _ hi
  cases hy
  cases hx with
  | slE hb hs =>
   cases he : C.T e with
   | none => simp [he] at hv
   | some i =>
    simp only [he, Option.bind_some] at hv
    split at hv
    ·omega
    ·cases hv
  | sl hb hl hc hs =>
   cases he : C.T e with
   | none => simp [he] at hv
   | some i =>
    simp only [he, Option.bind_some] at hv
    split at hv
    ·rename_i hn
     injection hv with hv
     subst hv
     refine ⟨_, ?_, .ptr hb⟩
     simp [Instr.indexAt, asIntOf, run_underlying hT.slice, hn, (hC _ _ he).run_size, add_at]
    ·cases hv
 ·rename_i b off k n len e s by_ z hi
  have hT := hC _ _ hi
  obtain ⟨d, hd, hd2⟩ := hT.desc
  simp only [DescOk] at hd2
  subst hd2
  cases hy
  cases hx with
  | ptr hb =>
   cases he : C.T e with
   | none => simp [he] at hv
   | some i =>
    simp only [he, Option.bind_some] at hv
    split at hv
    ·rename_i hn
     injection hv with hv
     subst hv
     refine ⟨_, ?_, .ptr hb⟩
     simp [Instr.indexAt, asIntOf, run_underlying hd, hn, Instr.sureAddr, (hC _ _ he).run_size, add_at]
    ·cases hv
 ·rename_i len nm fst cs k n e s by_ z hi
  have hT := hC _ _ hi
  cases hy
  cases he : C.T e with
  | none => simp [he] at hv
  | some i =>
   simp only [he, Option.bind_some] at hv
   split at hv
   ·rename_i hn
    obtain ⟨n1, n2, n3⟩ := hn
    injection hv with hv
    subst hv
    cases hx with
    | frN => omega
    | frE => omega
    | frS hf hl hz ho h1 =>
     rename_i k off cap cur
     refine ⟨_, ?_, .frP (base := off) hf hz ho h1⟩
     simp [Instr.indexAt, asIntOf, run_underlying hT.slice, n1, n2, (hC _ _ he).run_size, add_at]
   ·cases hv
 ·rename_i off nm fst cs k n len e s by_ z hi
  have hT := hC _ _ hi
  obtain ⟨d, hd, hd2⟩ := hT.desc
  simp only [DescOk] at hd2
  subst hd2
  cases hy
  cases hx with
  | frP hf hz ho h1 =>
   cases he : C.T e with
   | none => simp [he] at hv
   | some i =>
    simp only [he, Option.bind_some] at hv
    split at hv
    ·rename_i hn
     injection hv with hv
     subst hv
     refine ⟨_, ?_, .frP hf hz ho h1⟩
     simp [Instr.indexAt, asIntOf, run_underlying hd, hn, Instr.sureAddr, (hC _ _ he).run_size, add_at, Nat.add_assoc]
    ·cases hv
 ·cases hv
def fldAV (C : Cfg) (s : TypeId) (x : Value) (f : Nat) : Option Value :=
 match x, C.T s with
 | .pointer (some ⟨b, off, none⟩), some ⟨.struct fs, _, _, _⟩ => fs[f]?.bind fun (o, t) => (C.T t).bind fun i => if i.size ≠ 0 then some (.pointer (some ⟨b, off + o, none⟩)) else none
 | .func (.methodOf off _) _ cs, some ⟨.struct fs, _, _, _⟩ => fs[f]?.bind fun (o, t) => (C.T t).bind fun i => if i.size ≠ 0 then some (fP (off + o) cs) else none
 | _, _ => none
theorem struct_field {t : TypeId} {fs : List (Nat × TypeId)} {s b : Nat} {z : Value} (hT : TOk P t ⟨.struct fs, s, b, z⟩) :
  ∃ f, P.underlying t = some (.struct f) ∧ ∀ (j o : Nat) (u : TypeId), fs[j]? = some (o, u) → ∃ x : Field, f[j]? = some x ∧ x.offset = o ∧ x.type = u := by
 obtain ⟨d, hd, hd2⟩ := hT.desc
 simp only [DescOk] at hd2
 obtain ⟨f, rfl, hf⟩ := hd2
 refine ⟨f, hd, fun j o u hj => ?_⟩
 rw [← hf, List.getElem?_map, Option.map_eq_some_iff] at hj
 obtain ⟨x, hx, hxe⟩ := hj
 injection hxe with h1 h2
 exact ⟨x, by simpa using hx, h1, h2⟩
theorem fldAV_sim (hC : C.Ok P) {s : TypeId} {x cx v : Value} {f : Nat} (hx : VR μ x cx) (hv : fldAV C s x f = some v) :
  ∃ cv, (Instr.fieldAt s cx f).run P w = .ok cv w ∧ VR μ v cv := by
 unfold fldAV at hv
 split at hv
 ·rename_i b off fs s1 b1 z hi
  have hT := hC _ _ hi
  obtain ⟨F, hF, hf⟩ := struct_field hT
  cases hx with
  | ptr hb =>
   rw [Option.bind_eq_some_iff] at hv
   obtain ⟨⟨o, t⟩, ho, hv⟩ := hv
   simp only at hv
   rw [Option.bind_eq_some_iff] at hv
   obtain ⟨i, he, hv⟩ := hv
   split at hv
   ·rename_i hn
    injection hv with hv
    subst hv
    obtain ⟨X, h1, rfl, rfl⟩ := hf _ _ _ ho
    refine ⟨_, ?_, .ptr hb⟩
    simp [Instr.fieldAt, run_underlying hF, h1, Instr.sureAddr, fieldPlace, (hC _ _ he).run_size, hn, add_at]
   ·cases hv
 ·rename_i off nm fst cs fs s1 b1 z hi
  have hT := hC _ _ hi
  obtain ⟨F, hF, hf⟩ := struct_field hT
  cases hx with
  | frP hfz hz ho h1 =>
   rw [Option.bind_eq_some_iff] at hv
   obtain ⟨⟨o, t⟩, hfo, hv⟩ := hv
   simp only at hv
   rw [Option.bind_eq_some_iff] at hv
   obtain ⟨i, he, hv⟩ := hv
   split at hv
   ·rename_i hn
    injection hv with hv
    subst hv
    obtain ⟨X, h2, rfl, rfl⟩ := hf _ _ _ hfo
    refine ⟨_, ?_, .frP hfz hz ho h1⟩
    simp [Instr.fieldAt, run_underlying hF, h2, Instr.sureAddr, fieldPlace, (hC _ _ he).run_size, hn, add_at, Nat.add_assoc]
   ·cases hv
 ·cases hv
def partV (C : Cfg) (t : TypeId) (cs : List Value) (o : Nat) : Option Value :=
 (C.T t).bind fun i => if i.k.isAgg then (if o + i.size ≤ cs.length then some (.agg ((cs.drop o).take i.size).toArray) else none) else cs[o]?
theorem partV_sim (hC : C.Ok P) {t : TypeId} {cs : List Value} {ccs : Array Value} {o : Nat} {v : Value} (hx : VRL μ cs ccs.toList) (ho : ∀ v ∈ cs, v.oneCell' = true) (hv : partV C t cs o = some v) :
  ∃ cv, (part t ccs o).run P w = .ok cv w ∧ VR μ v cv := by
 unfold partV at hv
 rw [Option.bind_eq_some_iff] at hv
 obtain ⟨i, hi, hv⟩ := hv
 have hT := hC _ _ hi
 split at hv
 ·rename_i ha
  split at hv
  ·rename_i hle
   injection hv with hv
   subst hv
   simp only [part, Sem.run_bind, hT.run_agg, Result.andThen_ok, ha, if_true, hT.run_size, Sem.run_pure]
   refine ⟨_, rfl, .agg_of ?_ (fun v hv => ho v ?_)⟩
   ·have h2 := (hx.drop o).take i.size
    simp only [Array.toList_extract, List.extract_eq_take_drop, Nat.add_sub_cancel_left]
    exact h2
   ·exact List.mem_of_mem_drop (List.mem_of_mem_take (by simpa using hv))
  ·cases hv
 ·rename_i ha
  obtain ⟨cv, h1, h2⟩ := hx.get hv
  have h3 : ccs[o]? = some cv := by simpa using h1
  simp only [part, Sem.run_bind, hT.run_agg, Result.andThen_ok, ha, Bool.false_eq_true, if_false, h3, Sem.run_pure]
  exact ⟨_, rfl, h2⟩
def fldV (C : Cfg) (t : TypeId) (x : Value) (f : Nat) : Option Value :=
 match x, C.T t with
 | .agg cs, some ⟨.struct fs, _, _, _⟩ => fs[f]?.bind fun (o, u) => partV C u cs.toList o
 | _, _ => none
theorem fldV_sim (hC : C.Ok P) {t : TypeId} {x cx v : Value} {f : Nat} (hx : VR μ x cx) (hv : fldV C t x f = some v) :
  ∃ cv, (Instr.field t cx f).run P w = .ok cv w ∧ VR μ v cv := by
 unfold fldV at hv
 split at hv
 ·rename_i cs fs s1 b1 z hi
  have hT := hC _ _ hi
  obtain ⟨F, hF, hf⟩ := struct_field hT
  obtain ⟨ccs, rfl, h1, h2⟩ := hx.agg_inv
  rw [Option.bind_eq_some_iff] at hv
  obtain ⟨⟨o, u⟩, ho, hv⟩ := hv
  obtain ⟨X, h3, rfl, rfl⟩ := hf _ _ _ ho
  obtain ⟨cv, h4, h5⟩ := partV_sim (w := w) hC h1 h2 hv
  refine ⟨cv, ?_, h5⟩
  simp [Instr.field, run_underlying hF, h3, asAgg, h4]
 ·cases hv
def extV (x : Value) (j : Nat) : Option Value :=
 match x with
 | .tuple vs => vs[j]?
 | _ => none
theorem extV_sim {x cx v : Value} {j : Nat} (hx : VR μ x cx) (hv : extV x j = some v) : ∃ cv, (Instr.extract cx j).run P w = .ok cv w ∧ VR μ v cv := by
 unfold extV at hv
 split at hv
 ·cases hx with
  | junk => simp at hv
  | tuple ha h1 =>
   rename_i vs a'
   have hj : j < a'.size := by
    rw [← ha]
    exact (Array.getElem?_eq_some_iff.1 hv).1
   exact ⟨a'[j], by simp [Instr.extract, hj], h1 j v _ hv (by simp [hj])⟩
 ·cases hv
def sixV (C : Cfg) (t : TypeId) (x ix : Value) : Option Value :=
 match x, ix, C.T t with
 | .string s, .int _ n, some ⟨.string, _, _, _⟩ => if 0 ≤ n then (s[n.toNat]?).map fun b => .int .u8 b.toNat else none
 | _, _, _ => none
theorem sixV_sim (hC : C.Ok P) {t : TypeId} {x cx y cy v : Value} (hx : VR μ x cx) (hy : VR μ y cy) (hv : sixV C t x y = some v) :
  ∃ cv, (Instr.index t cx cy).run P w = .ok cv w ∧ VR μ v cv := by
 unfold sixV at hv
 split at hv
 ·rename_i s k n s1 b1 z hi
  obtain ⟨d, hd, hd2⟩ := (hC _ _ hi).desc
  simp only [DescOk] at hd2
  subst hd2
  cases hx
  cases hy
  split at hv
  ·rename_i hn
   rw [Option.map_eq_some_iff] at hv
   obtain ⟨b, hb, rfl⟩ := hv
   refine ⟨_, ?_, .int _ _⟩
   simp [Instr.index, asIntOf, run_underlying hd, hn, hb]
  ·cases hv
 ·cases hv
def binV (C : Cfg) (op : BinOp) (t : TypeId) (x y : Value) : Option Value :=
 match x, y with
 | .int k a, .int k' b =>
  match op with
  | .shl => if b < 0 then none else some (.int k (k.wrap (a * 2 ^ (min b.toNat k.bits))))
  | .shr => if b < 0 then none else some (.int k (a.fdiv (2 ^ (min b.toNat k.bits))))
  | .add => if k = k' then some (.int k (k.wrap (a + b))) else none
  | .sub => if k = k' then some (.int k (k.wrap (a - b))) else none
  | .mul => if k = k' then some (.int k (k.wrap (a * b))) else none
  | .quo => if k = k' ∧ b ≠ 0 then some (.int k (k.wrap (a.tdiv b))) else none
  | .rem => if k = k' ∧ b ≠ 0 then some (.int k (a.tmod b)) else none
  | .and => if k = k' then some (.int k (k.wrap (BitVec.ofInt k.bits a &&& BitVec.ofInt k.bits b).toNat)) else none
  | .or => if k = k' then some (.int k (k.wrap (BitVec.ofInt k.bits a ||| BitVec.ofInt k.bits b).toNat)) else none
  | .xor => if k = k' then some (.int k (k.wrap (BitVec.ofInt k.bits a ^^^ BitVec.ofInt k.bits b).toNat)) else none
  | .andNot => if k = k' then some (.int k (k.wrap (BitVec.ofInt k.bits a &&& ~~~ BitVec.ofInt k.bits b).toNat)) else none
  | .eql => if k = k' then some (.bool (a == b)) else none
  | .neq => if k = k' then some (.bool (a != b)) else none
  | .lss => if k = k' then some (.bool (decide (a < b))) else none
  | .leq => if k = k' then some (.bool (decide (a ≤ b))) else none
  | .gtr => if k = k' then some (.bool (decide (a > b))) else none
  | .geq => if k = k' then some (.bool (decide (a ≥ b))) else none
 | .bool a, .bool b =>
  match C.T t, op with
  | some ⟨.bool, _, _, _⟩, .eql => some (.bool (a == b))
  | some ⟨.bool, _, _, _⟩, .neq => some (.bool (a != b))
  | _, _ => none
 | .slice a _ _, .slice none 0 0 =>
  match C.T t, op with
  | some ⟨.slice _, _, _, _⟩, .eql => some (.bool a.isNone)
  | some ⟨.slice _, _, _, _⟩, .neq => some (.bool (!a.isNone))
  | _, _ => none
 | _, _ => none
theorem run_equal_bool {t : TypeId} (hd : P.underlying t = some .bool) (a b : Bool) (w : World) : (Op.equal t (.bool a) (.bool b)).run P w = .ok (a == b) w := by
 have key : ∀ d, (Op.equalIn (d + 1) t (.bool a) (.bool b)).run P w = .ok (a == b) w := fun d => by simp [Op.equalIn, run_underlying hd]
 exact key 9999
theorem run_equal_slnil {t e : TypeId} (hd : P.underlying t = some (.slice e)) (a : Option Addr) (l c : Nat) (w : World) : (Op.equal t (.slice a l c) (.slice none 0 0)).run P w = .ok a.isNone w := by
 have key : ∀ d, (Op.equalIn (d + 1) t (.slice a l c) (.slice none 0 0)).run P w = .ok a.isNone w := fun d => by cases a <;> simp [Op.equalIn, run_underlying hd]
 exact key 9999
theorem binV_sim (hC : C.Ok P) {op : BinOp} {t : TypeId} {x cx y cy v : Value} (X Y : Operand) (hx : VR μ x cx) (hy : VR μ y cy) (hv : binV C op t x y = some v) :
  ∃ cv, (do eqGuard op t X Y cx cy; binOp op t cx cy : Sem Value).run P w = .ok cv w ∧ VR μ v cv := by
 unfold binV at hv
 split at hv
 ·rename_i k a k' b
  cases hx
  cases hy
  have hg : (eqGuard op t X Y (.int k a) (.int k' b)).run P w = .ok () w := by unfold eqGuard; split <;> rfl
  rw [Sem.run_bind, hg, Result.andThen_ok]
  cases op <;> simp only at hv <;> split at hv <;> (try cases hv) <;> rename_i hk
  all_goals first
   | (refine ⟨_, ?_, .bool _⟩; subst hk; simp [binOp, Op.intCmp]; done)
   | (refine ⟨_, ?_, .int _ _⟩; subst hk; simp [binOp, Op.intArith, Op.intBits]; done)
   | (refine ⟨_, ?_, .int _ _⟩; obtain ⟨rfl, hb⟩ := hk; simp [binOp, Op.intDiv, hb]; done)
   | (refine ⟨_, ?_, .int _ _⟩; simp [binOp, Op.shift, hk]; done)
   | (refine ⟨_, ?_, .bool _⟩; subst hk; rfl)
 ·rename_i a b
  cases hx
  cases hy
  have hg : (eqGuard op t X Y (.bool a) (.bool b)).run P w = .ok () w := by unfold eqGuard; split <;> rfl
  rw [Sem.run_bind, hg, Result.andThen_ok]
  split at hv
  ·rename_i s1 b1 z hi
   obtain ⟨d, hd, hd2⟩ := (hC _ _ hi).desc
   simp only [DescOk] at hd2
   subst hd2
   cases hv
   refine ⟨_, ?_, .bool _⟩; first | (simp only [binOp, Sem.run_bind, run_equal_bool hd, Result.andThen_ok, Sem.run_pure]; done) | (simp only [binOp, Sem.run_bind, run_equal_bool hd, Result.andThen_ok, Sem.run_pure]; rfl)
  ·rename_i s1 b1 z hi
   obtain ⟨d, hd, hd2⟩ := (hC _ _ hi).desc
   simp only [DescOk] at hd2
   subst hd2
   cases hv
   refine ⟨_, ?_, .bool _⟩; first | (simp only [binOp, Sem.run_bind, run_equal_bool hd, Result.andThen_ok, Sem.run_pure]; done) | (simp only [binOp, Sem.run_bind, run_equal_bool hd, Result.andThen_ok, Sem.run_pure]; rfl)
  ·cases hv
 ·rename_i a l c
  cases hy
  have hx' : ∃ a' c', cx = .slice a' l c' ∧ a'.isNone = a.isNone := by
   cases hx with
   | slNil => exact ⟨_, _, rfl, rfl⟩
   | sl hb hl hc hs => exact ⟨_, _, rfl, rfl⟩
   | slE hb hs => exact ⟨_, _, rfl, rfl⟩
  obtain ⟨a', c', rfl, ha⟩ := hx'
  have hg : (eqGuard op t X Y (.slice a' l c') (.slice none 0 0)).run P w = .ok () w := by unfold eqGuard; split <;> rfl
  rw [Sem.run_bind, hg, Result.andThen_ok]
  split at hv
  ·rename_i e s1 b1 z hi
   have hd := (hC _ _ hi).slice
   cases hv
   refine ⟨_, ?_, .bool _⟩; first | (simp only [binOp, Sem.run_bind, run_equal_slnil hd, Result.andThen_ok, Sem.run_pure, ha]; done) | (simp only [binOp, Sem.run_bind, run_equal_slnil hd, Result.andThen_ok, Sem.run_pure, ha]; rfl)
  ·rename_i e s1 b1 z hi
   have hd := (hC _ _ hi).slice
   cases hv
   refine ⟨_, ?_, .bool _⟩; first | (simp only [binOp, Sem.run_bind, run_equal_slnil hd, Result.andThen_ok, Sem.run_pure, ha]; done) | (simp only [binOp, Sem.run_bind, run_equal_slnil hd, Result.andThen_ok, Sem.run_pure, ha]; rfl)
  ·cases hv
 ·cases hv
def unV (op : UnOp) (x : Value) : Option Value :=
 match op, x with
 | .neg, .int k n => some (.int k (k.wrap (0 - n)))
 | .not, .bool b => some (.bool !b)
 | .xor, .int k n => some (.int k (k.wrap (BitVec.ofInt k.bits (if k.signed then -1 else k.max) ^^^ BitVec.ofInt k.bits n).toNat))
 | _, _ => none
theorem unV_sim {op : UnOp} {x cx v : Value} (hx : VR μ x cx) (hv : unV op x = some v) : ∃ cv, (Op.unary op cx).run P w = .ok cv w ∧ VR μ v cv := by
 unfold unV at hv
 split at hv <;> (try cases hv) <;> cases hx
 ·exact ⟨_, rfl, .int _ _⟩
 ·exact ⟨_, rfl, .bool _⟩
 ·exact ⟨_, rfl, .int _ _⟩
def cvtV (C : Cfg) (src dst : TypeId) (x : Value) : Option Value :=
 match x, C.T src, C.T dst with
 | .int _ n, some _, some ⟨.int k, _, _, _⟩ => some (.int k (k.wrap n))
 | _, _, _ => none
theorem cvtV_sim (hC : C.Ok P) {src dst : TypeId} {x cx v : Value} (hx : VR μ x cx) (hv : cvtV C src dst x = some v) : ∃ cv, (convert src dst cx).run P w = .ok cv w ∧ VR μ v cv := by
 unfold cvtV at hv
 split at hv
 ·rename_i k0 n i k s1 b1 z hi hk
  cases hv
  cases hx
  obtain ⟨d, hd, hd2⟩ := (hC _ _ hk).desc
  simp only [DescOk] at hd2
  subst hd2
  obtain ⟨d2, hd3, _⟩ := (hC _ _ hi).desc
  refine ⟨_, ?_, .int _ _⟩; first | (simp [convert, run_underlying hd3, run_underlying hd, Conv.intToInt]; done) | (simp [convert, run_underlying hd3, run_underlying hd, Conv.intToInt]; rfl)
 ·cases hv
end Go.QM
end

section
namespace Go.QM
variable {P : Program} {C : Cfg} {μ : Mu} {h : VH} {w : World}
theorem VRL.refl_plain {l : List Value} (hp : ∀ v ∈ l, plainV v = true) : VRL μ l l :=
 ⟨rfl, fun i v cv a b => by rw [a] at b; cases b; exact (VR.plain (hp v (List.mem_of_getElem? a))).1⟩
theorem TOk.zero_cells {t : TypeId} {i : TI} (hT : TOk P t i) : VRL μ i.zero.cells.toList i.zero.cells.toList ∧ ∀ v ∈ i.zero.cells.toList, v.oneCell' = true :=
 ⟨VRL.refl_plain hT.zok, fun v hv => (VR.plain (μ := ⟨fun _ => none, fun _ => none⟩) (hT.zok v hv)).2⟩
def newAt (h : VH) : Value := .pointer (some ⟨h.next, 0, none⟩)
def allocV (C : Cfg) (t : TypeId) (h : VH) : Option (Value × VH) := (C.T t).map fun i => (newAt h, h.push ⟨t, 0, i.zero.cells.toList⟩)
theorem allocV_sim (hC : C.Ok P) (hs : Sim C μ h w) {t : TypeId} {v : Value} {h' : VH} (hv : allocV C t h = some (v, h')) :
  ∃ cv w' μ', (Instr.alloc t true (.tuple #[])).run P w = .ok cv w' ∧ VR μ' v cv ∧ Step C μ h w μ' h' w' := by
 unfold allocV at hv
 rw [Option.map_eq_some_iff] at hv
 obtain ⟨i, hi, hv⟩ := hv
 injection hv with h1 h2
 subst h1
 subst h2
 have hT := hC _ _ hi
 have hz := hT.zero_cells (μ := μ)
 obtain ⟨μ', hm, hst⟩ := Step.push hs (w1 := w) rfl rfl rfl rfl t 0 (cs := i.zero.cells.toList) (cur := i.zero.cells) (by rw [List.take_of_length_le (Nat.le_refl _)]; exact hz.1) hz.2
 refine ⟨_, _, μ', ?_, .ptr hm, hst⟩
 simp [Instr.alloc, hT.run_zero, newVar, newRow]
def boxV (t : TypeId) (x : Value) (h : VH) : Option (Value × VH) := (cellsV x).map fun l => (newAt h, h.push ⟨t, 0, l⟩)
theorem boxV_sim (hs : Sim C μ h w) {t : TypeId} {x cx v : Value} {h' : VH} (hx : VR μ x cx) (hv : boxV t x h = some (v, h')) :
  ∃ cv w' μ', (Instr.box t cx).run P w = .ok cv w' ∧ VR μ' v cv ∧ Step C μ h w μ' h' w' := by
 unfold boxV at hv
 rw [Option.map_eq_some_iff] at hv
 obtain ⟨l, hl, hv⟩ := hv
 injection hv with h1 h2
 subst h1
 subst h2
 obtain ⟨h3, h4⟩ := cellsV_sim hx hl
 obtain ⟨μ', hm, hst⟩ := Step.push hs (w1 := w) rfl rfl rfl rfl t 0 (cs := l) (cur := cx.cells) (by rw [List.take_of_length_le (by rw [h3.1]; exact Nat.le_refl _)]; exact h3) h4
 refine ⟨_, _, μ', ?_, .ptr hm, hst⟩
 simp [Instr.box, newVar, newRow]
def fillL (place : Nat → Option (Nat × Nat)) (cells : List Value) : List (Nat × Value) → Option (List Value)
 | [] => some cells
 | (i, v) :: rest =>
  match place i, cellsV v with
  | some (off, size), some l => if l.length = size ∧ off + size ≤ cells.length then fillL place (cells.take off ++ l ++ cells.drop (off + size)) rest else none
  | _, _ => none
theorem foldl_set (off : Nat) : ∀ (l : List Value) (k : Nat) (cs : Array Value), off + k + l.length ≤ cs.size →
  ((l.zipIdx k).foldl (fun cs (x : Value × Nat) => cs.setIfInBounds (off + x.2) x.1) cs).toList = cs.toList.take (off + k) ++ l ++ cs.toList.drop (off + k + l.length)
 | [], k, cs, _ => by simp
 | v :: l, k, cs, hl => by
  simp only [List.zipIdx_cons, List.foldl_cons]
  simp only [List.length_cons] at hl
  rw [foldl_set off l (k + 1) _ (by simp; omega)]
  have e := list_seg_step cs.toList (off + k) v l (by simp; omega)
  simpa [Array.toList_setIfInBounds, Nat.add_assoc] using e
theorem fillL_sim (place : Nat → Option (Nat × Nat)) : ∀ (ps : List (Nat × Value)) (cps : List (Nat × Value)) (cells : List Value) (ccells : Array Value) (l : List Value),
  ps.length = cps.length → (∀ (j : Nat) (p cp : Nat × Value), ps[j]? = some p → cps[j]? = some cp → p.1 = cp.1 ∧ VR μ p.2 cp.2) → VRL μ cells ccells.toList → (∀ v ∈ cells, v.oneCell' = true) → fillL place cells ps = some l →
  ∃ cl, Instr.fill place ccells cps = some cl ∧ VRL μ l cl.toList ∧ ∀ v ∈ l, v.oneCell' = true
 | [], [], cells, ccells, l, _, _, hc, ho, hl => by
  simp only [fillL, Option.some.injEq] at hl
  subst hl
  exact ⟨ccells, rfl, hc, ho⟩
 | (i, v) :: ps, (ci, cv) :: cps, cells, ccells, l, hlen, hp, hc, ho, hl => by
  obtain ⟨h0, h1⟩ := hp 0 (i, v) (ci, cv) rfl rfl
  simp only at h0 h1
  subst h0
  unfold fillL at hl
  split at hl
  ·rename_i off size l0 hpl hl0
   split at hl
   ·rename_i hsz
    obtain ⟨h2, h3⟩ := cellsV_sim h1 hl0
    have hcl := hc.1
    have h2l := h2.1
    simp only [Array.length_toList] at hcl h2l
    have hnot : (decide (cv.cells.size ≠ size) || decide (off + cv.cells.size > ccells.size)) = false := by simp; omega
    have hset : (cv.cells.zipIdx.foldl (fun cs (x : Value × Nat) => cs.setIfInBounds (off + x.2) x.1) ccells).toList = ccells.toList.take off ++ cv.cells.toList ++ ccells.toList.drop (off + size) := by
     have := foldl_set off cv.cells.toList 0 ccells (by simp; omega)
     rw [← Array.foldl_toList]
     rw [Array.toList_zipIdx]
     simpa [← hsz.1, h2l] using this
    obtain ⟨cl, h4, h5, h6⟩ := fillL_sim place ps cps _ (cv.cells.zipIdx.foldl (fun cs (x : Value × Nat) => cs.setIfInBounds (off + x.2) x.1) ccells) l (by simpa using hlen)
     (fun j p cp a b => hp (j + 1) p cp (by simpa using a) (by simpa using b)) (by rw [hset]; exact ((hc.take off).append h2).append (hc.drop (off + size)))
     (fun x hx => by
      rcases List.mem_append.1 hx with hx | hx
      ·rcases List.mem_append.1 hx with hx | hx
       ·exact ho x (List.mem_of_mem_take hx)
       ·exact h3 x hx
      ·exact ho x (List.mem_of_mem_drop hx)) hl
    refine ⟨cl, ?_, h5, h6⟩
    simp only [Instr.fill, hpl]
    rw [if_neg (by simpa using hnot)]
    exact h4
   ·cases hl
  ·cases hl
 | [], _ :: _, _, _, _, hlen, _, _, _, _ => by simp at hlen
 | _ :: _, [], _, _, _, hlen, _, _, _, _ => by simp at hlen
def placeS (C : Cfg) (fs : List (Nat × TypeId)) (i : Nat) : Option (Nat × Nat) := fs[i]?.bind fun (o, t) => (C.T t).map fun y => (o, y.size)
def buildV (C : Cfg) (t : TypeId) (ps : List (Nat × Value)) : Option Value :=
 match C.T t with
 | some ⟨.struct fs, _, _, z⟩ => if fs.all (fun f => (C.T f.2).isSome) then (fillL (placeS C fs) z.cells.toList ps).map fun l => .agg l.toArray else none
 | some ⟨.array _ e, _, _, z⟩ => (C.T e).bind fun i => (fillL (fun j => some (j * i.size, i.size)) z.cells.toList ps).map fun l => .agg l.toArray
 | _ => none
theorem run_places (hC : C.Ok P) : ∀ (F : List Field), (∀ f ∈ F, (C.T f.type).isSome = true) → (F.mapM fun f => do pure (f.offset, ← sizeOf f.type) : Sem (List (Nat × Nat))).run P w = .ok (F.map fun f => (f.offset, ((C.T f.type).map (·.size)).getD 0)) w
 | [], _ => rfl
 | f :: F, hF => by
  obtain ⟨i, hi⟩ := Option.isSome_iff_exists.1 (hF f (by simp))
  rw [List.mapM_cons]
  simp only [Sem.run_bind, (hC _ _ hi).run_size, Result.andThen_ok, Sem.run_pure, run_places hC F (fun f hf => hF f (by simp [hf]))]
  simp [hi]
theorem buildV_sim (hC : C.Ok P) {t : TypeId} {ps : List (Nat × Value)} {cps : Array (Nat × Value)} {v : Value} (hl : ps.length = cps.size)
  (hp : ∀ (j : Nat) (p cp : Nat × Value), ps[j]? = some p → cps[j]? = some cp → p.1 = cp.1 ∧ VR μ p.2 cp.2) (hv : buildV C t ps = some v) :
  ∃ cv, (Instr.build t cps).run P w = .ok cv w ∧ VR μ v cv := by
 unfold buildV at hv
 split at hv
 ·rename_i fs s1 b1 z hi
  have hT := hC _ _ hi
  obtain ⟨d, hd, hd2⟩ := hT.desc
  simp only [DescOk] at hd2
  obtain ⟨f, rfl, hf⟩ := hd2
  split at hv
  ·rename_i hall
   rw [Option.map_eq_some_iff] at hv
   obtain ⟨l, hl0, rfl⟩ := hv
   have hz := hT.zero_cells (μ := μ)
   have hF : ∀ x ∈ f.toList, (C.T x.type).isSome = true := fun x hx => by
    rw [← hf] at hall
    have := List.all_eq_true.1 hall (x.offset, x.type) (List.mem_map.2 ⟨x, hx, rfl⟩)
    exact this
   have hpl : (fun i => ((f.toList.map fun f => (f.offset, ((C.T f.type).map (·.size)).getD 0)).toArray : Array (Nat × Nat))[i]?) = placeS C fs := by
    funext i
    simp only [placeS, ← hf, List.getElem?_map, List.getElem?_toArray]
    cases hx : f.toList[i]? with
    | none => simp
    | some x =>
     obtain ⟨y, hy⟩ := Option.isSome_iff_exists.1 (hF x (List.mem_of_getElem? hx))
     simp [hy]
   obtain ⟨cl, h1, h2, h3⟩ := fillL_sim (placeS C fs) ps cps.toList z.cells.toList z.cells l (by simpa using hl) (fun j p cp a b => hp j p cp a (by simpa using b)) hz.1 hz.2 hl0
   have hm : (f.mapM fun f => do pure (f.offset, ← sizeOf f.type) : Sem (Array (Nat × Nat))).run P w = .ok (f.toList.map fun f => (f.offset, ((C.T f.type).map (·.size)).getD 0)).toArray w := by
    rw [Array.mapM_eq_mapM_toList]
    rw [Sem.run_map, run_places hC _ hF]
    rfl
   refine ⟨.agg cl, ?_, .agg_of (by simpa using h2) (by simpa using h3)⟩
   simp only [Instr.build, Sem.run_bind, hT.run_zero, Result.andThen_ok, run_underlying hd, hm]
   rw [hpl, h1]
   rfl
  ·cases hv
 ·rename_i n e s1 b1 z hi
  have hT := hC _ _ hi
  obtain ⟨d, hd, hd2⟩ := hT.desc
  simp only [DescOk] at hd2
  subst hd2
  rw [Option.bind_eq_some_iff] at hv
  obtain ⟨i, he, hv⟩ := hv
  rw [Option.map_eq_some_iff] at hv
  obtain ⟨l, hl0, rfl⟩ := hv
  have hz := hT.zero_cells (μ := μ)
  obtain ⟨cl, h1, h2, h3⟩ := fillL_sim (fun j => some (j * i.size, i.size)) ps cps.toList z.cells.toList z.cells l (by simpa using hl) (fun j p cp a b => hp j p cp a (by simpa using b)) hz.1 hz.2 hl0
  refine ⟨.agg cl, ?_, .agg_of (by simpa using h2) (by simpa using h3)⟩
  simp only [Instr.build, Sem.run_bind, hT.run_zero, Result.andThen_ok, run_underlying hd, (hC _ _ he).run_size]
  rw [h1]
  rfl
 ·cases hv
def zC (z : Value) (n : Nat) : List Value := (madeCells z.cells n).toList
theorem mem_zC {z : Value} {n : Nat} {v : Value} (h : v ∈ zC z n) (hz : 0 < z.cells.size) : v ∈ z.cells.toList := by
 simp only [zC, madeCells, Array.toList_map, List.mem_map] at h
 obtain ⟨i, _, rfl⟩ := h
 have hlt : i % z.cells.size < z.cells.size := Nat.mod_lt _ hz
 simp only [getElem!_def, hlt, Array.getElem?_eq_getElem]
 exact Array.getElem_mem_toList hlt
theorem zC_ok {t : TypeId} {i : TI} (hT : TOk P t i) (n : Nat) (hn : n ≠ 0 → 0 < i.size) : VRL μ (zC i.zero n) (zC i.zero n) ∧ ∀ v ∈ zC i.zero n, v.oneCell' = true := by
 have key : ∀ v ∈ zC i.zero n, plainV v = true := fun v hv => by
  have h0 : n ≠ 0 := fun e => by subst e; simp [zC, madeCells] at hv
  exact hT.zok v (mem_zC hv (by rw [hT.zsz]; exact hn h0))
 exact ⟨VRL.refl_plain key, fun v hv => (VR.plain (μ := ⟨fun _ => none, fun _ => none⟩) (key v hv)).2⟩
def mkSlV (C : Cfg) (t : TypeId) (l c : Value) (h : VH) : Option (Value × VH) :=
 match l, c, C.T t with
 | .int _ l, .int _ c, some ⟨.slice e, _, _, _⟩ => (C.T e).bind fun i =>
  if 0 ≤ l ∧ l ≤ c ∧ (i.bytes : Int) * c ≤ 281474976710656 ∧ c ≤ 9223372036854775807 ∧ 0 < i.size then
   some (.slice (some ⟨h.next, 0, none⟩) l.toNat c.toNat, h.push ⟨e, i.size, zC i.zero (c.toNat * i.size)⟩) else none
 | _, _, _ => none
theorem mkSlV_sim (hC : C.Ok P) (hs : Sim C μ h w) {t : TypeId} {l cl c cc v : Value} {h' : VH} (hl : VR μ l cl) (hc : VR μ c cc) (hv : mkSlV C t l c h = some (v, h')) :
  ∃ cv w' μ', (Instr.makeSlice t cl cc).run P w = .ok cv w' ∧ VR μ' v cv ∧ Step C μ h w μ' h' w' := by
 unfold mkSlV at hv
 split at hv
 ·rename_i kl l kc c e s1 b1 z hi
  have hT := hC _ _ hi
  rw [Option.bind_eq_some_iff] at hv
  obtain ⟨i, he, hv⟩ := hv
  have hE := hC _ _ he
  cases hl
  cases hc
  split at hv
  ·rename_i hcond
   obtain ⟨h0, h1, h2, h3, h4⟩ := hcond
   injection hv with hv
   injection hv with h5 h6
   subst h5
   subst h6
   obtain ⟨f, hf1, hf2, hf3, hf4⟩ := hE.info
   have hrun := run_make (P := P) w t e f i.zero hT.slice hf1 hf4 kl kc l c h0 h1 (by rw [hf3]; exact h2) h3
   rw [hf2] at hrun
   have hz := zC_ok (μ := μ) hE (c.toNat * i.size) (fun _ => h4)
   obtain ⟨μ', hm, hst⟩ := Step.push hs (w1 := w) rfl rfl rfl rfl e i.size (cs := zC i.zero (c.toNat * i.size)) (cur := madeCells i.zero.cells (c.toNat * i.size))
    (by rw [List.take_of_length_le (by simp [zC])]; exact hz.1) hz.2
   refine ⟨_, _, μ', hrun, .sl hm (by omega) (Nat.le_refl _) (fun _ => ?_), hst⟩
   simp [size_madeCells]
  ·cases hv
 ·cases hv
def bSlV (C : Cfg) (t : TypeId) (len : Nat) (ps : List (Nat × Value)) (h : VH) : Option (Value × VH) :=
 match C.T t with
 | some ⟨.slice e, _, _, _⟩ => (C.T e).bind fun i =>
  if len * i.size ≤ 16777216 ∧ 0 < i.size then (fillL (fun j => some (j * i.size, i.size)) (zC i.zero (len * i.size)) ps).map fun l => (.slice (some ⟨h.next, 0, none⟩) len len, h.push ⟨e, i.size, l⟩) else none
 | _ => none
theorem fillL_length (place : Nat → Option (Nat × Nat)) : ∀ (ps : List (Nat × Value)) (cells l : List Value), fillL place cells ps = some l → l.length = cells.length
 | [], cells, l, h => by simp only [fillL, Option.some.injEq] at h; rw [h]
 | (i, v) :: ps, cells, l, h => by
  unfold fillL at h
  split at h
  ·split at h
   ·rename_i hsz
    rw [fillL_length place ps _ l h]
    simp
    omega
   ·cases h
  ·cases h
theorem bSlV_sim (hC : C.Ok P) (hs : Sim C μ h w) {t : TypeId} {len : Nat} {ps : List (Nat × Value)} {cps : Array (Nat × Value)} {v : Value} {h' : VH} (hl : ps.length = cps.size)
  (hp : ∀ (j : Nat) (p cp : Nat × Value), ps[j]? = some p → cps[j]? = some cp → p.1 = cp.1 ∧ VR μ p.2 cp.2) (hv : bSlV C t len ps h = some (v, h')) :
  ∃ cv w' μ', (Instr.buildSlice t len cps).run P w = .ok cv w' ∧ VR μ' v cv ∧ Step C μ h w μ' h' w' := by
 unfold bSlV at hv
 split at hv
 ·rename_i e s1 b1 z hi
  have hT := hC _ _ hi
  rw [Option.bind_eq_some_iff] at hv
  obtain ⟨i, he, hv⟩ := hv
  have hE := hC _ _ he
  split at hv
  ·rename_i hcond
   obtain ⟨h0, h4⟩ := hcond
   rw [Option.map_eq_some_iff] at hv
   obtain ⟨l, hl0, hv⟩ := hv
   injection hv with h5 h6
   subst h5
   subst h6
   have hz := zC_ok (μ := μ) hE (len * i.size) (fun _ => h4)
   obtain ⟨cl, h1, h2, h3⟩ := fillL_sim (fun j => some (j * i.size, i.size)) ps cps.toList _ (madeCells i.zero.cells (len * i.size)) l (by simpa using hl) (fun j p cp a b => hp j p cp a (by simpa using b)) hz.1 hz.2 hl0
   have hln := fillL_length _ _ _ _ hl0
   obtain ⟨μ', hm, hst⟩ := Step.push hs (w1 := w) rfl rfl rfl rfl e i.size (cs := l) (cur := cl)
    (by rw [List.take_of_length_le (by rw [h2.1]; exact Nat.le_refl _)]; exact h2) h3
   have hcs : cl.size = len * i.size := by
    have := h2.1
    simp only [Array.length_toList] at this
    rw [← this, hln]
    simp [zC, size_madeCells]
   refine ⟨_, _, μ', ?_, .sl hm (Nat.le_refl _) (Nat.le_refl _) (fun _ => by simp [hcs]), hst⟩
   have hno : ¬ (len * i.size > 2 ^ 24) := by omega
   by_cases hn : len * i.size = 0
   ·simp only [Instr.buildSlice, Sem.run_bind, run_underlying hT.slice, Result.andThen_ok, hE.run_size, Sem.run_ite, if_neg hno, if_pos hn, Sem.run_pure]
    have e1 : ((Array.range (len * i.size)).map fun x => (#[] : Array Value)[x % (#[] : Array Value).size]!) = madeCells i.zero.cells (len * i.size) := by simp [hn, madeCells]
    rw [e1, h1]
    simp [newRow]
   ·simp only [Instr.buildSlice, Sem.run_bind, run_underlying hT.slice, Result.andThen_ok, hE.run_size, Sem.run_ite, if_neg hno, if_neg hn, hE.run_zero, Sem.run_pure]
    have e1 : ((Array.range (len * i.size)).map fun x => i.zero.cells[x % i.zero.cells.size]!) = madeCells i.zero.cells (len * i.size) := rfl
    rw [e1, h1]
    simp [newRow]
  ·cases hv
 ·cases hv
end Go.QM
end

section
namespace Go.QM
variable {P : Program} {C : Cfg} {μ : Mu} {h : VH} {w : World}
inductive OptR (μ : Mu) : Option Value → Option Value → Prop
 | none : OptR μ none none
 | some {v cv : Value} (h : VR μ v cv) : OptR μ (some v) (some cv)
theorem OptR.map {α : Type} {r ρ : α → Value} (o : Option α) (h : ∀ x, VR μ (r x) (ρ x)) : OptR μ (o.map r) (o.map ρ) := by
 cases o with
 | none => exact .none
 | some x => exact .some (h x)
def numV : Option Value → Option (Option Int)
 | none => some none
 | some (.int _ n) => some (some n)
 | _ => none
theorem numV_sim {v cv : Option Value} {n : Option Int} (hr : OptR μ v cv) (hn : numV v = some n) : (n = none ∧ cv = none) ∨ ∃ k i, n = some i ∧ cv = some (.int k i) := by
 cases hr with
 | none => simp [numV] at hn; exact .inl ⟨hn.symm, rfl⟩
 | some hv =>
  cases hv <;> simp [numV] at hn
  exact .inr ⟨_, _, hn.symm, rfl⟩
def cutB (len cap : Nat) (lo hi mx : Option Int) : Option (Nat × Nat × Nat) :=
 if 0 ≤ lo.getD 0 ∧ lo.getD 0 ≤ hi.getD len ∧ hi.getD len ≤ mx.getD cap ∧ mx.getD cap ≤ cap ∧ (mx.isSome → hi.isSome) then some ((lo.getD 0).toNat, (hi.getD len).toNat, (mx.getD cap).toNat) else none
theorem run_sliceBounds' (isS : Bool) {len cap cap' : Nat} {lo hi mx : Option Value} {clo chi cmx : Option Value} {nlo nhi nmx : Option Int} {l hh m : Nat} (hcap : cap ≤ cap')
  (hlo : numV lo = some nlo) (hhi : numV hi = some nhi) (hmx : numV mx = some nmx) (rlo : OptR μ lo clo) (rhi : OptR μ hi chi) (rmx : OptR μ mx cmx) (hc : cutB len cap nlo nhi nmx = some (l, hh, m)) :
  (Instr.sliceBounds isS len cap' clo chi cmx).run P w = .ok (l, hh, if nmx.isSome then m else cap') w ∧ l ≤ hh ∧ hh ≤ m ∧ m ≤ cap ∧ (nmx = none → m = cap) := by
 unfold cutB at hc
 split at hc
 ·rename_i hcond
  obtain ⟨h0, h1, h2, h3, h4⟩ := hcond
  injection hc with hc
  injection hc with e1 e2
  injection e2 with e2 e3
  refine ⟨?_, by omega, by omega, by omega, fun e => by subst e; simp at e3; omega⟩
  rcases numV_sim rlo hlo with ⟨rfl, rfl⟩ | ⟨kl, il, rfl, rfl⟩ <;> rcases numV_sim rhi hhi with ⟨rfl, rfl⟩ | ⟨kh, ih, rfl, rfl⟩ <;> rcases numV_sim rmx hmx with ⟨rfl, rfl⟩ | ⟨km, im, rfl, rfl⟩ <;>
   simp only [Option.getD_none, Option.getD_some, Option.isSome_none, Option.isSome_some, Bool.false_eq_true, if_true, if_false, forall_const, false_imp_iff] at h0 h1 h2 h3 h4 e1 e2 e3 ⊢ <;>
   (try cases h4) <;> subst e1 <;> subst e2 <;> (try subst e3)
  ·simp [Instr.sliceBounds]
  ·simp [Instr.sliceBounds, run_sliceBound (P := P) w kh ih cap' _ (by omega) (by omega)]
  ·have e4 : (ih.toNat : Int) = ih := by omega
   simp [Instr.sliceBounds, run_sliceBound (P := P) w km im cap' _ (by omega) (by omega), run_sliceBound (P := P) w kh ih im.toNat _ (by omega) (by omega)]
  ·simp [Instr.sliceBounds, run_sliceBound (P := P) w kl il len _ (by omega) (by omega)]
  ·simp [Instr.sliceBounds, run_sliceBound (P := P) w kh ih cap' _ (by omega) (by omega), run_sliceBound (P := P) w kl il ih.toNat _ (by omega) (by omega)]
  ·simp [Instr.sliceBounds, run_sliceBound (P := P) w km im cap' _ (by omega) (by omega), run_sliceBound (P := P) w kh ih im.toNat _ (by omega) (by omega), run_sliceBound (P := P) w kl il ih.toNat _ (by omega) (by omega)]
 ·cases hc
def slcV (C : Cfg) (t : TypeId) (x : Value) (lo hi mx : Option Value) : Option Value :=
 match x, C.T t, numV lo, numV hi, numV mx with
 | .slice (some ⟨b, off, none⟩) len cap, some ⟨.slice e, _, _, _⟩, some lo, some hi, some mx =>
  (C.T e).bind fun i => (cutB len cap lo hi mx).map fun c => .slice (some ⟨b, if c.2.2 = c.1 then off else off + c.1 * i.size, none⟩) (c.2.1 - c.1) (c.2.2 - c.1)
 | .slice none 0 0, some ⟨.slice e, _, _, _⟩, some lo, some hi, some mx => (C.T e).bind fun _ => (cutB 0 0 lo hi mx).map fun _ => .slice none 0 0
 | .string s, some ⟨.string, _, _, _⟩, some lo, some hi, some none => (cutB s.size s.size lo hi none).map fun c => .string (s.extract c.1 c.2.1)
 | .func (.yield len) _ cs, some ⟨.slice e, _, _, _⟩, some lo, some hi, some mx =>
  (C.T e).bind fun i => if cs.size = len * i.size then (cutB len len lo hi mx).map fun c => fS (c.2.1 - c.1) ((cs.toList.drop (c.1 * i.size)).take ((c.2.1 - c.1) * i.size)).toArray else none
 | _, _, _, _, _ => none
theorem slcV_sim (hC : C.Ok P) {t : TypeId} {x cx v : Value} {lo hi mx clo chi cmx : Option Value} (hx : VR μ x cx) (rlo : OptR μ lo clo) (rhi : OptR μ hi chi) (rmx : OptR μ mx cmx) (hv : slcV C t x lo hi mx = some v) :
  ∃ cv, (Instr.sliceAt t cx clo chi cmx).run P w = .ok cv w ∧ VR μ v cv := by
 unfold slcV at hv
 split at hv
 ·rename_i b off len cap e s1 b1 z nlo nhi nmx hi hlo hhi hmx
  have hT := hC _ _ hi
  rw [Option.bind_eq_some_iff] at hv
  obtain ⟨i, he, hv⟩ := hv
  have hE := hC _ _ he
  rw [Option.map_eq_some_iff] at hv
  obtain ⟨⟨l, hh, m⟩, hc, rfl⟩ := hv
  simp only
  cases hx with
  | sl hb hl hcp hs =>
   rename_i cap' mb
   obtain ⟨hr, h1, h2, h3, h4⟩ := run_sliceBounds' (P := P) (w := w) (μ := μ) true hcp hlo hhi hmx rlo rhi rmx hc
   have hrun : (Instr.sliceAt t (.slice (some ⟨mb.k, off, none⟩) len cap') clo chi cmx).run P w =
     .ok (.slice (some ⟨mb.k, if (if nmx.isSome then m else cap') = l then off else off + l * i.size, none⟩) (hh - l) ((if nmx.isSome then m else cap') - l)) w := by
    simp only [Instr.sliceAt, Instr.slice, Sem.run_bind, run_underlying hT.slice, Result.andThen_ok, hr, hE.run_size, Sem.run_pure, Option.map_some, add_at]
    congr 2
    split <;> split <;> rfl
   refine ⟨_, hrun, ?_⟩
   have mul : ∀ a b : Nat, a ≤ b → a * mb.s ≤ b * mb.s := fun a b q => Nat.mul_le_mul_right _ q
   cases hn : nmx with
   | some q =>
    rw [hn] at hr
    simp only [Option.isSome_some, if_true]
    refine .sl hb (by omega) (Nat.le_refl _) (fun h0 => ?_)
    refine Nat.le_trans (mul (m - l) cap' (by omega)) (hs ?_)
    split at h0 <;> omega
   | none =>
    have hm := h4 hn
    subst hm
    simp only [Option.isSome_none, Bool.false_eq_true, if_false]
    by_cases hml : m = l
    ·subst hml
     simp only [if_true, Nat.sub_self]
     have : hh - m = 0 := by omega
     rw [this]
     refine .slE hb (fun h0 => Nat.le_trans (mul (cap' - m) cap' (by omega)) (hs ?_))
     split at h0 <;> omega
    ·rw [if_neg hml, if_neg (by omega)]
     exact .sl hb (by omega) (by omega) (fun h0 => Nat.le_trans (mul (cap' - l) cap' (by omega)) (hs (by omega)))
  | slE hb hs =>
   rename_i off' cap' mb
   obtain ⟨hr, h1, h2, h3, h4⟩ := run_sliceBounds' (P := P) (w := w) (μ := μ) true (Nat.zero_le cap') hlo hhi hmx rlo rhi rmx hc
   have hm0 : m = 0 := by omega
   have hl0 : l = 0 := by omega
   have hh0 : hh = 0 := by omega
   subst hm0
   subst hl0
   subst hh0
   have hrun : (Instr.sliceAt t (.slice (some ⟨mb.k, off', none⟩) 0 cap') clo chi cmx).run P w = .ok (.slice (some ⟨mb.k, off', none⟩) 0 (if nmx.isSome then 0 else cap')) w := by
    simp only [Instr.sliceAt, Instr.slice, Sem.run_bind, run_underlying hT.slice, Result.andThen_ok, hr, hE.run_size, Sem.run_pure, Option.map_some, add_at, Nat.zero_mul, Nat.add_zero, Nat.sub_zero]
    congr 2
    split <;> split <;> rfl
   refine ⟨_, hrun, ?_⟩
   simp only [if_true, Nat.sub_self]
   refine .slE hb (fun h0 => ?_)
   split
   ·simp
   ·exact hs h0
 ·rename_i e s1 b1 z nlo nhi nmx hi hlo hhi hmx
  have hT := hC _ _ hi
  rw [Option.bind_eq_some_iff] at hv
  obtain ⟨i, he, hv⟩ := hv
  have hE := hC _ _ he
  rw [Option.map_eq_some_iff] at hv
  obtain ⟨⟨l, hh, m⟩, hc, rfl⟩ := hv
  cases hx
  obtain ⟨hr, h1, h2, h3, h4⟩ := run_sliceBounds' (P := P) (w := w) (μ := μ) true (Nat.le_refl 0) hlo hhi hmx rlo rhi rmx hc
  have hm0 : m = 0 := by omega
  have hl0 : l = 0 := by omega
  have hh0 : hh = 0 := by omega
  subst hm0
  subst hl0
  subst hh0
  refine ⟨.slice none 0 0, ?_, .slNil⟩
  simp only [Instr.sliceAt, Instr.slice, Sem.run_bind, run_underlying hT.slice, Result.andThen_ok, hr, hE.run_size, Sem.run_pure]
  simp
 ·rename_i s s1 b1 z nlo nhi hi hlo hhi hmx
  have hT := hC _ _ hi
  obtain ⟨d, hd, hd2⟩ := hT.desc
  simp only [DescOk] at hd2
  subst hd2
  rw [Option.map_eq_some_iff] at hv
  obtain ⟨⟨l, hh, m⟩, hc, rfl⟩ := hv
  cases hx
  have hcm : cmx = none := by
   rcases numV_sim rmx hmx with ⟨_, h⟩ | ⟨k, i, h, _⟩
   ·exact h
   ·cases h
  subst hcm
  obtain ⟨hr, h1, h2, h3, h4⟩ := run_sliceBounds' (P := P) (w := w) (μ := μ) false (Nat.le_refl s.size) hlo hhi hmx rlo rhi rmx hc
  refine ⟨_, ?_, .string _⟩
  simp only [Instr.sliceAt, Instr.slice, Sem.run_bind, run_underlying hd, Result.andThen_ok, hr, Option.isSome_none, Bool.false_eq_true, if_false, Sem.run_pure]
 ·rename_i len fst cs e s1 b1 z nlo nhi nmx hi hlo hhi hmx
  have hT := hC _ _ hi
  rw [Option.bind_eq_some_iff] at hv
  obtain ⟨i, he, hv⟩ := hv
  have hE := hC _ _ he
  split at hv
  ·rename_i hcs
   rw [Option.map_eq_some_iff] at hv
   obtain ⟨⟨l, hh, m⟩, hc, rfl⟩ := hv
   simp only
   have gen : ∀ (k off cap : Nat), len ≤ cap → (Instr.sliceAt t (.slice (some ⟨k, off, none⟩) len cap) clo chi cmx).run P w =
     .ok (.slice (some ⟨k, if (if nmx.isSome then m else cap) = l then off else off + l * i.size, none⟩) (hh - l) ((if nmx.isSome then m else cap) - l)) w ∧ l ≤ hh ∧ hh ≤ m ∧ m ≤ len := by
    intro k off cap hcap
    obtain ⟨hr, h1, h2, h3, h4⟩ := run_sliceBounds' (P := P) (w := w) (μ := μ) true hcap hlo hhi hmx rlo rhi rmx hc
    refine ⟨?_, h1, h2, h3⟩
    simp only [Instr.sliceAt, Instr.slice, Sem.run_bind, run_underlying hT.slice, Result.andThen_ok, hr, hE.run_size, Sem.run_pure, Option.map_some, add_at]
    congr 2
    split <;> split <;> rfl
   cases hx with
   | frS hf hl hz ho h1 =>
    rename_i k off cap cur
    obtain ⟨hrun, k1, k2, k3⟩ := gen k off cap hl
    refine ⟨_, hrun, ?_⟩
    by_cases hlh : hh = l
    ·subst hlh
     simp only [Nat.sub_self, Nat.zero_mul, List.take_zero]
     exact .frE _ _
    ·have hX : l < (if nmx.isSome then m else cap) := by split <;> omega
     rw [if_neg (by omega)]
     have mul1 : l * i.size + (hh - l) * i.size ≤ cs.size := by
      rw [hcs, ← Nat.add_mul]
      exact Nat.mul_le_mul_right _ (by omega)
     have hlen : ((cs.toList.drop (l * i.size)).take ((hh - l) * i.size)).toArray.size = (hh - l) * i.size := by
      simp
      omega
     refine .frS hf (by split <;> omega) (by rw [hlen]; omega) (fun v hv => ho v (List.mem_of_mem_drop (List.mem_of_mem_take (by simpa using hv)))) (fun j v cv x y => ?_)
     have hj : j < (hh - l) * i.size := by
      have := (Array.getElem?_eq_some_iff.1 x).1
      omega
     refine h1 (l * i.size + j) v cv ?_ ?_
     ·have x' : ((cs.toList.drop (l * i.size)).take ((hh - l) * i.size))[j]? = some v := by simpa using x
      rw [List.getElem?_take, if_pos hj, List.getElem?_drop] at x'
      simpa using x'
     ·rw [← Nat.add_assoc]; exact y
   | frN =>
    obtain ⟨hr, h1, h2, h3, h4⟩ := run_sliceBounds' (P := P) (w := w) (μ := μ) true (Nat.le_refl 0) hlo hhi hmx rlo rhi rmx hc
    have hm0 : m = 0 := by omega
    have hl0 : l = 0 := by omega
    have hh0 : hh = 0 := by omega
    subst hm0
    subst hl0
    subst hh0
    refine ⟨.slice none 0 0, ?_, by simpa using VR.frN⟩
    simp only [Instr.sliceAt, Instr.slice, Sem.run_bind, run_underlying hT.slice, Result.andThen_ok, hr, hE.run_size, Sem.run_pure]
    simp
   | frE a cap =>
    obtain ⟨hr, h1, h2, h3, h4⟩ := run_sliceBounds' (P := P) (w := w) (μ := μ) true (Nat.zero_le cap) hlo hhi hmx rlo rhi rmx hc
    have hl0 : l = 0 := by omega
    have hh0 : hh = 0 := by omega
    subst hl0
    subst hh0
    refine ⟨.slice (some a) 0 (if nmx.isSome then m else cap), ?_, by simpa using VR.frE _ _⟩
    simp only [Instr.sliceAt, Instr.slice, Sem.run_bind, run_underlying hT.slice, Result.andThen_ok, hr, hE.run_size, Sem.run_pure, Option.map_some, Nat.zero_mul, Nat.sub_zero]
    simp [Addr.add]
  ·cases hv
 ·cases hv
def lenV (C : Cfg) (t : TypeId) (x : Value) : Option Value :=
 match x, C.T t with
 | .slice _ n _, some ⟨.slice _, _, _, _⟩ => some (.int .i64 n)
 | .string s, some ⟨.string, _, _, _⟩ => some (.int .i64 s.size)
 | .func (.yield n) _ _, some ⟨.slice _, _, _, _⟩ => some (.int .i64 n)
 | _, some ⟨.array n _, _, _, _⟩ => some (.int .i64 n)
 | _, _ => none
theorem lenV_sim (hC : C.Ok P) {t ty : TypeId} {x cx v : Value} (hx : VR μ x cx) (hv : lenV C t x = some v) : ∃ cv, (Builtin.len_ #[t] ty #[cx]).run P w = .ok cv w ∧ VR μ v cv := by
 unfold lenV at hv
 split at hv
 ·rename_i a n c e s1 b1 z hi
  have hd := (hC _ _ hi).slice
  cases hv
  cases hx <;> refine ⟨_, ?_, .int _ _⟩ <;> simp [Builtin.len_, run_underlying hd, goInt]
 ·rename_i s s1 b1 z hi
  obtain ⟨d, hd, hd2⟩ := (hC _ _ hi).desc
  simp only [DescOk] at hd2
  subst hd2
  cases hv
  cases hx
  refine ⟨_, ?_, .int _ _⟩
  simp [Builtin.len_, run_underlying hd, goInt]
 ·rename_i n nm cs e s1 b1 z hi
  have hd := (hC _ _ hi).slice
  cases hv
  cases hx <;> refine ⟨_, ?_, .int _ _⟩ <;> simp [Builtin.len_, run_underlying hd, goInt]
 ·rename_i x0 o0 n e s1 b1 z hi
  obtain ⟨d, hd, hd2⟩ := (hC _ _ hi).desc
  simp only [DescOk] at hd2
  subst hd2
  cases hv
  refine ⟨_, ?_, .int _ _⟩
  simp [Builtin.len_, run_underlying hd, goInt]
 ·cases hv
def mmV (mx : Bool) (x y : Value) : Option Value :=
 match x, y with
 | .int k a, .int _ b => some (.int k (if mx then (if b > a then b else a) else (if b < a then b else a)))
 | _, _ => none
theorem mmV_sim {mx : Bool} {x cx y cy v : Value} {ts : Array TypeId} {ty : TypeId} (hx : VR μ x cx) (hy : VR μ y cy) (hv : mmV mx x y = some v) :
  ∃ cv, (if mx then Builtin.max_ ts ty #[cx, cy] else Builtin.min_ ts ty #[cx, cy]).run P w = .ok cv w ∧ VR μ v cv := by
 unfold mmV at hv
 split at hv
 ·cases hv
  cases hx
  cases hy
  refine ⟨_, ?_, .int _ _⟩
  cases mx
  ·simp [Builtin.min_, Builtin.min2]
  ·simp [Builtin.max_, Builtin.max2]
 ·cases hv
def rdS (h : VH) (x : Value) (s : Nat) : Option (Nat × List Value) :=
 match x with
 | .slice none 0 0 => some (0, [])
 | .slice (some ⟨b, off, none⟩) m _ => (rdN h b off (m * s)).map fun l => (m, l)
 | .func (.yield m) _ cs => if cs.size = m * s then some (m, cs.toList) else none
 | _ => none
theorem rdS_sim (hs : Sim C μ h w) {x cx : Value} (hx : VR μ x cx) {s m : Nat} {l : List Value} (hr : rdS h x s = some (m, l)) :
  ∃ cl, VRL μ l cl ∧ l.length = m * s ∧ (∀ v ∈ l, v.oneCell' = true) ∧ ((cx = .slice none 0 0 ∧ m = 0) ∨ ∃ a c, cx = .slice (some a) m c ∧ ∀ j v, cl[j]? = some v → w.cell? (a.add j) = some v) := by
 unfold rdS at hr
 split at hr
 ·cases hr
  cases hx
  exact ⟨[], VRL.nil _, by simp, by simp, .inl ⟨rfl, rfl⟩⟩
 ·rw [Option.map_eq_some_iff] at hr
  obtain ⟨l0, hl0, hr⟩ := hr
  cases hr
  cases hx with
  | sl hb hl hc hs1 =>
   obtain ⟨cl, h1, h2, h3, h4⟩ := rdN_sim hs hb hl0
   exact ⟨cl, h1, h2, h4, .inr ⟨_, _, rfl, h3⟩⟩
  | slE hb hs1 =>
   obtain ⟨cl, h1, h2, h3, h4⟩ := rdN_sim hs hb hl0
   have : cl = [] := List.eq_nil_of_length_eq_zero (by rw [← h1.1, h2]; simp)
   subst this
   exact ⟨[], h1, h2, h4, .inr ⟨_, _, rfl, fun j v hj => by simp at hj⟩⟩
 ·rename_i mm fst cs
  split at hr
  ·rename_i hcs
   cases hr
   cases hx with
   | frN => exact ⟨[], VRL.nil _, by simp, by simp, .inl ⟨rfl, rfl⟩⟩
   | frE a c => exact ⟨[], VRL.nil _, by simp, by simp, .inr ⟨_, _, rfl, fun j v hj => by simp at hj⟩⟩
   | frS hf hl hz ho h1 =>
    obtain ⟨cl, g1, g2, g3⟩ := rdF_sim hs hf hz h1 0 cs.size (by omega)
    rw [List.drop_zero, List.take_of_length_le (by simp)] at g1 g2
    exact ⟨cl, g1, by rw [g2, hcs], ho, .inr ⟨_, _, rfl, g3⟩⟩
  ·cases hr
 ·cases hr
def appV (C : Cfg) (t : TypeId) (s x : Value) (h : VH) : Option (Value × VH) :=
 match C.T t with
 | some ⟨.slice e, _, _, _⟩ => (C.T e).bind fun i => (rdS h x i.size).bind fun (m, news) =>
  match s with
  | .slice none 0 0 =>
   if m = 0 then some (.slice none 0 0, h)
   else if m * i.bytes ≤ 140737488355328 ∧ m ≤ 4611686018427387904 ∧ 0 < i.size then some (.slice (some ⟨h.next, 0, none⟩) m m, h.push ⟨e, i.size, news⟩) else none
  | .slice (some ⟨b, 0, none⟩) len cap =>
   if 0 < cap ∧ 0 < m ∧ C.base ≤ b ∧ (len + m) * i.bytes ≤ 140737488355328 ∧ len + m ≤ 4611686018427387904 ∧ 0 < i.size then
    (h.blk b).bind fun B => if B.ty = e ∧ B.sz = i.size then (rdN h b 0 (len * i.size)).map fun olds => (.slice (some ⟨h.next, 0, none⟩) (len + m) (len + m), (h.set b none).push ⟨e, i.size, olds ++ news⟩) else none
   else none
  | _ => none
 | _ => none
theorem VRL.cells_one {l cl : List Value} (hv : VRL μ l cl) (ho : ∀ v ∈ l, v.oneCell' = true) : ∀ u ∈ cl, u.oneCell' = true := fun v hv' => by
 obtain ⟨i, hi⟩ := List.getElem?_of_mem hv'
 have hi2 : i < l.length := by rw [hv.1]; exact (List.getElem?_eq_some_iff.1 hi).1
 exact (hv.2 i l[i] v (by simp [hi2]) hi).oneCell (ho _ (List.getElem_mem hi2))
theorem Step.kill (hs : Sim C μ h w) {b : Nat} (hbase : C.base ≤ b) : Step C μ h w μ (h.set b none) w := by
 have live : ∀ x, (h.set b none).blk x ≠ none → h.blk x ≠ none := by
  intro x hx
  by_cases hxb : x = b
  ·subst hxb; simp [VH.set] at hx
  ·simpa [VH.set, hxb] using hx
 refine ⟨Mu.le_refl _, ⟨?_, fun b1 b2 m1 m2 h1 h2 h3 h4 h5 => hs.inj b1 b2 m1 m2 h1 h2 h3 (live _ h4) (live _ h5), hs.dom, hs.rng, hs.glob, hs.fz, fun b1 m1 h1 h2 => hs.fzd b1 m1 h1 (live _ h2)⟩, rfl, rfl, rfl, Nat.le_refl _, Nat.le_refl _, fun _ _ _ => rfl, fun _ _ _ _ _ => rfl, fun x hx _ => (by
  have : x ≠ b := by omega
  simp [VH.set, this]), fun b m h1 h2 => (by rw [h1] at h2; cases h2), fun x hx hn => (by
  by_cases hxb : x = b
  ·subst hxb; simp [VH.set]
  ·simpa [VH.set, hxb] using hn), hs.dom, fun x y z _ => (by simp only [VH.set] at z; omega), fun _ _ x => .inl x⟩
 ·intro b' m' B' hb' hB'
  by_cases hx : b' = b
  ·subst hx; simp [VH.set] at hB'
  ·simp only [VH.set, if_neg hx] at hB'
   exact hs.blk b' m' B' hb' hB'
theorem appV_sim (hC : C.Ok P) (hs : Sim C μ h w) {t ty : TypeId} {s cs x cx v : Value} {h' : VH} (hS : VR μ s cs) (hx : VR μ x cx) (hv : appV C t s x h = some (v, h')) :
  ∃ cv w' μ', (Builtin.append_ #[t, t] ty #[cs, cx]).run P w = .ok cv w' ∧ VR μ' v cv ∧ Step C μ h w μ' h' w' := by
 unfold appV at hv
 split at hv
 ·rename_i e s1 b1 z hi
  have hT := hC _ _ hi
  rw [Option.bind_eq_some_iff] at hv
  obtain ⟨i, he, hv⟩ := hv
  have hE := hC _ _ he
  obtain ⟨f, hf1, hf2, hf3, hf4⟩ := hE.info
  rw [Option.bind_eq_some_iff] at hv
  obtain ⟨⟨m, news⟩, hr, hv⟩ := hv
  obtain ⟨cl, h1, h2, h3, h4⟩ := rdS_sim hs hx hr
  simp only at hv
  split at hv
  ·cases hS
   split at hv
   ·rename_i hm
    injection hv with hv
    injection hv with h5 h6
    subst h5
    subst h6
    subst hm
    refine ⟨.slice none 0 0, w, μ, ?_, .slNil, Step.refl hs⟩
    rcases h4 with ⟨rfl, _⟩ | ⟨a, c, rfl, _⟩
    ·simp [Builtin.append_, run_underlying hT.slice, hE.run_size, Builtin.lenOf, Builtin.firstCells, storeCells]
    ·have h0 : cl.length = 0 := by rw [← h1.1, h2]; simp
     have hf := run_firstCells_some (P := P) w i.size 0 a 0 c [] (by simp) (by simp)
     simp [Builtin.append_, run_underlying hT.slice, hE.run_size, Builtin.lenOf, hf, storeCells]
   ·rename_i hm
    split at hv
    ·rename_i hcond
     obtain ⟨hb1, hb2, hb3⟩ := hcond
     injection hv with hv
     injection hv with h5 h6
     subst h5
     subst h6
     rcases h4 with ⟨rfl, hm0⟩ | ⟨a, c, rfl, h4⟩
     ·exact absurd hm0 hm
     ·have hcl := h1.1
      have hrun := run_append_nil (P := P) w t ty e f i.zero hT.slice hf1 hf4 a m c cl (by rw [← hcl, h2, hf2]) h4 (by omega) (by omega) (by rw [hf3]; omega)
      have hge := grownCap_ge w m 0 e
      have hz := zC_ok (μ := μ) hE
      obtain ⟨μ', hm', hst⟩ := Step.push hs (w1 := w.drew) rfl rfl rfl rfl e i.size (cs := news) (cur := cl.toArray ++ Builtin.zeroCells i.zero.cells (grownCap w m 0 e - m))
       (by rw [Array.toList_append, List.take_append_of_le_length (by simp [hcl]), List.take_of_length_le (by simp [hcl])]; exact h1) h3
      refine ⟨_, _, μ', hrun, .sl hm' (Nat.le_refl _) hge (fun _ => ?_), hst⟩
      simp only [Array.size_append, List.size_toArray, size_zeroCells, hE.zsz, ← hcl, h2, ← Nat.add_mul]
      exact Nat.mul_le_mul_right _ (by omega)
    ·cases hv
  ·rename_i b len cap
   split at hv
   ·rename_i hcond
    obtain ⟨hcap, hm, hbase, hb1, hb2, hb3⟩ := hcond
    rw [Option.bind_eq_some_iff] at hv
    obtain ⟨B, hB, hv⟩ := hv
    split at hv
    ·rename_i hBt
     obtain ⟨hBt, hBs⟩ := hBt
     rw [Option.map_eq_some_iff] at hv
     obtain ⟨olds, ho, hv⟩ := hv
     injection hv with h5 h6
     subst h5
     subst h6
     rcases h4 with ⟨rfl, hm0⟩ | ⟨a, c, rfl, h4⟩
     ·omega
     have hcl := h1.1
     cases hS with
     | slE hb hs1 => omega
     | sl hb hl hcp hs1 =>
      rename_i cap' mb
      obtain ⟨co, g1, g2, g3, g4⟩ := rdN_sim hs hb ho
      have hco := g1.1
      obtain ⟨cur, hc, hsz, hBs2, hv0, ho0⟩ := hs.blk b mb B hb hB
      have hbk : B.cs.length ≤ cur.size := by
       have := hv0.1
       simp only [List.length_take, Array.length_toList] at this
       omega
      have hle : len * i.size ≤ B.cs.length := by
       unfold rdN at ho
       simp only [hB, Option.bind_some] at ho
       split at ho
       ·omega
       ·cases ho
      by_cases hroom : len + m ≤ cap'
      ·
       have hcs : cap' * i.size ≤ cur.size := by
        have := hs1 rfl
        rw [hsz, ← hBs, hBs2]
        exact this
       have hfit : len * f.size + cl.length ≤ cur.size := by
        rw [hf2, ← hcl, h2, ← Nat.add_mul]
        exact Nat.le_trans (Nat.mul_le_mul_right _ hroom) hcs
       have hcur : w.heap[mb.k]? = some (.cells cur e (0, 0)) := by rw [hc, hBt]
       have hrun := run_append_room (P := P) w t ty e f hT.slice hf1 mb.k len cap' cur hcur a m c cl (by rw [← hcl, h2, hf2]) h4 (h1.cells_one h3) hroom hfit
       have hold : VRL μ olds (cur.toList.take (len * i.size)) := by
        have := hv0.take (len * i.size)
        rw [List.take_take, Nat.min_eq_left hle] at this
        unfold rdN at ho
        simp only [hB, Option.bind_some] at ho
        split at ho
        ·injection ho with ho
         rw [← ho]
         simpa using this
        ·cases ho
       obtain ⟨μ', hm', hst⟩ := Step.grow hs hb hB hbase (cs := olds ++ news) (cur := (cur.toList.take (len * f.size) ++ cl ++ cur.toList.drop (len * f.size + cl.length)).toArray)
        (by simp; omega) (by
         have hl1 : (olds ++ news).length = len * i.size + cl.length := by simp [g2, hcl]
         rw [hl1, hf2]
         have e1 : (cur.toList.take (len * i.size) ++ cl ++ cur.toList.drop (len * i.size + cl.length)).take (len * i.size + cl.length) = cur.toList.take (len * i.size) ++ cl := by
          rw [List.take_append_of_le_length (by simp; omega), List.take_of_length_le (by simp; omega)]
         simp only [e1]
         exact hold.append h1) (fun v hv => by
         rcases List.mem_append.1 hv with hv | hv
         ·exact g4 v hv
         ·exact h3 v hv)
       rw [hBt, hBs] at hst
       refine ⟨_, _, μ', hrun, .sl hm' (Nat.le_refl _) hroom hs1, hst⟩
      ·
       have hrun := run_append_grow (P := P) w t ty e f i.zero hT.slice hf1 hf4 ⟨mb.k, 0, none⟩ len cap' co (by rw [← hco, g2, hf2]) g3 a m c cl (by rw [← hcl, h2, hf2]) h4 (by omega) (by omega)
        (growslice_fits (by omega) (by rw [hf3]; exact hb1))
       have hk := Step.kill (b := b) hs hbase
       have hge := grownCap_ge w (len + m) cap' e
       obtain ⟨μ', hm', hst⟩ := Step.push hk.sim (w1 := w.drew) rfl rfl rfl rfl e i.size (cs := olds ++ news) (cur := co.toArray ++ cl.toArray ++ Builtin.zeroCells i.zero.cells (grownCap w (len + m) cap' e - (len + m)))
        (by
         have e1 : ((co.toArray ++ cl.toArray ++ Builtin.zeroCells i.zero.cells (grownCap w (len + m) cap' e - (len + m))).toList).take (olds ++ news).length = co ++ cl := by
          rw [Array.toList_append, Array.toList_append, List.take_append_of_le_length (by simp [hco, hcl]), List.take_of_length_le (by simp [hco, hcl])]
         rw [e1]
         exact g1.append h1) (fun v hv => by
         rcases List.mem_append.1 hv with hv | hv
         ·exact g4 v hv
         ·exact h3 v hv)
       refine ⟨_, _, μ', hrun, .sl hm' (Nat.le_refl _) hge (fun _ => ?_), hk.trans hst⟩
       simp only [Array.size_append, List.size_toArray, size_zeroCells, hE.zsz, ← hcl, h2, ← hco, g2, ← Nat.add_mul]
       exact Nat.mul_le_mul_right _ (by omega)
    ·cases hv
   ·cases hv
  ·cases hv
 ·cases hv
def cpyV (C : Cfg) (t : TypeId) (d x : Value) (h : VH) : Option (Value × VH) :=
 match C.T t with
 | some ⟨.slice e, _, _, _⟩ => (C.T e).bind fun i =>
  match d, x with
  | .slice (some ⟨b, off, none⟩) dl _, .slice (some ⟨bx, ox, none⟩) m _ => (rdN h bx ox (Nat.min m dl * i.size)).bind fun l => if Nat.min m dl = 0 then some (.int .i64 0, h) else (wrN C.base h b off l).map fun h' => (.int .i64 (Nat.min m dl), h')
  | .slice (some ⟨b, off, none⟩) dl _, .func (.yield m) _ cs => if cs.size = m * i.size then (if Nat.min m dl = 0 then some (.int .i64 0, h) else (wrN C.base h b off (cs.toList.take (Nat.min m dl * i.size))).map fun h' => (.int .i64 (Nat.min m dl), h')) else none
  | .slice none 0 0, .func (.yield _) _ _ => some (.int .i64 0, h)
  | .slice none 0 0, .slice _ _ _ => some (.int .i64 0, h)
  | .slice (some _) _ _, .slice none 0 0 => some (.int .i64 0, h)
  | _, _ => none
 | _ => none
theorem cpyV_sim (hC : C.Ok P) (hs : Sim C μ h w) {t t2 ty : TypeId} {d cd x cx v : Value} {h' : VH} (hd : VR μ d cd) (hx : VR μ x cx) (hv : cpyV C t d x h = some (v, h')) :
  ∃ cv w', (Builtin.copy_ #[t, t2] ty #[cd, cx]).run P w = .ok cv w' ∧ VR μ v cv ∧ Step C μ h w μ h' w' := by
 unfold cpyV at hv
 split at hv
 ·rename_i e s1 b1 z hi
  have hT := hC _ _ hi
  rw [Option.bind_eq_some_iff] at hv
  obtain ⟨i, he, hv⟩ := hv
  have hE := hC _ _ he
  have tail : ∀ (b off dl dc m : Nat) (l : List Value), (∃ mx ox' xc', cx = .slice (some ⟨mx, ox', none⟩) m xc' ∧ ∃ cl, VRL μ l cl ∧ l.length = Nat.min m dl * i.size ∧ (∀ v ∈ l, v.oneCell' = true) ∧ ∀ j v, cl[j]? = some v → w.cell? ((⟨mx, ox', none⟩ : Addr).add j) = some v) →
    ∀ (hd : VR μ (.slice (some ⟨b, off, none⟩) dl dc) cd), (if Nat.min m dl = 0 then some (.int .i64 0, h) else (wrN C.base h b off l).map fun h' => (.int .i64 (Nat.min m dl), h')) = some (v, h') →
    ∃ cv w', (Builtin.copy_ #[t, t2] ty #[cd, cx]).run P w = .ok cv w' ∧ VR μ v cv ∧ Step C μ h w μ h' w' := by
   intro b off dl dc m l hxm hd hv
   obtain ⟨mx, ox', xc', rfl, cl, g1, g2, g3, g4⟩ := hxm
   have hf := run_firstCells_some (P := P) w i.size (Nat.min m dl) ⟨mx, ox', none⟩ m xc' cl (by rw [← g1.1, g2]) g4
   split at hv
   ·rename_i hn
    cases hv
    rw [hn] at hf
    have hc0 : cl = [] := List.eq_nil_of_length_eq_zero (by rw [← g1.1, g2, hn]; simp)
    subst hc0
    cases hd with
    | sl hb h1 h2 h3 => exact ⟨.int .i64 0, w, by simp [Builtin.copy_, run_underlying hT.slice, Builtin.lenOf, hE.run_size, hf, storeCells, goInt, hn], .int _ _, Step.refl hs⟩
    | slE hb h3 => exact ⟨.int .i64 0, w, by simp [Builtin.copy_, run_underlying hT.slice, Builtin.lenOf, hE.run_size, hf, storeCells, goInt, hn], .int _ _, Step.refl hs⟩
   ·rename_i hn
    rw [Option.map_eq_some_iff] at hv
    obtain ⟨h2', hw, hv⟩ := hv
    cases hv
    cases hd with
    | sl hb h1 h2 h3 =>
     obtain ⟨w', hst, hstep⟩ := wrN_sim (P := P) hs hb hw g1 g3
     refine ⟨_, w', ?_, .int _ _, hstep⟩
     simp [Builtin.copy_, run_underlying hT.slice, Builtin.lenOf, hE.run_size, hf, hst, goInt]
    | slE hb h3 => exact absurd (Nat.min_zero m) hn
  split at hv
  ·rename_i b off dl dc bx ox m xc
   rw [Option.bind_eq_some_iff] at hv
   obtain ⟨l, hl, hv⟩ := hv
   have hxm : ∃ mx ox' xc', cx = .slice (some ⟨mx, ox', none⟩) m xc' ∧ ∃ cl, VRL μ l cl ∧ l.length = Nat.min m dl * i.size ∧ (∀ v ∈ l, v.oneCell' = true) ∧ ∀ j v, cl[j]? = some v → w.cell? ((⟨mx, ox', none⟩ : Addr).add j) = some v := by
    cases hx with
    | sl hb h1 h2 h3 =>
     obtain ⟨cl, g1, g2, g3, g4⟩ := rdN_sim hs hb hl
     exact ⟨_, _, _, rfl, cl, g1, g2, g4, g3⟩
    | slE hb h3 =>
     obtain ⟨cl, g1, g2, g3, g4⟩ := rdN_sim hs hb hl
     have : cl = [] := List.eq_nil_of_length_eq_zero (by rw [← g1.1, g2, show Nat.min 0 dl = 0 from Nat.zero_min dl]; simp)
     subst this
     exact ⟨_, _, _, rfl, [], g1, g2, g4, fun j v hj => by simp at hj⟩
   exact tail _ _ _ _ _ _ hxm hd hv
  ·rename_i b off dl dc m fst cs
   split at hv
   ·rename_i hcs
    have hxm : ∃ a m' c', cx = .slice a m c' ∧ (Nat.min m dl ≠ 0 → a = some m') ∧ ∃ cl, VRL μ (cs.toList.take (Nat.min m dl * i.size)) cl ∧ (cs.toList.take (Nat.min m dl * i.size)).length = Nat.min m dl * i.size ∧ (∀ v ∈ cs.toList.take (Nat.min m dl * i.size), v.oneCell' = true) ∧ ∀ j v, cl[j]? = some v → w.cell? (m'.add j) = some v := by
     have hle : Nat.min m dl * i.size ≤ cs.size := by
      rw [hcs]
      exact Nat.mul_le_mul_right _ (Nat.min_le_left _ _)
     cases hx with
     | frN => exact ⟨none, ⟨0, 0, none⟩, 0, rfl, fun e => absurd (Nat.zero_min dl) e, [], by simpa using VRL.nil _, by simp, by simp, fun j v hj => by simp at hj⟩
     | frE a c => exact ⟨_, a, _, rfl, fun _ => rfl, [], by simpa using VRL.nil _, by simp, by simp, fun j v hj => by simp at hj⟩
     | frS hf hl hz ho h1 =>
      obtain ⟨cl, g1, g2, g3⟩ := rdF_sim hs hf hz h1 0 (Nat.min m dl * i.size) (by omega)
      rw [List.drop_zero] at g1 g2
      exact ⟨_, _, _, rfl, fun _ => rfl, cl, g1, g2, fun v hv => ho v (List.mem_of_mem_take hv), g3⟩
    obtain ⟨a, m', c', rfl, hane, cl, g1, g2, g3, g4⟩ := hxm
    by_cases hn : Nat.min m dl = 0
    ·rw [if_pos hn] at hv
     cases hv
     have hd2 : ∃ ad dc', cd = .slice (some ad) dl dc' := by cases hd <;> exact ⟨_, _, rfl⟩
     obtain ⟨ad, dc', rfl⟩ := hd2
     refine ⟨.int .i64 0, w, ?_, .int _ _, Step.refl hs⟩
     cases a with
     | none => simp [Builtin.copy_, run_underlying hT.slice, Builtin.lenOf, hE.run_size, hn, Builtin.firstCells, goInt, storeCells]
     | some a' =>
      have hf := run_firstCells_some (P := P) w i.size 0 a' m c' [] (by simp) (by simp)
      simp [Builtin.copy_, run_underlying hT.slice, Builtin.lenOf, hE.run_size, hf, hn, goInt, storeCells]
    ·have := hane hn
     subst this
     have hm' : ∃ k o, m' = ⟨k, o, none⟩ := by
      cases hx with
      | frS => exact ⟨_, _, rfl⟩
      | frE => exact absurd (Nat.zero_min dl) hn
     obtain ⟨k, o, rfl⟩ := hm'
     refine tail b off dl dc m _ ⟨_, _, _, rfl, cl, g1, g2, g3, g4⟩ hd ?_
     rw [if_neg hn] at hv ⊢
     exact hv
   ·cases hv
  ·cases hv
   cases hd
   refine ⟨.int .i64 0, w, ?_, .int _ _, Step.refl hs⟩
   have hx2 : ∃ a' n c', cx = .slice a' n c' := by cases hx <;> exact ⟨_, _, _, rfl⟩
   obtain ⟨a', n, c', rfl⟩ := hx2
   cases a' with
   | none => simp [Builtin.copy_, run_underlying hT.slice, Builtin.lenOf, hE.run_size, Builtin.firstCells, goInt]
   | some a' =>
    have hf := run_firstCells_some (P := P) w i.size 0 a' n c' [] (by simp) (by simp)
    simp [Builtin.copy_, run_underlying hT.slice, Builtin.lenOf, hE.run_size, hf, goInt]
  ·rename_i a n c
   cases hv
   cases hd
   refine ⟨.int .i64 0, w, ?_, .int _ _, Step.refl hs⟩
   have hx2 : ∃ a' c', cx = .slice a' n c' := by cases hx <;> exact ⟨_, _, rfl⟩
   obtain ⟨a', c', rfl⟩ := hx2
   cases a' with
   | none => simp [Builtin.copy_, run_underlying hT.slice, Builtin.lenOf, hE.run_size, Builtin.firstCells, goInt]
   | some a' =>
    have hf := run_firstCells_some (P := P) w i.size 0 a' n c' [] (by simp) (by simp)
    simp [Builtin.copy_, run_underlying hT.slice, Builtin.lenOf, hE.run_size, hf, goInt]
  ·rename_i a n c
   cases hv
   cases hx
   refine ⟨.int .i64 0, w, ?_, .int _ _, Step.refl hs⟩
   have hx2 : ∃ a' c', cd = .slice (some a') n c' := by cases hd <;> exact ⟨_, _, rfl⟩
   obtain ⟨a', c', rfl⟩ := hx2
   simp [Builtin.copy_, run_underlying hT.slice, Builtin.lenOf, hE.run_size, Builtin.firstCells, goInt, storeCells]
  ·cases hv
 ·cases hv
end Go.QM
end

section
namespace Go.QM
variable {P : Program} {C : Cfg} {μ : Mu} {h : VH} {w : World}
abbrev Env := Nat → Value
def Env.put (e : Env) (d : Option Tmp) (v : Value) : Env :=
 match d with
 | some d => fun t => if t = d then v else e t
 | none => e
abbrev Und : Value := .chan none
def constV : Value → Value
 | .int k n => .int k n
 | .bool b => .bool b
 | .string s => .string s
 | .pointer none => .pointer none
 | .slice none 0 0 => .slice none 0 0
 | .nilFunc => .nilFunc
 | .nilIface => .nilIface
 | .func (.func f) a b => match a.toList, b.toList with
  | [], [] => .func (.func f) #[] #[]
  | _, _ => Un
 | _ => Un
def ev (C : Cfg) (e : Env) : Operand → Value
 | .tmp t => e t
 | .const v => constV v
 | .global g => if C.gl g then .pointer (some ⟨g, 0, none⟩) else Un
 | .func f => .func (.func f) #[] #[]
theorem constV_sim (v : Value) : VR μ (constV v) v := by
 unfold constV
 split <;> first
  | exact .int _ _
  | exact .bool _
  | exact .string _
  | exact .ptrNil
  | exact .slNil
  | exact .nilFunc
  | exact .nilIface
  | exact .junk _
  | skip
 rename_i f a b
 split
 ·rename_i ha hb
  exact .func (by simp [← Array.length_toList, ha]) (by simp [← Array.length_toList, hb]) (fun i v cv a => by simp at a) (fun i v cv a => by simp at a)
 ·exact .junk _
def EnvR (μ : Mu) (e : Env) (a : Act) : Prop := ∀ t, VR μ (e t) (a.tmps.getD t undef) ∨ (e t = Und ∧ a.tmps.getD t undef = undef)
theorem EnvR.mono {μ μ' : Mu} (hm : μ.le μ') {e : Env} {a : Act} (h : EnvR μ e a) : EnvR μ' e a := fun t => (h t).imp (fun x => x.mono hm) id
theorem EnvR.put {e : Env} {a : Act} (he : EnvR μ e a) {d : Option Tmp} {v cv : Value} (hv : VR μ v cv ∨ (v = Und ∧ cv = undef)) (hd : ∀ t, d = some t → t < a.tmps.size) : EnvR μ (e.put d v) (a.put d cv) := by
 intro t
 cases d with
 | none => exact he t
 | some d =>
  have := hd d rfl
  by_cases hx : t = d
  ·subst hx
   simpa [Env.put, Act.put, this] using hv
  ·have e1 : ({ a with tmps := a.tmps.setIfInBounds d cv } : Act).tmps.getD t undef = a.tmps.getD t undef := by
    simp [Array.getElem?_setIfInBounds_ne (fun q => hx q.symm)]
   simp only [Env.put, Act.put, if_neg hx]
   rw [e1]
   exact he t
theorem ev_sim (hs : Sim C μ h w) {e : Env} {a : Act} (he : EnvR μ e a) (x : Operand) : VR μ (ev C e x) (a.eval x) ∨ (ev C e x = Und ∧ a.eval x = undef) := by
 cases x with
 | tmp t => exact he t
 | const v => exact .inl (constV_sim v)
 | global g =>
  refine .inl ?_
  simp only [ev]
  split
  ·rename_i hg
   obtain ⟨m, h1, h2⟩ := hs.glob g hg
   have := VR.ptr (off := 0) h1
   rw [h2] at this
   exact this
  ·exact .junk _
 | func f => exact .inl (.func rfl rfl (fun i v cv a => by simp at a) (fun i v cv a => by simp at a))
def seen : Value → Value
 | .chan _ => Un
 | v => v
theorem seen_sim {v cv : Value} (h : VR μ v cv ∨ (v = Und ∧ cv = undef)) : VR μ (seen v) cv := by
 rcases h with h | ⟨rfl, _⟩
 ·have h' := h
  cases h <;> exact h'
 ·exact .junk _
def rd (C : Cfg) (e : Env) (x : Operand) : Value := seen (ev C e x)
theorem rd_sim (hs : Sim C μ h w) {e : Env} {a : Act} (he : EnvR μ e a) (x : Operand) : VR μ (rd C e x) (a.eval x) := seen_sim (ev_sim hs he x)
def opV (C : Cfg) (o : Oper) (r : Operand → Value) (h : VH) : Option (Value × VH) :=
 match o.op with
 | .move x | .assign x => some (r x, h)
 | .pick c a b => match r c with
  | .bool t => some (if t then r a else r b, h)
  | _ => none
 | .alloc t => allocV C t h
 | .box t x => boxV t (r x) h
 | .build t ps => (buildV C t (ps.toList.map fun p => (p.1, r p.2))).map fun v => (v, h)
 | .buildSlice t n ps => bSlV C t n (ps.toList.map fun p => (p.1, r p.2)) h
 | .load t a => (loadV C t (r a) h).map fun v => (v, h)
 | .store t a x => (storeV C t (r a) (r x) h).map fun h' => (Un, h')
 | .nilCheck x => match r x with
  | .pointer (some a) => some (.pointer (some a), h)
  | .func (.methodOf o _) _ cs => some (fP o cs, h)
  | _ => none
 | .binOp op t x y _ => (binV C op t (r x) (r y)).map fun v => (v, h)
 | .unOp op _ x => (unV op (r x)).map fun v => (v, h)
 | .convert s d x => (cvtV C s d (r x)).map fun v => (v, h)
 | .makeFunc (.func fn) first cap => some (.func (.func fn) (first.map r) (cap.map r), h)
 | .makeSlice t l c => mkSlV C t (r l) (r c) h
 | .slice t x lo hi mx => (slcV C t (r x) (lo.map r) (hi.map r) (mx.map r)).map fun v => (v, h)
 | .fieldAddr s x f => (fldAV C s (r x) f).map fun v => (v, h)
 | .field t x f => (fldV C t (r x) f).map fun v => (v, h)
 | .indexAddr t x i => (idxV C t (r x) (r i)).map fun v => (v, h)
 | .extract x j => (extV (r x) j).map fun v => (v, h)
 | .index t x i => (sixV C t (r x) (r i)).map fun v => (v, h)
 | .call c => match c.callee, c.args.toList, c.argTypes.toList with
  | .builtin .len, [x], [t] => (lenV C t (r x)).map fun v => (v, h)
  | .builtin .append, [s, x], [t, t'] => if t = t' then appV C t (r s) (r x) h else none
  | .builtin .copy, [d, x], [t, _] => cpyV C t (r d) (r x) h
  | .builtin .max, [x, y], _ => (mmV true (r x) (r y)).map fun v => (v, h)
  | .builtin .min, [x, y], _ => (mmV false (r x) (r y)).map fun v => (v, h)
  | _, _, _ => none
 | _ => none
theorem pairs_sim {r ρ : Operand → Value} (hr : ∀ x, VR μ (r x) (ρ x)) (ps : Array (Nat × Operand)) :
  (ps.toList.map fun p => (p.1, r p.2)).length = (ps.map fun (i, x) => (i, ρ x)).size ∧
  ∀ (j : Nat) (p cp : Nat × Value), (ps.toList.map fun p => (p.1, r p.2))[j]? = some p → (ps.map fun (i, x) => (i, ρ x))[j]? = some cp → p.1 = cp.1 ∧ VR μ p.2 cp.2 := by
 refine ⟨by simp, fun j p cp a b => ?_⟩
 simp only [List.getElem?_map, Option.map_eq_some_iff, Array.getElem?_map, Array.getElem?_toList] at a b
 obtain ⟨x, hx, rfl⟩ := a
 obtain ⟨y, hy, rfl⟩ := b
 rw [hx] at hy
 cases hy
 exact ⟨rfl, hr _⟩
theorem arr_sim {r ρ : Operand → Value} (hr : ∀ x, VR μ (r x) (ρ x)) (xs : Array Operand) : (xs.map r).size = (xs.map ρ).size ∧ ∀ (i : Nat) (v cv : Value), (xs.map r)[i]? = some v → (xs.map ρ)[i]? = some cv → VR μ v cv := by
 refine ⟨by simp, fun i v cv a b => ?_⟩
 simp only [Array.getElem?_map, Option.map_eq_some_iff] at a b
 obtain ⟨x, hx, rfl⟩ := a
 obtain ⟨y, hy, rfl⟩ := b
 rw [hx] at hy
 cases hy
 exact hr x
theorem map_some {α β : Type} {o : Option α} {f : α → β} {b : β} (h : o.map f = some b) : ∃ a, o = some a ∧ f a = b := Option.map_eq_some_iff.1 h
theorem opV_sim (hC : C.Ok P) (hs : Sim C μ h w) {o : Oper} {r ρ : Operand → Value} (hr : ∀ x, VR μ (r x) (ρ x)) {v : Value} {h' : VH} (hv : opV C o r h = some (v, h')) :
  ∃ cv w' μ', ((execOp ρ o).run P w = .ok (.value cv) w' ∨ ((execOp ρ o).run P w = .ok .skip w' ∧ cv = undef)) ∧ VR μ' v cv ∧ Step C μ h w μ' h' w' := by
 have quiet : ∀ {s : Sem Value} {v : Value}, (∃ cv, s.run P w = .ok cv w ∧ VR μ v cv) → ∀ (n : Sem Next), n = (do pure (.value (← s))) →
   ∃ cv w' μ', (n.run P w = .ok (.value cv) w' ∨ (n.run P w = .ok .skip w' ∧ cv = undef)) ∧ VR μ' v cv ∧ Step C μ h w μ' h w' := by
  rintro s v ⟨cv, h1, h2⟩ n rfl
  exact ⟨cv, w, μ, .inl (by simp [h1]), h2, Step.refl hs⟩
 have loud : ∀ {s : Sem Value} {v : Value} {h' : VH}, (∃ cv w' μ', s.run P w = .ok cv w' ∧ VR μ' v cv ∧ Step C μ h w μ' h' w') → ∀ (n : Sem Next), n = (do pure (.value (← s))) →
   ∃ cv w' μ', (n.run P w = .ok (.value cv) w' ∨ (n.run P w = .ok .skip w' ∧ cv = undef)) ∧ VR μ' v cv ∧ Step C μ h w μ' h' w' := by
  rintro s v h' ⟨cv, w', μ', h1, h2, h3⟩ n rfl
  exact ⟨cv, w', μ', .inl (by simp [h1]), h2, h3⟩
 obtain ⟨dst, op, type, pos, after, guard⟩ := o
 unfold opV at hv
 simp only at hv
 split at hv
 ·cases hv; exact ⟨_, w, μ, .inl rfl, hr _, Step.refl hs⟩
 ·cases hv; exact ⟨_, w, μ, .inl rfl, hr _, Step.refl hs⟩
 ·rename_i c a b
  split at hv
  ·rename_i t ht
   cases hv
   have hc := hr c
   rw [ht] at hc
   generalize hcc : ρ c = cc at hc
   cases hc
   refine ⟨if t then ρ a else ρ b, w, μ, .inl (by cases t <;> simp [execOp, hcc, asBool]), ?_, Step.refl hs⟩
   cases t
   ·simpa using hr b
   ·simpa using hr a
  ·cases hv
 ·exact loud (allocV_sim hC hs hv) _ rfl
 ·exact loud (boxV_sim hs (hr _) hv) _ rfl
 ·obtain ⟨v0, h1, h2⟩ := map_some hv
  cases h2
  exact quiet (buildV_sim hC (pairs_sim hr _).1 (pairs_sim hr _).2 h1) _ rfl
 ·exact loud (bSlV_sim hC hs (pairs_sim hr _).1 (pairs_sim hr _).2 hv) _ rfl
 ·obtain ⟨v0, h1, h2⟩ := map_some hv
  cases h2
  exact quiet (loadV_sim hC hs (hr _) h1) _ rfl
 ·obtain ⟨h0, h1, h2⟩ := map_some hv
  cases h2
  obtain ⟨w', h3, h4⟩ := storeV_sim hC hs (hr _) (hr _) h1
  exact ⟨undef, w', μ, .inr ⟨by simp [execOp, h3], rfl⟩, .junk _, h4⟩
 ·rename_i x
  split at hv
  ·rename_i a ha
   cases hv
   have hx := hr x
   rw [ha] at hx
   generalize hcc : ρ x = cc at hx
   cases hx with
   | ptr hb =>
    refine ⟨_, w, μ, .inl ?_, .ptr hb, Step.refl hs⟩
    simp [execOp, hcc]
  ·rename_i o nm fst cs ha
   cases hv
   have hx := hr x
   rw [ha] at hx
   generalize hcc : ρ x = cc at hx
   cases hx with
   | frP hf hz ho h1 =>
    refine ⟨_, w, μ, .inl ?_, .frP hf hz ho h1, Step.refl hs⟩
    simp [execOp, hcc]
  ·cases hv
 ·obtain ⟨v0, h1, h2⟩ := map_some hv
  cases h2
  exact quiet (binV_sim hC _ _ (hr _) (hr _) h1) _ rfl
 ·obtain ⟨v0, h1, h2⟩ := map_some hv
  cases h2
  exact quiet (unV_sim (hr _) h1) _ rfl
 ·obtain ⟨v0, h1, h2⟩ := map_some hv
  cases h2
  exact quiet (cvtV_sim hC (hr _) h1) _ rfl
 ·cases hv
  exact ⟨_, w, μ, .inl rfl, .func (arr_sim hr _).1 (arr_sim hr _).1 (arr_sim hr _).2 (arr_sim hr _).2, Step.refl hs⟩
 ·exact loud (mkSlV_sim hC hs (hr _) (hr _) hv) _ rfl
 ·obtain ⟨v0, h1, h2⟩ := map_some hv
  cases h2
  exact quiet (slcV_sim hC (hr _) (OptR.map _ hr) (OptR.map _ hr) (OptR.map _ hr) h1) _ rfl
 ·obtain ⟨v0, h1, h2⟩ := map_some hv
  cases h2
  exact quiet (fldAV_sim hC (hr _) h1) _ rfl
 ·obtain ⟨v0, h1, h2⟩ := map_some hv
  cases h2
  exact quiet (fldV_sim hC (hr _) h1) _ rfl
 ·obtain ⟨v0, h1, h2⟩ := map_some hv
  cases h2
  exact quiet (idxV_sim hC (hr _) (hr _) h1) _ rfl
 ·obtain ⟨v0, h1, h2⟩ := map_some hv
  cases h2
  exact quiet (extV_sim (hr _) h1) _ rfl
 ·obtain ⟨v0, h1, h2⟩ := map_some hv
  cases h2
  exact quiet (sixV_sim hC (hr _) (hr _) h1) _ rfl
 ·rename_i c
  obtain ⟨callee, args, argTypes⟩ := c
  simp only at hv
  have ofList : ∀ {α : Type} {a : Array α} {l : List α}, a.toList = l → a = l.toArray := fun h => by rw [← h]
  split at hv
  ·rename_i x t ha ht
   have ha := ofList ha
   have ht := ofList ht
   subst ha
   subst ht
   obtain ⟨v0, h1, h2⟩ := map_some hv
   cases h2
   obtain ⟨cv, h3, h4⟩ := lenV_sim (ty := type) (w := w) hC (hr x) h1
   exact ⟨cv, w, μ, .inl (by simp [execOp, resolve, invoke, builtin, h3]), h4, Step.refl hs⟩
  ·rename_i s x t t' ha ht
   have ha := ofList ha
   have ht := ofList ht
   subst ha
   subst ht
   split at hv
   ·rename_i htt
    subst htt
    obtain ⟨cv, w', μ', h3, h4, h5⟩ := appV_sim (ty := type) hC hs (hr s) (hr x) hv
    exact ⟨cv, w', μ', .inl (by simp [execOp, resolve, invoke, builtin, h3]), h4, h5⟩
   ·cases hv
  ·rename_i d x t t' ha ht
   have ha := ofList ha
   have ht := ofList ht
   subst ha
   subst ht
   obtain ⟨cv, w', h3, h4, h5⟩ := cpyV_sim (t2 := t') (ty := type) hC hs (hr d) (hr x) hv
   exact ⟨cv, w', μ, .inl (by simp [execOp, resolve, invoke, builtin, h3]), h4, h5⟩
  ·rename_i x y ha
   have ha := ofList ha
   subst ha
   obtain ⟨v0, h1, h2⟩ := map_some hv
   cases h2
   obtain ⟨cv, h3, h4⟩ := mmV_sim (P := P) (w := w) (ts := argTypes) (ty := type) (hr x) (hr y) h1
   simp only [if_true] at h3
   exact ⟨cv, w, μ, .inl (by simp [execOp, resolve, invoke, builtin, h3]), h4, Step.refl hs⟩
  ·rename_i x y ha
   have ha := ofList ha
   subst ha
   obtain ⟨v0, h1, h2⟩ := map_some hv
   cases h2
   obtain ⟨cv, h3, h4⟩ := mmV_sim (P := P) (w := w) (ts := argTypes) (ty := type) (hr x) (hr y) h1
   simp only [Bool.false_eq_true, if_false] at h3
   exact ⟨cv, w, μ, .inl (by simp [execOp, resolve, invoke, builtin, h3]), h4, Step.refl hs⟩
  ·cases hv
 ·cases hv
end Go.QM
end
