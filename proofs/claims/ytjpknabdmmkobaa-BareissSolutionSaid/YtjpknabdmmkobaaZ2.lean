/- Part 2 of the proof: QmFree, QmCode, QmDraw, QmAny. -/
import Derived.Test.YtjpknabdmmkobaaZ1
set_option linter.unusedVariables false
set_option linter.unusedSimpArgs false
section
namespace Go.QM
variable {P : Program} {C : Cfg} {μ : Mu} {h : VH} {w : World}
def fz1 (b : Nat) (B : Blk) : Value → Value
 | .slice (some ⟨b', off, none⟩) len cap => if b' = b ∧ off + len * B.sz ≤ B.cs.length then fS len ((B.cs.drop off).take (len * B.sz)).toArray else .slice (some ⟨b', off, none⟩) len cap
 | .pointer (some ⟨b', off, none⟩) => if b' = b then fP off B.cs.toArray else .pointer (some ⟨b', off, none⟩)
 | v => v
def fzT (b : Nat) (B : Blk) : Value → Value
 | .agg cs => .agg (cs.map (fz1 b B))
 | v => fz1 b B v
def nil1 : Value → Value
 | .slice none 0 0 => fS 0 #[]
 | v => v
def nilT : Value → Value
 | .agg cs => .agg (cs.map nil1)
 | v => nil1 v
inductive Fz (base : Nat) : Env → VH → Env → VH → Prop
 | refl (e : Env) (h : VH) : Fz base e h e h
 | junk {e e2 : Env} {h h2 : VH} (ts : List Nat) (k : Fz base (fun t => if ts.contains t then Un else e t) h e2 h2) : Fz base e h e2 h2
 | nils {e e2 : Env} {h h2 : VH} (ts : List Nat) (k : Fz base (fun t => if ts.contains t then nilT (e t) else e t) h e2 h2) : Fz base e h e2 h2
 | nilc {e e2 : Env} {h h2 : VH} (x : Nat) {X : Blk} (i : Nat) (hX : h.blk x = some X) (hx : base ≤ x) (k : Fz base e (h.set x (some ⟨X.ty, X.sz, X.cs.modify i nil1⟩)) e2 h2) : Fz base e h e2 h2
 | nilb {e e2 : Env} {h h2 : VH} (x : Nat) {X : Blk} (hX : h.blk x = some X) (hx : base ≤ x) (k : Fz base e (h.set x (some ⟨X.ty, X.sz, X.cs.map nil1⟩)) e2 h2) : Fz base e h e2 h2
 | env {e e2 : Env} {h h2 : VH} (ts : List Nat) (b : Nat) {B : Blk} (hB : h.blk b = some B) (hb : base ≤ b) (k : Fz base (fun t => if ts.contains t then fzT b B (e t) else e t) (h.set b none) e2 h2) : Fz base e h e2 h2
 | cell {e e2 : Env} {h h2 : VH} (x : Nat) {X : Blk} (i b : Nat) {B : Blk} (hX : h.blk x = some X) (hx : base ≤ x) (hB : h.blk b = some B) (hb : base ≤ b) (hne : x ≠ b)
   (k : Fz base e ((h.set b none).set x (some ⟨X.ty, X.sz, X.cs.modify i (fz1 b B)⟩)) e2 h2) : Fz base e h e2 h2
theorem Fz.trans {base : Nat} {e1 e2 e3 : Env} {h1 h2 h3 : VH} (a : Fz base e1 h1 e2 h2) (b : Fz base e2 h2 e3 h3) : Fz base e1 h1 e3 h3 := by
 induction a with
 | refl => exact b
 | junk ts _ ih => exact .junk ts (ih b)
 | nils ts _ ih => exact .nils ts (ih b)
 | nilc x i hX hx _ ih => exact .nilc x i hX hx (ih b)
 | nilb x hX hx _ ih => exact .nilb x hX hx (ih b)
 | env ts b' hB hb _ ih => exact .env ts b' hB hb (ih b)
 | cell x i b' hX hx hB hb hne _ ih => exact .cell x i b' hX hx hB hb hne (ih b)
theorem Step.recell (hs : Sim C μ h w) {x : Nat} {X : Blk} (hX : h.blk x = some X) (hx : C.base ≤ x) {cs : List Value} (hlen : cs.length = X.cs.length) (hv : ∀ m cur, μ x = some m → w.heap[m.k]? = some (.cells cur X.ty (0, 0)) → VRL μ X.cs (cur.toList.take X.cs.length) → VRL μ cs (cur.toList.take X.cs.length)) (ho : (∀ v ∈ X.cs, v.oneCell' = true) → ∀ v ∈ cs, v.oneCell' = true) :
  Step C μ h w μ (h.set x (some ⟨X.ty, X.sz, cs⟩)) w := by
 have live : ∀ y, (h.set x (some ⟨X.ty, X.sz, cs⟩)).blk y ≠ none → h.blk y ≠ none := by
  intro y hy
  by_cases hxb : y = x
  ·subst hxb; rw [hX]; simp
  ·simpa [VH.set, hxb] using hy
 refine ⟨Mu.le_refl _, ⟨?_, fun b1 b2 m1 m2 h1 h2 h3 h4 h5 => hs.inj b1 b2 m1 m2 h1 h2 h3 (live _ h4) (live _ h5), hs.dom, hs.rng, hs.glob, hs.fz, fun b1 m1 h1 h2 => hs.fzd b1 m1 h1 (live _ h2)⟩, rfl, rfl, rfl, Nat.le_refl _, Nat.le_refl _, fun _ _ _ => rfl, fun _ _ _ _ _ => rfl, fun y hy _ => (by
  have : y ≠ x := by omega
  simp [VH.set, this]), fun b m h1 h2 => (by rw [h1] at h2; cases h2), fun y hy hn => (by
  by_cases hxb : y = x
  ·subst hxb; rw [hX] at hn; cases hn
  ·simpa [VH.set, hxb] using hn), hs.dom, fun y z u _ => (by simp only [VH.set] at u; omega), fun _ _ x => .inl x⟩
 intro b' m' B' hb' hB'
 by_cases hxb : b' = x
 ·subst hxb
  simp only [VH.set, if_true, Option.some.injEq] at hB'
  subst hB'
  obtain ⟨cur, h1, h2, h3, h4, h5⟩ := hs.blk b' m' X hb' hX
  refine ⟨cur, h1, h2, h3, ?_, ho h5⟩
  simp only [hlen]
  exact hv _ _ hb' h1 h4
 ·simp only [VH.set, if_neg hxb] at hB'
  exact hs.blk b' m' B' hb' hB'
theorem nil1_sim {v cv : Value} (h : VR μ v cv) : VR μ (nil1 v) cv := by
 have h' := h
 cases h <;> first | exact h' | skip
 ·exact .frN
theorem map_sim {f : Value → Value} {μ' : Mu} (hf : ∀ v cv, VR μ v cv → VR μ' (f v) cv) (ho : ∀ v, v.oneCell' = true → (f v).oneCell' = true) {a : Array Value} {cv : Value} (h : VR μ (.agg a) cv) : VR μ' (.agg (a.map f)) cv := by
 cases h with
 | agg ha h1 h2 =>
  refine .agg (by simpa using ha) (fun v hv => ?_) (fun i v cv x y => ?_)
  ·simp only [Array.toList_map, List.mem_map] at hv
   obtain ⟨u, hu, rfl⟩ := hv
   exact ho _ (h1 u hu)
  ·simp only [Array.getElem?_map, Option.map_eq_some_iff] at x
   obtain ⟨u, hu, rfl⟩ := x
   exact hf _ _ (h2 i u cv hu y)
theorem nil1_one (v : Value) (h : v.oneCell' = true) : (nil1 v).oneCell' = true := by
 unfold nil1
 split
 ·rfl
 ·exact h
theorem nilT_sim {v cv : Value} (h : VR μ v cv) : VR μ (nilT v) cv := by
 unfold nilT
 split
 ·exact map_sim (fun v cv => nil1_sim) nil1_one h
 ·exact nil1_sim h
theorem VRL.modify {μ' : Mu} {f : Value → Value} (hm : μ.le μ') (hf : ∀ v cv, VR μ v cv → VR μ' (f v) cv) {l cl : List Value} (h : VRL μ l cl) (i : Nat) : VRL μ' (l.modify i f) cl := by
 refine ⟨by simp [h.1], fun j v cv x y => ?_⟩
 rw [List.getElem?_modify] at x
 split at x
 ·change Option.map f l[j]? = some v at x
  rw [Option.map_eq_some_iff] at x
  obtain ⟨u, hu, rfl⟩ := x
  exact hf _ _ (h.2 j u cv hu y)
 ·exact (h.2 j v cv (by simpa using x) y).mono hm
theorem one_modify {f : Value → Value} (ho : ∀ v, v.oneCell' = true → (f v).oneCell' = true) {l : List Value} (h : ∀ v ∈ l, v.oneCell' = true) (i : Nat) : ∀ v ∈ l.modify i f, v.oneCell' = true := by
 intro v hv
 obtain ⟨j, hj⟩ := List.getElem?_of_mem hv
 rw [List.getElem?_modify] at hj
 split at hj
 ·change Option.map f l[j]? = some v at hj
  rw [Option.map_eq_some_iff] at hj
  obtain ⟨u, hu, rfl⟩ := hj
  exact ho _ (h u (List.mem_of_getElem? hu))
 ·exact h v (List.mem_of_getElem? (by simpa using hj))
theorem fz1_one (b : Nat) (B : Blk) (v : Value) (h : v.oneCell' = true) : (fz1 b B v).oneCell' = true := by
 unfold fz1
 split
 ·split <;> rfl
 ·split <;> rfl
 ·exact h
theorem Step.freeze (hs : Sim C μ h w) {b : Nat} {B : Blk} (hB : h.blk b = some B) (hb : C.base ≤ b) :
  ∃ μ', (∀ y, μ' y = μ y) ∧ Step C μ h w μ' (h.set b none) w ∧ (∀ v cv, VR μ v cv → VR μ' (fz1 b B v) cv) ∧ ∀ v cv, VR μ v cv → VR μ' (fzT b B v) cv := by
 have live : ∀ y, (h.set b none).blk y ≠ none → h.blk y ≠ none ∧ y ≠ b := by
  intro y hy
  simp only [VH.set] at hy
  split at hy
  ·exact absurd rfl hy
  ·exact ⟨hy, by assumption⟩
 have same : ∀ y, y ≠ b → (h.set b none).blk y = h.blk y := fun y h1 => by simp [VH.set, h1]
 have lift : ∀ μ', (∀ v cv, VR μ v cv → VR μ' (fz1 b B v) cv) → ∀ v cv, VR μ v cv → VR μ' (fzT b B v) cv := by
  intro μ' h1 v cv hv
  unfold fzT
  split
  ·exact map_sim h1 (fz1_one b B) hv
  ·exact h1 _ _ hv
 cases hm : μ b with
 | none =>
  refine ⟨μ, fun _ => rfl, Step.kill hs hb, ?_⟩
  have k : ∀ v cv, VR μ v cv → VR μ (fz1 b B v) cv := by
   intro v cv hv
   have hv' := hv
   cases hv with
   | sl h1 =>
    simp only [fz1]
    rw [if_neg (fun e => by rw [e.1, hm] at h1; cases h1)]
    exact hv'
   | slE h1 =>
    simp only [fz1]
    rw [if_neg (fun e => by rw [e.1, hm] at h1; cases h1)]
    exact hv'
   | ptr h1 =>
    simp only [fz1]
    rw [if_neg (fun e => by rw [e, hm] at h1; cases h1)]
    exact hv'
   | _ => exact hv'
  exact ⟨k, lift _ k⟩
 | some m =>
  obtain ⟨cur, c1, c2, c3, c4, c5⟩ := hs.blk b m B hm hB
  have hclen : B.cs.length ≤ cur.size := by
   have := c4.1
   simp only [List.length_take, Array.length_toList] at this
   omega
  have hzn := hs.fzd b m hm (by rw [hB]; simp)
  let μ' : Mu := ⟨μ.m, fun k => if k = m.k then some cur else μ.z k⟩
  have hle : μ.le μ' := ⟨fun _ _ x => x, fun k c hk => by
   show (if k = m.k then _ else _) = _
   rw [if_neg (fun e => by rw [e, hzn] at hk; cases hk)]
   exact hk⟩
  have hnew : μ'.z m.k = some cur := if_pos rfl
  have inv : ∀ k c, μ'.z k = some c → (k = m.k ∧ c = cur) ∨ μ.z k = some c := by
   intro k c hk
   by_cases hkm : k = m.k
   ·subst hkm
    rw [hnew] at hk
    cases hk
    exact .inl ⟨rfl, rfl⟩
   ·exact .inr (by simpa only [μ', if_neg hkm] using hk)
  refine ⟨μ', fun _ => rfl, ⟨hle, ⟨fun b' m' B' h1 h2 => ?_, fun b1 b2 m1 m2 h1 h2 h3 h4 h5 => hs.inj b1 b2 m1 m2 h1 h2 h3 (live _ h4).1 (live _ h5).1, hs.dom, hs.rng, hs.glob, fun k c hk => ?_, fun b1 m1 h1 h2 => ?_⟩, rfl, rfl, rfl, Nat.le_refl _, Nat.le_refl _,
   fun _ _ _ => rfl, fun _ _ _ _ _ => rfl, fun y hy hn => same y (by omega), fun b m h1 h2 => (by rw [show μ b = some m from h1] at h2; cases h2), fun y hy hn => ?_, hs.dom, fun y h1 h2 _ => (by simp only [VH.set] at h2; omega), fun k c hk => ?_⟩, ?_⟩
  ·have hl := live b' (by rw [h2]; simp)
   rw [same b' hl.2] at h2
   obtain ⟨cu, d1, d2, d3, d4, d5⟩ := hs.blk b' m' B' h1 h2
   exact ⟨cu, d1, d2, d3, d4.mono hle, d5⟩
  ·rcases inv _ _ hk with ⟨rfl, rfl⟩ | hk
   ·exact ⟨_, _, c1⟩
   ·exact hs.fz _ _ hk
  ·have hl := live _ h2
   show (if m1.k = m.k then _ else _) = _
   rw [if_neg (fun e => hl.2 (hs.inj b1 b m1 m h1 hm e hl.1 (by rw [hB]; simp)))]
   exact hs.fzd b1 m1 h1 hl.1
  ·simp only [VH.set]
   split
   ·rfl
   ·exact hn
  ·rcases inv _ _ hk with ⟨rfl, rfl⟩ | hk
   ·exact .inr (.inr ⟨b, m, hm, by rw [hB]; simp, rfl⟩)
   ·exact .inl hk
  ·have k : ∀ v cv, VR μ v cv → VR μ' (fz1 b B v) cv := by
    intro v cv hv
    have hv' := hv.mono hle
    cases hv with
    | sl h1 hl hc h2 =>
     rename_i b' off len cap cap' m'
     simp only [fz1]
     split
     ·rename_i hcond
      obtain ⟨e, hcond⟩ := hcond
      subst e
      rw [hm] at h1
      cases h1
      have hsz : ((B.cs.drop off).take (len * B.sz)).toArray.size = len * B.sz := by simp; omega
      refine .frS hnew (by omega) (by rw [hsz]; omega) (fun v hv => c5 v (List.mem_of_mem_drop (List.mem_of_mem_take (by simpa using hv)))) (fun i v cv x y => ?_)
      have hi : i < len * B.sz := by
       have := (Array.getElem?_eq_some_iff.1 x).1
       omega
      have x' : ((B.cs.drop off).take (len * B.sz))[i]? = some v := by simpa using x
      rw [List.getElem?_take, if_pos hi, List.getElem?_drop] at x'
      refine (c4.2 (off + i) v cv x' ?_).mono hle
      rw [List.getElem?_take, if_pos (by omega)]
      simpa using y
     ·exact hv'
    | slE h1 h2 =>
     simp only [fz1]
     split
     ·simp only [Nat.zero_mul, List.take_zero]
      exact .frE _ _
     ·exact hv'
    | ptr h1 =>
     rename_i b' off m'
     simp only [fz1]
     split
     ·rename_i e
      subst e
      rw [hm] at h1
      cases h1
      have := VR.frP (base := 0) (off := off) (cs := B.cs.toArray) hnew (by simpa using hclen) (fun v hv => c5 v (by simpa using hv)) (fun i v cv x y => ?_)
      ·simpa using this
      ·have x' : B.cs[i]? = some v := by simpa using x
       refine (c4.2 i v cv x' ?_).mono hle
       rw [List.getElem?_take, if_pos (List.getElem?_eq_some_iff.1 x').1]
       simpa using y
     ·exact hv'
    | _ => exact hv'
   exact ⟨k, lift _ k⟩
theorem EnvR.frz {μ' : Mu} {e : Env} {a : Act} {f : Value → Value} (he : EnvR μ e a) (hm : μ.le μ') (hf : ∀ v cv, VR μ v cv → VR μ' (f v) cv) (hu : f Und = Und) (ts : List Nat) : EnvR μ' (fun t => if ts.contains t then f (e t) else e t) a := by
 intro t
 by_cases ht : ts.contains t = true
 ·simp only [ht, if_true]
  rcases he t with h1 | ⟨h1, h2⟩
  ·exact .inl (hf _ _ h1)
  ·exact .inr ⟨by rw [h1, hu], h2⟩
 ·simp only [ht, if_false]
  exact he.mono hm t
theorem Fz.sim {e e' : Env} {h h' : VH} (hf : Fz C.base e h e' h') : ∀ {μ : Mu} {w : World} {a : Act}, Sim C μ h w → EnvR μ e a → ∃ μ', Step C μ h w μ' h' w ∧ EnvR μ' e' a := by
 induction hf with
 | refl e h => intro μ w a hs he; exact ⟨μ, Step.refl hs, he⟩
 | junk ts k ih =>
  intro μ w a hs he
  refine ih hs (fun t => ?_)
  simp only
  split
  ·exact .inl (.junk _)
  ·exact he t
 | nils ts k ih =>
  intro μ w a hs he
  exact ih hs (he.frz (Mu.le_refl _) (fun v cv => nilT_sim) rfl ts)
 | nilc x i hX hx k ih =>
  intro μ w a hs he
  have hst := Step.recell (C := C) hs hX hx (cs := _) (by simp) (fun m cur _ _ hc => VRL.modify (Mu.le_refl _) (fun v cv => nil1_sim) hc i) (fun ho => one_modify nil1_one ho i)
  obtain ⟨μ2, h1, h2⟩ := ih hst.sim he
  exact ⟨μ2, hst.trans h1, h2⟩
 | nilb x hX hx k ih =>
  intro μ w a hs he
  have hst := Step.recell (C := C) hs hX hx (cs := _) (List.length_map _) (fun m cur _ _ hc => ⟨by rw [List.length_map]; exact hc.1, fun i v cv p q => by
   rw [List.getElem?_map, Option.map_eq_some_iff] at p
   obtain ⟨u, hu, rfl⟩ := p
   exact nil1_sim (hc.2 i u cv hu q)⟩) (fun ho v hv => by
   obtain ⟨u, hu, rfl⟩ := List.mem_map.1 hv
   exact nil1_one _ (ho u hu))
  obtain ⟨μ2, h1, h2⟩ := ih hst.sim he
  exact ⟨μ2, hst.trans h1, h2⟩
 | env ts b hB hb k ih =>
  intro μ w a hs he
  obtain ⟨μ1, _, h1, _, h2⟩ := Step.freeze hs hB hb
  obtain ⟨μ2, h3, h4⟩ := ih h1.sim (he.frz h1.le h2 rfl ts)
  exact ⟨μ2, h1.trans h3, h4⟩
 | cell x i b hX hx hB hb hne k ih =>
  intro μ w a hs he
  rename_i e0 e2 h0 h2 X B
  obtain ⟨μ1, fr, h1, h3, _⟩ := Step.freeze hs hB hb
  have hX' : (h0.set b none).blk x = some X := by
   simp only [VH.set]
   rw [if_neg hne, hX]
  have hst := Step.recell (C := C) h1.sim hX' hx (cs := X.cs.modify i (fz1 b B)) (by simp) (fun m cur hm hc _ => ?_) (fun ho => one_modify (fz1_one b B) ho i)
  ·obtain ⟨μ2, h4, h5⟩ := ih hst.sim (he.mono h1.le)
   exact ⟨μ2, h1.trans (hst.trans h4), h5⟩
  ·have hmx : μ x = some m := by rw [← fr x]; exact hm
   obtain ⟨cu, d1, d2, d3, d4, d5⟩ := hs.blk x m X hmx hX
   rw [hc] at d1
   cases d1
   exact VRL.modify h1.le h3 d4 i
end Go.QM
end

section
namespace Go.QM
variable {P : Program} {C : Cfg} {μ : Mu} {h : VH} {w : World}
abbrev CallRel := FuncId → List Value → VH → Value → VH → Prop
def wantE (ops : Array Oper) (e : Env) (o : Oper) : Option Bool :=
 match o.guard with
 | none => some true
 | some (j, b) => match (ops[j]?).bind (·.dst) with
  | some t => match e t with
   | .bool x => some (x == b)
   | .chan none => some false
   | _ => none
  | none => none
theorem wantE_sim {ops : Array Oper} {e : Env} {a : Act} (he : EnvR μ e a) {o : Oper} {b : Bool} (hw : wantE ops e o = some b) (hd : ∀ (j : Nat) (x : Oper) (t : Tmp), ops[j]? = some x → x.dst = some t → t < a.tmps.size) :
  Region.wanted o (yielded ops a.tmps) = b := by
 unfold wantE at hw
 unfold Region.wanted
 split at hw
 ·rename_i hg
  rw [hg]
  simpa using hw
 ·rename_i j want hg
  rw [hg]
  simp only
  split at hw
  ·rename_i t ht
   rw [Option.bind_eq_some_iff] at ht
   obtain ⟨x, hx, hxt⟩ := ht
   have hlt := hd j x t hx hxt
   have hy : yielded ops a.tmps j = match a.tmps.getD t undef with | .bool b => some b | _ => none := by
    simp only [yielded, hx, Option.bind_some, hxt, hlt, Array.getElem?_eq_getElem, Array.getD_eq_getD_getElem?, Option.getD_some]
    cases a.tmps[t] <;> rfl
   rw [hy]
   split at hw
   ·rename_i y hey
    have := he t
    rw [hey] at this
    rcases this with h1 | ⟨h1, _⟩
    ·generalize a.tmps.getD t undef = c at h1
     cases h1
     simpa using hw
    ·cases h1
   ·rename_i hey
    have := he t
    rw [hey] at this
    rcases this with h1 | ⟨_, h2⟩
    ·generalize a.tmps.getD t undef = c at h1
     cases h1
    ·rw [h2]
     simp only [undef]
     simpa using hw
   ·cases hw
  ·cases hw
def calleeV (o : Oper) (r : Operand → Value) : Option (FuncId × List Value) :=
 match o.op with
 | .call c => match c.callee with
  | .value f => match r f with
   | .func (.func g) first cap => some (g, first.toList ++ c.args.toList.map r ++ cap.toList)
   | _ => none
  | _ => none
 | _ => none
def VStep (C : Cfg) (call : CallRel) (ops : Array Oper) (o : Oper) (e : Env) (h : VH) (v : Value) (h1 : VH) : Prop :=
 match wantE ops e o with
 | some true => match calleeV o (rd C e) with
  | some (g, args) => call g args h v h1
  | none => opV C o (rd C e) h = some (v, h1)
 | some false => v = Und ∧ h1 = h
 | none => False
def VOps (C : Cfg) (call : CallRel) (ops : Array Oper) : List Oper → Env → VH → Env → VH → Prop
 | [], e, h, e', h' => e' = e ∧ h' = h
 | o :: os, e, h, e', h' => ∃ v h1, VStep C call ops o e h v h1 ∧ VOps C call ops os (e.put o.dst v) h1 e' h'
def Enters (P : Program) (g : FuncId) : Prop := ∃ fn body, P.funcs[g]? = some fn ∧ fn.body = some body ∧ (fn.name == "runtime.NumGoroutine") = false
def CallOk (P : Program) (C : Cfg) (call : CallRel) : Prop :=
 ∀ g args h v h1, call g args h v h1 → Enters P g ∧ ∀ (μ : Mu) (w : World) (cargs : List Value), Sim C μ h w → VRL μ args cargs →
  Calls P g cargs.toArray w fun e w' => ∃ cv μ', e = .returned cv ∧ VR μ' v cv ∧ Step C μ h w μ' h1 w'
theorem calleeV_sim {o : Oper} {r ρ : Operand → Value} (hr : ∀ x, VR μ (r x) (ρ x)) {g : FuncId} {args : List Value} (hc : calleeV o r = some (g, args))
  (hf : Enters P g) :
  ∃ cargs : List Value, VRL μ args cargs ∧ (execOp ρ o).run P w = .ok (.enter g cargs.toArray) w := by
 obtain ⟨fn, body, hf1, hf2, hf3⟩ := hf
 obtain ⟨dst, op, type, pos, after, guard⟩ := o
 unfold calleeV at hc
 simp only at hc
 split at hc
 ·rename_i c
  obtain ⟨callee, cargs, argTypes⟩ := c
  simp only at hc
  split at hc
  ·rename_i f
   split at hc
   ·rename_i g' first cap hrf
    cases hc
    have hx := hr f
    rw [hrf] at hx
    generalize hcc : ρ f = cc at hx
    cases hx with
    | func ha hb h1 h2 =>
     rename_i first' cap'
     refine ⟨first'.toList ++ cargs.toList.map ρ ++ cap'.toList, VRL.append (VRL.append ?_ ?_) ?_, ?_⟩
     ·exact ⟨by simpa using ha, fun i v cv x y => h1 i v cv (by simpa using x) (by simpa using y)⟩
     ·exact VRL.map _ (fun x _ => hr x)
     ·exact ⟨by simpa using hb, fun i v cv x y => h2 i v cv (by simpa using x) (by simpa using y)⟩
     ·have e1 : ((first'.toList ++ cargs.toList.map ρ ++ cap'.toList).toArray : Array Value) = first' ++ cargs.map ρ ++ cap' := by
       apply Array.ext'
       simp
      rw [e1]
      simp only [beq_eq_false_iff_ne] at hf3
      simp [execOp, resolve, hcc, Deferred.ofValue, invoke, callFunc, hf1, hf2, hf3]
   ·cases hc
  ·cases hc
 ·cases hc
theorem VStep.sim (hC : C.Ok P) {call : CallRel} (hcall : CallOk P C call) {ops : Array Oper} {i : Nat} {o : Oper} (ho : ops[i]? = some o) {e : Env} {a : Act} (hs : Sim C μ h w) (he : EnvR μ e a)
  (hd : ∀ (j : Nat) (x : Oper) (t : Tmp), ops[j]? = some x → x.dst = some t → t < a.tmps.size) {v : Value} {h1 : VH} (hv : VStep C call ops o e h v h1) {Q : Exit → Act → World → Prop} {K : Act → World → Prop}
  (hK : ∀ cv w' μ', (VR μ' v cv ∨ (v = Und ∧ cv = undef)) → Step C μ h w μ' h1 w' → K (a.put o.dst cv) w') : wpOp P ops Q i K a w := by
 unfold VStep at hv
 unfold wpOp
 simp only [ho]
 split at hv
 ·rename_i hw
  rw [if_pos (wantE_sim he hw hd)]
  left
  unfold Oper.wp
  split at hv
  ·rename_i g args hg
   obtain ⟨h4, h5⟩ := hcall _ _ _ _ _ hv
   obtain ⟨cargs0, h2, h3⟩ := calleeV_sim (w := w) (fun x => rd_sim hs he x) hg h4
   replace h5 := h5 μ w cargs0 hs h2
   rw [h3, Oper.upon_enter]
   refine h5.mono fun en w' ⟨cv, μ', he', hvr, hst⟩ => ?_
   subst he'
   exact hK cv w' μ' (.inl hvr) hst
  ·rename_i hg
   obtain ⟨cv, w', μ', h2, h3, h4⟩ := opV_sim hC hs (fun x => rd_sim hs he x) hv
   rcases h2 with h2 | ⟨h2, rfl⟩
   ·rw [h2, Oper.upon_value]
    exact hK cv w' μ' (.inl h3) h4
   ·rw [h2, Oper.upon_skip]
    exact hK _ w' μ' (.inl h3) h4
 ·rename_i hw
  rw [if_neg (by simp [wantE_sim he hw hd])]
  obtain ⟨rfl, rfl⟩ := hv
  exact hK undef w μ (.inr ⟨rfl, rfl⟩) (Step.refl hs)
 ·exact hv.elim
inductive LoopR (R : Env → VH → Exit → Env → VH → Prop) : Env → VH → Exit → Env → VH → Prop
 | leave {e : Env} {h : VH} {x : Exit} {e' : Env} {h' : VH} (hr : R e h x e' h') (hx : x ≠ .normal) : LoopR R e h x e' h'
 | again {e : Env} {h : VH} {e1 : Env} {h1 : VH} {x : Exit} {e' : Env} {h' : VH} (hr : R e h .normal e1 h1) (hl : LoopR R e1 h1 x e' h') : LoopR R e h x e' h'
def Exit.fair : Exit → Prop
 | .normal | .exit _ | .ret => True
 | _ => False
def VCode (C : Cfg) (call : CallRel) (draw : Array Oper → Env → VH → Env → VH → Prop) : Code → Env → VH → Exit → Env → VH → Prop
 | .skip, e, h, x, e', h' => x = .normal ∧ e' = e ∧ h' = h
 | .region _ ops d, e, h, x, e', h' => x = .normal ∧ if d then draw ops e h e' h' else VOps C call ops ops.toList e h e' h'
 | .seq a b, e, h, x, e', h' => (∃ e1 h1 e2 h2, VCode C call draw a e h .normal e1 h1 ∧ Fz C.base e1 h1 e2 h2 ∧ VCode C call draw b e2 h2 x e' h') ∨ (x ≠ .normal ∧ VCode C call draw a e h x e' h')
 | .cond c a b, e, h, x, e', h' => ∃ t, rd C e c = .bool t ∧ if t then VCode C call draw a e h x e' h' else VCode C call draw b e h x e' h'
 | .block id c, e, h, x, e', h' => ∃ y, VCode C call draw c e h y e' h' ∧ x = (match y with | .exit i => if i = id then .normal else .exit i | y => y)
 | .loop c, e, h, x, e', h' => LoopR (VCode C call draw c) e h x e' h'
 | .exit id, e, h, x, e', h' => x = .exit id ∧ e' = e ∧ h' = h
 | .ret, e, h, x, e', h' => x = .ret ∧ e' = e ∧ h' = h
 | _, _, _, _, _, _ => False
def wfOps (n : Nat) (ops : Array Oper) : Bool := ops.toList.all fun o => match o.dst with
 | some d => decide (d < n)
 | none => true
def wfCode (n : Nat) : Code → Bool
 | .region _ ops _ => wfOps n ops
 | .seq a b => wfCode n a && wfCode n b
 | .cond _ a b => wfCode n a && wfCode n b
 | .block _ c => wfCode n c
 | .loop c => wfCode n c
 | _ => true
theorem wfOps_spec {n : Nat} {ops : Array Oper} (hw : wfOps n ops = true) (j : Nat) (x : Oper) (t : Tmp) (hx : ops[j]? = some x) (ht : x.dst = some t) : t < n := by
 have := List.all_eq_true.1 hw x (by simpa using Array.mem_of_getElem? hx)
 rw [ht] at this
 simpa using this
theorem put_size {a : Act} {d : Option Tmp} {v : Value} : (a.put d v).tmps.size = a.tmps.size := by cases d <;> simp [Act.put]
theorem put_defers {a : Act} {d : Option Tmp} {v : Value} : (a.put d v).defers = a.defers := by cases d <;> simp [Act.put]
def Post (C : Cfg) (μ : Mu) (h : VH) (w : World) (a : Act) (e' : Env) (h' : VH) (a' : Act) (w' : World) : Prop :=
 ∃ μ', Step C μ h w μ' h' w' ∧ EnvR μ' e' a' ∧ a'.tmps.size = a.tmps.size ∧ a'.defers = a.defers
theorem VOps.sim (hC : C.Ok P) {call : CallRel} (hcall : CallOk P C call) {ops : Array Oper} {Q : Exit → Act → World → Prop} {h0 : VH} {w0 : World} {μ0 : Mu} {a0 : Act} {e' : Env} {h' : VH}
  (hQ : ∀ a' w', Post C μ0 h0 w0 a0 e' h' a' w' → Q .normal a' w') :
  ∀ (n i : Nat) (e : Env) (h : VH) (a : Act) (w : World) (μ : Mu), i + n = ops.size → Step C μ0 h0 w0 μ h w → EnvR μ e a → a.tmps.size = a0.tmps.size → a.defers = a0.defers → wfOps a0.tmps.size ops = true →
   VOps C call ops (ops.toList.drop i) e h e' h' → wpOps P ops Q (List.range' i n) a w
 | 0, i, e, h, a, w, μ, hi, hst, he, hsz, hdf, hwf, hv => by
  rw [List.drop_of_length_le (by simp; omega)] at hv
  obtain ⟨rfl, rfl⟩ := hv
  exact hQ _ _ ⟨μ, hst, he, hsz, hdf⟩
 | n + 1, i, e, h, a, w, μ, hi, hst, he, hsz, hdf, hwf, hv => by
  have hlt : i < ops.size := by omega
  rw [List.drop_eq_getElem_cons (by simpa using hlt)] at hv
  obtain ⟨v, h1, hv1, hv2⟩ := hv
  rw [List.range'_succ, wpOps_cons]
  have ho : ops[i]? = some ops[i] := by simp [hlt]
  have hd : ∀ (j : Nat) (x : Oper) (t : Tmp), ops[j]? = some x → x.dst = some t → t < a.tmps.size := fun j x t a b => by rw [hsz]; exact wfOps_spec hwf j x t a b
  refine VStep.sim hC hcall ho hst.sim he hd (by simpa using hv1) fun cv w' μ' hcv hst' => ?_
  refine VOps.sim hC hcall hQ n (i + 1) _ h1 _ w' μ' (by omega) (hst.trans hst') ((he.mono hst'.le).put hcv (fun t ht => hd i _ t ho ht)) (by rw [put_size, hsz]) (by rw [put_defers, hdf]) hwf (by simpa using hv2)
def DrawOk (P : Program) (C : Cfg) (draw : Array Oper → Env → VH → Env → VH → Prop) : Prop :=
 ∀ ops e h e' h', draw ops e h e' h' → ∀ (id : Nat) (μ : Mu) (a : Act) (w : World), Sim C μ h w → EnvR μ e a → wfOps a.tmps.size ops = true →
  (Code.region id ops true).wp P (fun x' a' w' => x' = .normal ∧ Post C μ h w a e' h' a' w') a w
theorem Post.trans {h0 h1 h2 : VH} {w0 w1 w2 : World} {μ0 : Mu} {a0 a1 a2 : Act} {e2 : Env} {μ1 : Mu} (hs : Step C μ0 h0 w0 μ1 h1 w1) (hsz : a1.tmps.size = a0.tmps.size) (hdf : a1.defers = a0.defers)
  (h : Post C μ1 h1 w1 a1 e2 h2 a2 w2) : Post C μ0 h0 w0 a0 e2 h2 a2 w2 := by
 obtain ⟨μ2, h3, h4, h5, h6⟩ := h
 exact ⟨μ2, hs.trans h3, h4, h5.trans hsz, h6.trans hdf⟩
theorem VCode.sim (hC : C.Ok P) {call : CallRel} (hcall : CallOk P C call) {draw : Array Oper → Env → VH → Env → VH → Prop} (hdraw : DrawOk P C draw) :
  ∀ (c : Code) (e : Env) (h : VH) (x : Exit) (e' : Env) (h' : VH) (μ : Mu) (a : Act) (w : World), VCode C call draw c e h x e' h' → Sim C μ h w → EnvR μ e a → wfCode a.tmps.size c = true →
   c.wp P (fun x' a' w' => x' = x ∧ Post C μ h w a e' h' a' w') a w := by
 intro c
 induction c with
 | skip =>
  rintro e h x e' h' μ a w ⟨rfl, rfl, rfl⟩ hs he _
  exact wp_skip ⟨rfl, μ, Step.refl hs, he, rfl, rfl⟩
 | region id ops d =>
  rintro e h x e' h' μ a w ⟨rfl, hv⟩ hs he hwf
  cases d with
  | true => exact hdraw _ _ _ _ _ hv id μ a w hs he hwf
  | false =>
   simp only [Bool.false_eq_true, if_false] at hv
   refine wp_region ?_
   rw [List.range_eq_range']
   exact VOps.sim hC hcall (fun a' w' hp => ⟨rfl, hp⟩) ops.size 0 e h a w μ (by omega) (Step.refl hs) he rfl rfl hwf (by simpa using hv)
 | seq c1 c2 ih1 ih2 =>
  rintro e h x e' h' μ a w hv hs he hwf
  simp only [wfCode, Bool.and_eq_true] at hwf
  refine wp_seq ?_
  rcases hv with ⟨e1, h1, e2, h2, hv1, hfz, hv2⟩ | ⟨hx, hv⟩
  ·refine wp_mono (ih1 _ _ _ _ _ μ a w hv1 hs he hwf.1) ?_
   rintro x' a' w' ⟨rfl, μ1, hst, he1, hsz, hdf⟩
   obtain ⟨μ2, hst2, he2⟩ := hfz.sim hst.sim he1
   refine wp_mono (ih2 _ _ _ _ _ μ2 a' w' hv2 hst2.sim he2 (by rw [hsz]; exact hwf.2)) ?_
   rintro x2 a2 w2 ⟨rfl, hp⟩
   exact ⟨rfl, hp.trans (hst.trans hst2) hsz hdf⟩
  ·refine wp_mono (ih1 _ _ _ _ _ μ a w hv hs he hwf.1) ?_
   rintro x' a' w' ⟨rfl, hp⟩
   cases x' <;> first | exact absurd rfl hx | exact ⟨rfl, hp⟩
 | cond c c1 c2 ih1 ih2 =>
  rintro e h x e' h' μ a w ⟨t, ht, hv⟩ hs he hwf
  simp only [wfCode, Bool.and_eq_true] at hwf
  have hc := rd_sim hs he c
  rw [ht] at hc
  have hc' : a.eval c = .bool t := by
   generalize a.eval c = cc at hc
   cases hc
   rfl
  refine wp_cond hc' ?_
  cases t with
  | true => exact ih1 _ _ _ _ _ μ a w (by simpa using hv) hs he hwf.1
  | false => exact ih2 _ _ _ _ _ μ a w (by simpa using hv) hs he hwf.2
 | block id c ih =>
  rintro e h x e' h' μ a w ⟨y, hv, rfl⟩ hs he hwf
  refine wp_block (wp_mono (ih _ _ _ _ _ μ a w hv hs he hwf) ?_)
  rintro x' a' w' ⟨rfl, hp⟩
  cases x' with
  | exit i =>
   simp only [Exit.inBlock]
   split
   ·exact ⟨rfl, hp⟩
   ·exact ⟨rfl, hp⟩
  | _ => exact ⟨rfl, hp⟩
 | loop c ih =>
  rintro e h x e' h' μ a w hv hs he hwf
  intro b k cs
  have key : ∀ (a : Act) (w : World) (μ : Mu), Sim C μ h w → EnvR μ e a → wfCode a.tmps.size c = true →
    ∃ e2 a' w', (e2 = x ∧ Post C μ h w a e' h' a' w') ∧ Arrives P (lone (b.at a (.code c :: .inLoop c :: k)) cs w) b k cs e2 a' w' := by
   clear he hs hwf
   have hv' : LoopR (VCode C call draw c) e h x e' h' := hv
   clear hv
   induction hv' with
   | leave hr hx =>
    intro a w μ hs he hwf
    rename_i ee hh xx ee' hh'
    obtain ⟨y, a1, w1, ⟨rfl, hp⟩, harr⟩ := ih _ _ _ _ _ μ a w hr hs he hwf b (.inLoop c :: k) cs
    exact ⟨_, a1, w1, ⟨rfl, hp⟩, .pass (x := .inLoop c) rfl (fun _ _ => .inl hx) harr⟩
   | again hr hl ihl =>
    intro a w μ hs he hwf
    obtain ⟨y, a1, w1, ⟨rfl, μ1, hst, he1, hsz, hdf⟩, harr⟩ := ih _ _ _ _ _ μ a w hr hs he hwf b (.inLoop c :: k) cs
    obtain ⟨e2, a2, w2, ⟨rfl, hp⟩, harr2⟩ := ihl a1 w1 μ1 hst.sim he1 (by rw [hsz]; exact hwf)
    exact ⟨_, a2, w2, ⟨rfl, hp.trans hst hsz hdf⟩, .of_steps (Steps.trans harr (.one step_inLoop)) harr2⟩
  obtain ⟨e2, a', w', h1, harr⟩ := key a w μ hs he hwf
  exact ⟨e2, a', w', h1, .of_steps (.one step_loop) harr⟩
 | exit id =>
  rintro e h x e' h' μ a w ⟨rfl, rfl, rfl⟩ hs he _
  exact wp_exit ⟨rfl, μ, Step.refl hs, he, rfl, rfl⟩
 | ret =>
  rintro e h x e' h' μ a w ⟨rfl, rfl, rfl⟩ hs he _
  exact wp_ret ⟨rfl, μ, Step.refl hs, he, rfl, rfl⟩
 | _ =>
  intro e h x e' h' μ a w hv
  exact hv.elim
def resV (C : Cfg) (e : Env) (h : VH) : ResultVar → Option Value
 | .tmp t => some (seen (e t))
 | .cell a t => loadV C t (e a) h
def ressV (C : Cfg) (fn : Func) (e : Env) (h : VH) : Option Value :=
 match fn.results.toList.mapM (resV C e h) with
 | some [v] => some v
 | some vs => some (.tuple vs.toArray)
 | none => none
def env0 (args : List Value) : Env := fun t => (args[t]?).getD Und
def VCall (P : Program) (C : Cfg) (draw : CallRel → Array Oper → Env → VH → Env → VH → Prop) : Nat → CallRel
 | 0, _, _, _, _, _ => False
 | n + 1, g, args, h, v, h1 => ∃ fn body e0 h0 e1 h2 e' x, P.funcs[g]? = some fn ∧ fn.body = some body ∧ (fn.name == "runtime.NumGoroutine") = false ∧ wfCode fn.ntmps body = true ∧ args.length ≤ fn.ntmps ∧
   Fz C.base (env0 args) h e0 h0 ∧ VCode C (VCall P C draw n) (draw (VCall P C draw n)) body e0 h0 x e1 h2 ∧ (x = .normal ∨ x = .ret) ∧ Fz C.base e1 h2 e' h1 ∧ ressV C fn e' h1 = some v
theorem loadV_asAddr {t : TypeId} {x cx v : Value} (hC : C.Ok P) (hs : Sim C μ h w) (hx : VR μ x cx) (hv : loadV C t x h = some v) : ∃ cv, (do loadVar t (← asAddr cx) : Sem Value).run P w = .ok cv w ∧ VR μ v cv := by
 have h0 := loadV_sim hC hs hx hv
 unfold loadV at hv
 split at hv
 ·cases hx with
  | ptr hb =>
   obtain ⟨cv, h1, h2⟩ := h0
   exact ⟨cv, by simpa [asAddr, Instr.loadAt, Instr.sureAddr] using h1, h2⟩
 ·clear hv
  cases hx with
  | frP hf =>
   obtain ⟨cv, h1, h2⟩ := h0
   exact ⟨cv, by simpa [asAddr, Instr.loadAt, Instr.sureAddr] using h1, h2⟩
 ·cases hv
theorem run_resV (hC : C.Ok P) (hs : Sim C μ h w) {e : Env} {a : Act} (he : EnvR μ e a) (f : ResultVar → Sem Value) (f1 : ∀ t, f (.tmp t) = pure (a.tmps.getD t undef)) (f2 : ∀ x t, f (.cell x t) = (do loadVar t (← asAddr (a.tmps.getD x undef)))) : ∀ (rs : List ResultVar) (vs : List Value), rs.mapM (resV C e h) = some vs →
  ∃ cvs, (rs.mapM f).run P w = .ok cvs w ∧ VRL μ vs cvs
 | [], vs, hv => by
  simp only [List.mapM_nil] at hv
  cases hv
  exact ⟨[], rfl, VRL.nil _⟩
 | r :: rs, vs, hv => by
  rw [List.mapM_cons] at hv
  simp only [bind, Option.bind_eq_some_iff, pure] at hv
  obtain ⟨v, hv1, vs', hv2, hv3⟩ := hv
  cases hv3
  obtain ⟨cvs, h1, h2⟩ := run_resV hC hs he f f1 f2 rs vs' hv2
  have h3 : ∃ cv, (f r).run P w = .ok cv w ∧ VR μ v cv := by
   cases r with
   | tmp t =>
    rw [f1]
    simp only [resV, Option.some.injEq] at hv1
    subst hv1
    exact ⟨_, rfl, seen_sim (he t)⟩
   | cell x t =>
    rw [f2]
    simp only [resV] at hv1
    rcases he x with hx | ⟨hx, _⟩
    ·exact loadV_asAddr hC hs hx hv1
    ·rw [hx] at hv1
     simp [loadV] at hv1
  obtain ⟨cv, h4, h5⟩ := h3
  refine ⟨cv :: cvs, ?_, VRL.cons h5 h2⟩
  rw [List.mapM_cons]
  simp only [Sem.run_bind, h4, Result.andThen_ok, h1, Sem.run_pure]
theorem ressV_sim (hC : C.Ok P) (hs : Sim C μ h w) {e : Env} {a : Act} (he : EnvR μ e a) {fn : Func} {v : Value} (hv : ressV C fn e h = some v) : ∃ cv, (results fn a.tmps).run P w = .ok cv w ∧ VR μ v cv := by
 unfold ressV at hv
 have key : ∀ vs, fn.results.toList.mapM (resV C e h) = some vs → ∃ cvs : List Value, (results fn a.tmps).run P w = .ok (if h : cvs.toArray.size = 1 then cvs.toArray[0] else .tuple cvs.toArray) w ∧ VRL μ vs cvs := by
  intro vs hvs
  unfold results
  rw [Sem.run_bind, Array.mapM_eq_mapM_toList, Sem.run_map]
  obtain ⟨cvs, h1, h2⟩ := run_resV hC hs he (fun | .tmp t => pure (a.tmps.getD t undef) | .cell x t => do loadVar t (← asAddr (a.tmps.getD x undef))) (fun _ => rfl) (fun _ _ => rfl) _ _ hvs
  refine ⟨cvs, ?_, h2⟩
  refine Eq.trans (congrArg (fun r => (Result.andThen (Result.andThen r fun a w' => .ok a.toArray w') fun a w' => Sem.run P (pure (if h : a.size = 1 then a[0] else Value.tuple a)) w')) h1) ?_
  rfl
 split at hv
 ·rename_i v0 hm
  cases hv
  obtain ⟨cvs, h1, h2⟩ := key _ hm
  obtain ⟨cv, h3, h4⟩ := h2.get (i := 0) (v := v) rfl
  have hl : cvs.length = 1 := h2.1.symm
  refine ⟨cv, ?_, h4⟩
  rw [h1]
  congr 1
  rw [dif_pos (by simpa using hl)]
  have : cvs[0]? = some cv := h3
  simp only [List.getElem_toArray]
  rw [List.getElem?_eq_getElem (by omega)] at this
  exact Option.some.inj this
 ·rename_i vs hne hm
  cases hv
  obtain ⟨cvs, h1, h2⟩ := key _ hm
  refine ⟨.tuple cvs.toArray, ?_, .tuple_of (by simpa using h2)⟩
  rw [h1]
  congr 1
  rw [dif_neg]
  intro hl
  have hl2 : vs.length = 1 := by rw [h2.1]; simpa using hl
  match vs, hl2 with
  | [v], _ => exact hne v rfl
 ·cases hv
theorem VCall.ok (hC : C.Ok P) {draw : CallRel → Array Oper → Env → VH → Env → VH → Prop} (hdraw : ∀ call, CallOk P C call → DrawOk P C (draw call)) : ∀ n, CallOk P C (VCall P C draw n)
 | 0 => fun g args h v h1 hv => hv.elim
 | n + 1 => fun g args h v h1 hv => by
  obtain ⟨fn, body, e0, h0, e1, h2, e', x, hf, hb, hn, hwf, hlen, hfz1, hcode, hx, hfz2, hres⟩ := hv
  refine ⟨⟨fn, body, hf, hb, hn⟩, fun μ w cargs hs hargs => ?_⟩
  have ih := VCall.ok hC hdraw n
  have hsz : (cargs.toArray ++ Array.replicate (fn.ntmps - cargs.toArray.size) undef).size = fn.ntmps := by
   have := hargs.1
   simp
   omega
  have he0 : EnvR μ (env0 args) { tmps := cargs.toArray ++ Array.replicate (fn.ntmps - cargs.toArray.size) undef, defers := [] } := by
   intro t
   simp only [env0]
   by_cases ht : t < args.length
   ·left
    have ht' : t < cargs.length := by rw [← hargs.1]; exact ht
    have e1 : (cargs.toArray ++ Array.replicate (fn.ntmps - cargs.toArray.size) undef).getD t undef = cargs[t] := by
     rw [Array.getD_eq_getD_getElem?, Array.getElem?_append_left (by simpa using ht')]
     simp [ht']
    rw [e1]
    simp only [ht, List.getElem?_eq_getElem, Option.getD_some]
    exact hargs.2 t _ _ (by simp [ht]) (by simp [ht'])
   ·right
    refine ⟨by simp [List.getElem?_eq_none (Nat.le_of_not_lt ht)], ?_⟩
    have ht' : ¬ t < cargs.length := by rw [← hargs.1]; exact ht
    rw [Array.getD_eq_getD_getElem?, Array.getElem?_append_right (by simpa using ht'), Array.getElem?_replicate]
    split <;> rfl
  obtain ⟨μ0, hst0, he0⟩ := hfz1.sim hs he0
  refine calls_of_wp hf hb ?_
  refine wp_mono (VCode.sim hC ih (hdraw _ ih) body _ h0 x e1 h2 μ0 _ w hcode hst0.sim he0 (by simp only [hsz]; exact hwf)) ?_
  rintro x' a' w' ⟨rfl, μ1, hst, he1, hsz1, hdf⟩
  obtain ⟨μ2, hst2, he2⟩ := hfz2.sim hst.sim he1
  obtain ⟨cv, h3, h4⟩ := ressV_sim hC hst2.sim he2 hres
  have : a'.defers = [] := hdf
  have hall := hst0.trans (hst.trans hst2)
  rcases hx with rfl | rfl
  ·exact ⟨this, cv, h3, cv, μ2, rfl, h4, hall⟩
  ·exact ⟨this, cv, h3, cv, μ2, rfl, h4, hall⟩
end Go.QM
end

section
namespace Go.QM
variable {P : Program} {C : Cfg} {μ : Mu} {h : VH} {w : World}
def heapy (o : Oper) : Bool :=
 match o.op with
 | .store _ _ _ => true
 | .call c => match c.callee with
  | .value _ => true
  | .builtin .append => true
  | .builtin .copy => true
  | _ => false
 | _ => false
def makesy (o : Oper) : Bool :=
 match o.op with
 | .alloc _ | .box _ _ | .buildSlice _ _ _ | .makeSlice _ _ _ => true
 | _ => false
def loady (o : Oper) : Bool :=
 match o.op with
 | .load _ _ => true
 | _ => false
theorem opV_still {o : Oper} {r : Operand → Value} {v : Value} {h' : VH} (hv : opV C o r h = some (v, h')) (h1 : heapy o = false) (h2 : makesy o = false) :
  h' = h ∧ (loady o = false → ∀ g : VH, opV C o r g = some (v, g)) ∧
  ∀ t a, o.op = .load t a → (∀ g : VH, opV C o r g = some (v, g)) ∨ ∃ b off, r a = .pointer (some ⟨b, off, none⟩) ∧ ∀ g : VH, g.blk b = h.blk b → opV C o r g = some (v, g) := by
 obtain ⟨dst, op, type, pos, after, guard⟩ := o
 unfold opV at hv
 simp only at hv
 have nl : ∀ {Q : Prop} {t : TypeId} {a : Operand} {op : Op}, (∀ t a, op ≠ .load t a) → op = .load t a → Q := fun hn e => absurd e (hn _ _)
 split at hv
 ·cases hv; exact ⟨rfl, fun _ g => rfl, fun t a e => by cases e⟩
 ·cases hv; exact ⟨rfl, fun _ g => rfl, fun t a e => by cases e⟩
 ·rename_i c a b
  split at hv
  ·rename_i t ht
   cases hv
   exact ⟨rfl, fun _ g => by unfold opV; simp only [ht], fun t a e => by cases e⟩
  ·cases hv
 ·simp [makesy] at h2
 ·simp [makesy] at h2
 ·obtain ⟨v0, h3, h4⟩ := map_some hv
  cases h4
  exact ⟨rfl, fun _ g => by unfold opV; simp only [h3, Option.map_some], fun t a e => by cases e⟩
 ·simp [makesy] at h2
 ·rename_i t a
  obtain ⟨v0, h3, h4⟩ := map_some hv
  cases h4
  refine ⟨rfl, fun hl => by simp [loady] at hl, fun t' a' e => ?_⟩
  cases e
  have h5 := h3
  unfold loadV at h5
  split at h5
  ·rename_i b off i hra hi
   refine .inr ⟨b, off, hra, fun g hg => ?_⟩
   unfold opV
   have : loadV C t (r a) g = some v := by
    rw [← h3]
    unfold loadV
    rw [hra, hi]
    simp only [rdN, rd1, hg]
   simp only [this, Option.map_some]
  ·rename_i hra hi
   refine .inl fun g => ?_
   unfold opV
   have : loadV C t (r a) g = some v := by
    rw [← h3]
    unfold loadV
    rw [hra, hi]
   simp only [this, Option.map_some]
  ·cases h5
 ·simp [heapy] at h1
 ·rename_i x
  split at hv
  ·rename_i a ha
   cases hv
   exact ⟨rfl, fun _ g => by unfold opV; simp only [ha], fun t a e => by cases e⟩
  ·rename_i ha
   cases hv
   exact ⟨rfl, fun _ g => by unfold opV; simp only [ha], fun t a e => by cases e⟩
  ·cases hv
 ·obtain ⟨v0, h3, h4⟩ := map_some hv
  cases h4
  exact ⟨rfl, fun _ g => by unfold opV; simp only [h3, Option.map_some], fun t a e => by cases e⟩
 ·obtain ⟨v0, h3, h4⟩ := map_some hv
  cases h4
  exact ⟨rfl, fun _ g => by unfold opV; simp only [h3, Option.map_some], fun t a e => by cases e⟩
 ·obtain ⟨v0, h3, h4⟩ := map_some hv
  cases h4
  exact ⟨rfl, fun _ g => by unfold opV; simp only [h3, Option.map_some], fun t a e => by cases e⟩
 ·cases hv; exact ⟨rfl, fun _ g => rfl, fun t a e => by cases e⟩
 ·simp [makesy] at h2
 ·obtain ⟨v0, h3, h4⟩ := map_some hv
  cases h4
  exact ⟨rfl, fun _ g => by unfold opV; simp only [h3, Option.map_some], fun t a e => by cases e⟩
 ·obtain ⟨v0, h3, h4⟩ := map_some hv
  cases h4
  exact ⟨rfl, fun _ g => by unfold opV; simp only [h3, Option.map_some], fun t a e => by cases e⟩
 ·obtain ⟨v0, h3, h4⟩ := map_some hv
  cases h4
  exact ⟨rfl, fun _ g => by unfold opV; simp only [h3, Option.map_some], fun t a e => by cases e⟩
 ·obtain ⟨v0, h3, h4⟩ := map_some hv
  cases h4
  exact ⟨rfl, fun _ g => by unfold opV; simp only [h3, Option.map_some], fun t a e => by cases e⟩
 ·obtain ⟨v0, h3, h4⟩ := map_some hv
  cases h4
  exact ⟨rfl, fun _ g => by unfold opV; simp only [h3, Option.map_some], fun t a e => by cases e⟩
 ·obtain ⟨v0, h3, h4⟩ := map_some hv
  cases h4
  exact ⟨rfl, fun _ g => by unfold opV; simp only [h3, Option.map_some], fun t a e => by cases e⟩
 ·rename_i c
  obtain ⟨callee, args, argTypes⟩ := c
  simp only at hv
  split at hv
  ·rename_i x t ha ht
   obtain ⟨v0, h3, h4⟩ := map_some hv
   cases h4
   exact ⟨rfl, fun _ g => by unfold opV; simp only [ha, ht, h3, Option.map_some], fun t a e => by cases e⟩
  ·simp [heapy] at h1
  ·simp [heapy] at h1
  ·rename_i x y ha
   obtain ⟨v0, h3, h4⟩ := map_some hv
   cases h4
   exact ⟨rfl, fun _ g => by unfold opV; simp only [ha, h3, Option.map_some], fun t a e => by cases e⟩
  ·rename_i x y ha
   obtain ⟨v0, h3, h4⟩ := map_some hv
   cases h4
   exact ⟨rfl, fun _ g => by unfold opV; simp only [ha, h3, Option.map_some], fun t a e => by cases e⟩
  ·cases hv
 ·cases hv
theorem opV_makes {o : Oper} {r : Operand → Value} {v : Value} {h' : VH} (hv : opV C o r h = some (v, h')) (h2 : makesy o = true) :
  ∃ B, h' = h.push B ∧ ∀ g : VH, g.next = h.next → opV C o r g = some (v, g.push B) := by
 obtain ⟨dst, op, type, pos, after, guard⟩ := o
 unfold opV at hv
 simp only at hv
 split at hv <;> try (simp [makesy] at h2; done)
 ·rename_i t
  have h3 := hv
  unfold allocV at h3
  obtain ⟨i, h4, h5⟩ := map_some h3
  cases h5
  exact ⟨_, rfl, fun g hg => by unfold opV; simp only [allocV, h4, Option.map_some, newAt, hg]⟩
 ·rename_i t x
  have h3 := hv
  unfold boxV at h3
  obtain ⟨i, h4, h5⟩ := map_some h3
  cases h5
  exact ⟨_, rfl, fun g hg => by unfold opV; simp only [boxV, h4, Option.map_some, newAt, hg]⟩
 ·rename_i t n ps
  have h3 := hv
  unfold bSlV at h3
  split at h3
  ·rename_i e s1 b1 z hi
   rw [Option.bind_eq_some_iff] at h3
   obtain ⟨i, he, h3⟩ := h3
   split at h3
   ·rename_i hc
    obtain ⟨l, h4, h5⟩ := map_some h3
    cases h5
    exact ⟨_, rfl, fun g hg => by unfold opV; simp only [bSlV, hi, he, Option.bind_some, if_pos hc, h4, Option.map_some, hg]⟩
   ·cases h3
  ·cases h3
 ·rename_i t l c
  have h3 := hv
  unfold mkSlV at h3
  split at h3
  ·rename_i kl l' kc c' e s1 b1 z hi hrl hrc
   rw [Option.bind_eq_some_iff] at h3
   obtain ⟨i, he, h3⟩ := h3
   split at h3
   ·rename_i hc
    cases h3
    exact ⟨_, rfl, fun g hg => by unfold opV; simp only [mkSlV, hrl, hrc, hi, he, Option.bind_some, if_pos hc, hg]⟩
   ·cases h3
  ·cases h3
theorem opV_congr {o : Oper} {r r' : Operand → Value} (hr : ∀ x ∈ o.op.operands, r x = r' x) : opV C o r h = opV C o r' h := by
 obtain ⟨dst, op, type, pos, after, guard⟩ := o
 have pairs : ∀ ps : Array (Nat × Operand), (∀ x ∈ ps.map (·.2), r x = r' x) → (ps.toList.map fun p => (p.1, r p.2)) = (ps.toList.map fun p => (p.1, r' p.2)) := fun ps hp =>
  List.map_congr_left fun p hm => by rw [hp p.2 (Array.mem_map.2 ⟨p, by simpa using hm, rfl⟩)]
 have opt : ∀ x : Option Operand, (∀ y ∈ x.toArray, r y = r' y) → x.map r = x.map r' := fun x hx => by
  cases x with
  | none => rfl
  | some y => simp [hx y (by simp)]
 cases op <;> simp only [Op.operands] at hr <;> simp only [opV]
 case move x => rw [hr x (by simp)]
 case assign x => rw [hr x (by simp)]
 case pick c a b => rw [hr c (by simp), hr a (by simp), hr b (by simp)]
 case box t x => rw [hr x (by simp)]
 case build t ps => rw [pairs ps fun x hx => hr x (by simpa using hx)]
 case buildSlice t n ps => rw [pairs ps fun x hx => hr x (by simpa using hx)]
 case load t a => rw [hr a (by simp)]
 case store t a x => rw [hr a (by simp), hr x (by simp)]
 case nilCheck x => rw [hr x (by simp)]
 case binOp op t x y yt => rw [hr x (by simp), hr y (by simp)]
 case unOp op t x => rw [hr x (by simp)]
 case convert s d x => rw [hr x (by simp)]
 case makeFunc fn first cap =>
  cases fn <;> simp only
  rw [Array.map_congr_left fun x hx => hr x (by simp [hx]), Array.map_congr_left (xs := cap) fun x hx => hr x (by simp [hx])]
 case makeSlice t l c => rw [hr l (by simp), hr c (by simp)]
 case slice t x lo hi mx =>
  rw [hr x (by simp), opt lo fun y hy => hr y (by simp at hy; simp [hy]), opt hi fun y hy => hr y (by simp at hy; simp [hy]), opt mx fun y hy => hr y (by simp at hy; simp [hy])]
 case fieldAddr s x f => rw [hr x (by simp)]
 case field t x f => rw [hr x (by simp)]
 case indexAddr t x i => rw [hr x (by simp), hr i (by simp)]
 case extract x j => rw [hr x (by simp)]
 case index t x i => rw [hr x (by simp), hr i (by simp)]
 case call c =>
  obtain ⟨callee, args, argTypes⟩ := c
  have ha : ∀ x ∈ args.toList, r x = r' x := fun x hx => hr x (by simp [Call.operands]; exact .inr (by simpa using hx))
  simp only
  split
  ·rename_i x t h1 h2
   rw [ha x (by simp [h1])]
  ·rename_i s x t t' h1 h2
   rw [ha x (by simp [h1]), ha s (by simp [h1])]
  ·rename_i s x t t' h1 h2
   rw [ha x (by simp [h1]), ha s (by simp [h1])]
  ·rename_i s x h1
   rw [ha x (by simp [h1]), ha s (by simp [h1])]
  ·rename_i s x h1
   rw [ha x (by simp [h1]), ha s (by simp [h1])]
  ·rfl
theorem calleeV_congr {o : Oper} {r r' : Operand → Value} (hr : ∀ x ∈ o.op.operands, r x = r' x) : calleeV o r = calleeV o r' := by
 obtain ⟨dst, op, type, pos, after, guard⟩ := o
 unfold calleeV
 simp only
 cases op <;> simp only [Op.operands] at hr <;> try rfl
 rename_i c
 obtain ⟨callee, args, argTypes⟩ := c
 simp only
 cases callee with
 | value f =>
  simp only
  rw [hr f (by simp [Call.operands])]
  have : args.toList.map r = args.toList.map r' := List.map_congr_left fun x hx => hr x (by simp [Call.operands]; exact .inr (by simpa using hx))
  rw [this]
 | _ => rfl
theorem rd_congr {e e' : Env} (x : Operand) (hx : ∀ t, x = .tmp t → e t = e' t) : rd C e x = rd C e' x := by
 cases x with
 | tmp t => simp [rd, ev, hx t rfl]
 | _ => rfl
theorem VStep_congr {call : CallRel} {ops : Array Oper} {o : Oper} {e e' : Env} (he : ∀ t ∈ o.looksAt ops, e t = e' t) {v : Value} {h1 : VH} (hv : VStep C call ops o e h v h1) : VStep C call ops o e' h v h1 := by
 have hr : ∀ x ∈ o.op.operands, rd C e x = rd C e' x := fun x hx => rd_congr x fun t ht => he t (by
  subst ht
  simp only [Oper.looksAt, List.mem_append, List.mem_filterMap]
  exact .inl ⟨.tmp t, by simpa using hx, rfl⟩)
 have hw : wantE ops e o = wantE ops e' o := by
  unfold wantE
  cases hg : o.guard with
  | none => rfl
  | some g =>
   obtain ⟨j, b⟩ := g
   simp only
   cases ht : (ops[j]?).bind (·.dst) with
   | none => rfl
   | some t =>
    simp only
    rw [he t (by simp [Oper.looksAt, hg, ht])]
 unfold VStep at hv ⊢
 rw [← hw, ← calleeV_congr hr, ← opV_congr hr]
 exact hv
end Go.QM
end

section
namespace Go.QM
variable {P : Program} {C : Cfg}
def pre (ms : List Nat) (i j : Nat) : Bool := (ms.getD i 0).testBit j
def namesOf (ops : Array Oper) (o : Oper) : List Tmp := o.dst.toList ++ o.looksAt ops
def certAt (ops : Array Oper) (ms : List Nat) (i : Nat) (o : Oper) : Bool :=
 (o.after.toList.all fun e => !Region.binds .any e || decide (e.on < i)) &&
 (List.range ops.size).all fun j => (!pre ms i j || (decide (j < i) && o.after.toList.any fun e => Region.binds .any e && (e.on == j || pre ms e.on j))) &&
  match ops[j]? with
  | none => true
  | some q => (match q.dst with
    | some t => !(namesOf ops o).contains t || i == j || (if j < i then pre ms i j else pre ms j i)
    | none => true) &&
   (!(heapy o && heapy q) || i == j || (if j < i then pre ms i j else pre ms j i))
def drawOk (ops : Array Oper) (ms : List Nat) : Bool := (List.range ops.size).all fun i => match ops[i]? with
 | none => true
 | some o => certAt ops ms i o
def looseAt (ops : Array Oper) (ms : List Nat) (i : Nat) : Bool := (List.range ops.size).any fun j => match ops[j]? with
 | none => false
 | some q => (loady q || makesy q) && !(pre ms i j) && !(pre ms j i)
structure Side (C : Cfg) (K : Nat → Prop) (n0 : Nat) (loose : Bool) (o : Oper) (e : Env) (h h1 : VH) : Prop where
 next : h.next ≤ h1.next
 res : ∀ b, b < h.next → h.blk b = none → h1.blk b = none
 keep : loose = true → ∀ b, b < h.next → (K b ∨ n0 ≤ b) → h1.blk b = h.blk b
 load : ∀ t a b off, o.op = .load t a → rd C e a = .pointer (some ⟨b, off, none⟩) → K b ∨ n0 ≤ b
def VTr (C : Cfg) (call : CallRel) (K : Nat → Prop) (n0 : Nat) (ms : List Nat) (ops : Array Oper) : List Oper → Nat → Env → VH → Env → VH → Prop
 | [], _, e, h, e', h' => e' = e ∧ h' = h
 | o :: os, i, e, h, e', h' => ∃ v h1, VStep C call ops o e h v h1 ∧ Side C K n0 (heapy o && looseAt ops ms i) o e h h1 ∧ VTr C call K n0 ms ops os (i + 1) (e.put o.dst v) h1 e' h'
def VDraw (C : Cfg) (call : CallRel) (ops : Array Oper) (e : Env) (h : VH) (e' : Env) (h' : VH) : Prop :=
 ∃ ms K, drawOk ops ms = true ∧ VTr C call K h.next ms ops ops.toList 0 e h e' h'
theorem VTr.trace {call : CallRel} {K : Nat → Prop} {n0 : Nat} {ms : List Nat} {ops : Array Oper} : ∀ (os : List Oper) (i : Nat) (e : Env) (h : VH) (e' : Env) (h' : VH), VTr C call K n0 ms ops os i e h e' h' →
  ∃ (eT : Nat → Env) (hT : Nat → VH) (vT : Nat → Value), eT i = e ∧ hT i = h ∧ eT (i + os.length) = e' ∧ hT (i + os.length) = h' ∧
   ∀ j o, os[j]? = some o → VStep C call ops o (eT (i + j)) (hT (i + j)) (vT (i + j)) (hT (i + j + 1)) ∧ Side C K n0 (heapy o && looseAt ops ms (i + j)) o (eT (i + j)) (hT (i + j)) (hT (i + j + 1)) ∧
    eT (i + j + 1) = (eT (i + j)).put o.dst (vT (i + j))
 | [], i, e, h, e', h', hv => by
  obtain ⟨rfl, rfl⟩ := hv
  exact ⟨fun _ => e', fun _ => h', fun _ => Un, rfl, rfl, rfl, rfl, fun j o hj => by simp at hj⟩
 | o :: os, i, e, h, e', h', hv => by
  obtain ⟨v, h1, h2, h3, h4⟩ := hv
  obtain ⟨eT, hT, vT, e1, e2, e3, e4, e5⟩ := VTr.trace os (i + 1) _ _ _ _ h4
  refine ⟨fun k => if k ≤ i then e else eT k, fun k => if k ≤ i then h else hT k, fun k => if k ≤ i then v else vT k, by simp, by simp, ?_, ?_, ?_⟩
  ·simp only [List.length_cons]
   rw [if_neg (by omega), ← e3]
   congr 1
   omega
  ·simp only [List.length_cons]
   rw [if_neg (by omega), ← e4]
   congr 1
   omega
  ·intro j q hj
   cases j with
   | zero =>
    simp at hj
    subst hj
    simp only [Nat.add_zero, Nat.le_refl, if_true]
    rw [if_neg (by omega), if_neg (by omega), e1, e2]
    exact ⟨h2, h3, rfl⟩
   | succ j =>
    have := e5 j q (by simpa using hj)
    have n1 : ¬ (i + (j + 1) ≤ i) := by omega
    have n2 : ¬ (i + (j + 1) + 1 ≤ i) := by omega
    simp only [if_neg n1, if_neg n2]
    have k1 : i + (j + 1) = i + 1 + j := by omega
    rw [k1]
    exact this
def bi (N : Nat → Nat) (b : Nat) : Nat → Nat
 | 0 => 0
 | n + 1 => if b < N (bi N b n) then bi N b n else n + 1
theorem bi_spec (N : Nat → Nat) (b : Nat) : ∀ n, (∀ i, i < bi N b n → ¬ b < N i) ∧ bi N b n ≤ n ∧ (b < N (bi N b n) ∨ bi N b n = n)
 | 0 => ⟨fun i hi => by simp [bi] at hi, by simp [bi], .inr rfl⟩
 | n + 1 => by
  obtain ⟨h1, h2, h3⟩ := bi_spec N b n
  unfold bi
  split
  ·rename_i h
   exact ⟨h1, by omega, .inl h⟩
  ·rename_i h
   refine ⟨fun i hi => ?_, Nat.le_refl _, .inr rfl⟩
   rcases h3 with h3 | h3
   ·exact absurd h3 h
   ·by_cases hin : i = n
    ·rw [hin, ← h3]; exact h
    ·exact h1 i (by omega)
theorem bi_le {N : Nat → Nat} {b n i : Nat} (hb : b < N i) (hi : i ≤ n) : bi N b n ≤ i := by
 rcases Nat.lt_or_ge i (bi N b n) with h | h
 ·exact absurd hb ((bi_spec N b n).1 i h)
 ·exact h
theorem bi_lt {N : Nat → Nat} {b n : Nat} (hb : b < N n) : b < N (bi N b n) := by
 rcases (bi_spec N b n).2.2 with h | h
 ·exact h
 ·rw [h]; exact hb
theorem bi_ge {N : Nat → Nat} {b n i : Nat} (hN : ∀ i j, i ≤ j → j ≤ n → N i ≤ N j) (hb : N i ≤ b) (hn : b < N n) (hi : i ≤ n) : i < bi N b n := by
 rcases Nat.lt_or_ge i (bi N b n) with h | h
 ·exact h
 ·have := bi_lt hn
  have := hN _ _ h hi
  omega
section
variable {call : CallRel} {K : Nat → Prop} {ms : List Nat} {ops : Array Oper} {eT : Nat → Env} {hT : Nat → VH} {vT : Nat → Value} {n0 : Nat}
structure Tr (C : Cfg) (call : CallRel) (K : Nat → Prop) (ms : List Nat) (ops : Array Oper) (eT : Nat → Env) (hT : Nat → VH) (vT : Nat → Value) : Prop where
 cert : drawOk ops ms = true
 step : ∀ j o, ops[j]? = some o → VStep C call ops o (eT j) (hT j) (vT j) (hT (j + 1)) ∧ Side C K (hT 0).next (heapy o && looseAt ops ms j) o (eT j) (hT j) (hT (j + 1)) ∧ eT (j + 1) = (eT j).put o.dst (vT j)
theorem Tr.cert_at (T : Tr C call K ms ops eT hT vT) {i : Nat} {o : Oper} (ho : ops[i]? = some o) : certAt ops ms i o = true := by
 have hi : i < ops.size := (Array.getElem?_eq_some_iff.1 ho).1
 have := List.all_eq_true.1 T.cert i (by simpa using hi)
 rw [ho] at this
 exact this
theorem Tr.edge (T : Tr C call K ms ops eT hT vT) {i : Nat} {o : Oper} (ho : ops[i]? = some o) {e : Edge} (he : e ∈ o.after) (hb : Region.binds .any e = true) : e.on < i := by
 have := T.cert_at ho
 unfold certAt at this
 rw [Bool.and_eq_true] at this
 have := List.all_eq_true.1 this.1 e (by simpa using he)
 simpa [hb] using this
theorem Tr.row (T : Tr C call K ms ops eT hT vT) {i j : Nat} {o : Oper} (ho : ops[i]? = some o) (hj : j < ops.size) :
  (pre ms i j = true → j < i ∧ ∃ e ∈ o.after, Region.binds .any e = true ∧ (e.on = j ∨ pre ms e.on j = true)) ∧
  ∀ q, ops[j]? = some q → (∀ t, q.dst = some t → t ∈ namesOf ops o → i ≠ j → if j < i then pre ms i j = true else pre ms j i = true) ∧
   (heapy o = true → heapy q = true → i ≠ j → if j < i then pre ms i j = true else pre ms j i = true) := by
 have h0 := T.cert_at ho
 unfold certAt at h0
 rw [Bool.and_eq_true] at h0
 have h1 := List.all_eq_true.1 h0.2 j (by simpa using hj)
 rw [Bool.and_eq_true] at h1
 refine ⟨fun hp => ?_, fun q hq => ?_⟩
 ·have := h1.1
  simp only [hp, Bool.not_true, Bool.false_or, Bool.and_eq_true, decide_eq_true_eq, List.any_eq_true, Bool.or_eq_true, beq_iff_eq] at this
  obtain ⟨h2, e, he, hb, h3⟩ := this
  exact ⟨h2, e, by simpa using he, hb, h3⟩
 ·have h2 := h1.2
  rw [hq] at h2
  simp only [Bool.and_eq_true] at h2
  refine ⟨fun t ht hn hne => ?_, fun a b hne => ?_⟩
  ·have h3 := h2.1
   rw [ht] at h3
   have hc : (namesOf ops o).contains t = true := by simpa using hn
   simp only [hc, Bool.not_true, Bool.false_or, Bool.or_eq_true, beq_iff_eq] at h3
   rcases h3 with h3 | h3
   ·exact absurd h3 hne
   ·split at h3 <;> simp_all
  ·have h3 := h2.2
   simp only [a, b, Bool.and_self, Bool.not_true, Bool.false_or, Bool.or_eq_true, beq_iff_eq] at h3
   rcases h3 with h3 | h3
   ·exact absurd h3 hne
   ·split at h3 <;> simp_all
def Down (ops : Array Oper) (S : Nat → Prop) : Prop := ∀ i o, ops[i]? = some o → S i → ∀ e ∈ o.after, Region.binds .any e = true → S e.on
theorem Tr.down (T : Tr C call K ms ops eT hT vT) {S : Nat → Prop} (hS : Down ops S) : ∀ (i : Nat) (o : Oper), ops[i]? = some o → (∀ e ∈ o.after, Region.binds .any e = true → S e.on) → ∀ j, j < ops.size → pre ms i j = true → S j := by
 intro i
 induction i using Nat.strongRecOn with
 | _ i ih =>
  intro o ho hr j hj hp
  obtain ⟨hji, e, he, hb, h⟩ := (T.row ho hj).1 hp
  have hS1 := hr e he hb
  rcases h with rfl | h
  ·exact hS1
  ·have hlt := T.edge ho he hb
   have hi : i < ops.size := (Array.getElem?_eq_some_iff.1 ho).1
   have ho2 : ops[e.on]? = some (ops[e.on]'(by omega)) := by simp [show e.on < ops.size by omega]
   exact ih e.on hlt _ ho2 (fun e' he' hb' => hS _ _ ho2 hS1 e' he' hb') j hj h
theorem Tr.next1 (T : Tr C call K ms ops eT hT vT) {i : Nat} (hi : i < ops.size) : (hT i).next ≤ (hT (i + 1)).next := (T.step i ops[i] (by simp [hi])).2.1.next
theorem Tr.next (T : Tr C call K ms ops eT hT vT) : ∀ i j, i ≤ j → j ≤ ops.size → (hT i).next ≤ (hT j).next := by
 intro i j hij
 induction j with
 | zero =>
  intro _; have : i = 0 := by omega
  subst this; exact Nat.le_refl _
 | succ j ih =>
  intro hj
  by_cases h : i = j + 1
  ·subst h; exact Nat.le_refl _
  ·exact Nat.le_trans (ih (by omega) (by omega)) (T.next1 (by omega))
theorem Tr.res (T : Tr C call K ms ops eT hT vT) : ∀ i j, i ≤ j → j ≤ ops.size → ∀ b, b < (hT i).next → (hT i).blk b = none → (hT j).blk b = none := by
 intro i j hij
 induction j with
 | zero =>
  intro _ b hb hn; have : i = 0 := by omega
  subst this; exact hn
 | succ j ih =>
  intro hj b hb hn
  by_cases h : i = j + 1
  ·subst h; exact hn
  ·exact (T.step j ops[j] (by simp [show j < ops.size by omega])).2.1.res b (Nat.lt_of_lt_of_le hb (T.next i j (by omega) (by omega))) (ih (by omega) (by omega) b hb hn)
theorem Tr.still (T : Tr C call K ms ops eT hT vT) {i : Nat} {o : Oper} (ho : ops[i]? = some o) (hh : heapy o = false) {b : Nat} (hb : b < (hT i).next) : (hT (i + 1)).blk b = (hT i).blk b := by
 obtain ⟨hv, _, _⟩ := T.step i o ho
 unfold VStep at hv
 split at hv
 ·split at hv
  ·rename_i g args hg
   unfold calleeV at hg
   split at hg
   ·rename_i c hc
    split at hg
    ·rename_i f hf
     simp [heapy, hc, hf] at hh
    ·cases hg
   ·cases hg
  ·cases hm : makesy o with
   | true =>
    obtain ⟨B, hB, _⟩ := opV_makes hv hm
    rw [hB]
    simp only [VH.push]
    rw [if_neg (by omega)]
   | false =>
    rw [(opV_still hv hh hm).1]
 ·rw [hv.2]
 ·exact hv.elim
theorem Tr.between (T : Tr C call K ms ops eT hT vT) {b : Nat} : ∀ i j, i ≤ j → j ≤ ops.size → b < (hT i).next →
  (∀ q o, ops[q]? = some o → i ≤ q → q < j → heapy o = true → looseAt ops ms q = true ∧ (K b ∨ (hT 0).next ≤ b)) → (hT j).blk b = (hT i).blk b := by
 intro i j hij
 induction j with
 | zero =>
  intro _ _ _; have : i = 0 := by omega
  subst this; rfl
 | succ j ih =>
  intro hj hb hq
  by_cases h : i = j + 1
  ·subst h; rfl
  ·have hjs : j < ops.size := by omega
   have ho : ops[j]? = some ops[j] := by simp [hjs]
   have hbj := Nat.lt_of_lt_of_le hb (T.next i j (by omega) (by omega))
   rw [← ih (by omega) (by omega) hb (fun q o a b c d => hq q o a b (by omega) d)]
   cases hh : heapy ops[j] with
   | false => exact T.still ho hh hbj
   | true =>
    obtain ⟨h1, h2⟩ := hq j _ ho (by omega) (by omega) hh
    exact (T.step j _ ho).2.1.keep (by simp [hh, h1]) b hbj h2
def gH (ops : Array Oper) (hT : Nat → VH) (hp : Nat) : VH := ⟨(hT ops.size).next, fun b => (hT (max hp (bi (fun i => (hT i).next) b ops.size))).blk b⟩
def cut (μ : Mu) (n : Nat) : Mu := ⟨fun b => if b < n then μ b else none, μ.z⟩
theorem cut_some {μ : Mu} {n b : Nat} {m : MB} (h : cut μ n b = some m) : b < n ∧ μ b = some m := by
 unfold cut at h
 simp only at h
 split at h
 ·exact ⟨‹_›, h⟩
 ·cases h
theorem cut_of {μ : Mu} {n b : Nat} {m : MB} (h : b < n) (hm : μ b = some m) : cut μ n b = some m := by
 unfold cut
 simp only
 rw [if_pos h, hm]
def Bd (n : Nat) (v : Value) : Prop := ∃ cv μ, VR μ v cv ∧ ∀ b m, μ b = some m → b < n
theorem VR.cut {μ : Mu} {n : Nat} {v cv : Value} (h : VR μ v cv) (hb : Bd n v) : VR (cut μ n) v cv := by
 obtain ⟨cv1, μ1, h1, hn⟩ := hb
 induction h generalizing cv1 with
 | junk cv => exact .junk cv
 | bool b => exact .bool b
 | int k n => exact .int k n
 | string s => exact .string s
 | ptrNil => exact .ptrNil
 | ptr h => cases h1 with | ptr h2 => exact .ptr (cut_of (hn _ _ h2) h)
 | slNil => exact .slNil
 | sl h hl hc hs => cases h1 with
  | sl h2 _ _ _ => exact .sl (cut_of (hn _ _ h2) h) hl hc hs
  | slE h2 _ => exact .sl (cut_of (hn _ _ h2) h) hl hc hs
 | slE h hs => cases h1 with
  | sl h2 _ _ _ => exact .slE (cut_of (hn _ _ h2) h) hs
  | slE h2 _ => exact .slE (cut_of (hn _ _ h2) h) hs
 | nilFunc => exact .nilFunc
 | nilIface => exact .nilIface
 | iface _ ih => cases h1 with | iface h2 => exact .iface (ih _ h2)
 | func ha hb _ _ i1 i2 => cases h1 with
  | func hc hd j1 j2 =>
   refine .func ha hb (fun i v cv x y => ?_) (fun i v cv x y => ?_)
   ·have hlt := (Array.getElem?_eq_some_iff.1 x).1
    exact i1 i v cv x y _ (j1 i v _ x (Array.getElem?_eq_getElem (by omega)))
   ·have hlt := (Array.getElem?_eq_some_iff.1 x).1
    exact i2 i v cv x y _ (j2 i v _ x (Array.getElem?_eq_getElem (by omega)))
 | frS hf hl hz ho _ i1 => cases h1 with
  | frN => exact .frS (μ := QM.cut _ n) hf hl hz ho (fun i v cv x y => (by simp at x))
  | frE => exact .frS (μ := QM.cut _ n) hf hl hz ho (fun i v cv x y => (by simp at x))
  | frS hf2 hl2 hz2 ho2 j1 =>
   refine .frS (μ := QM.cut _ n) hf hl hz ho (fun i v cv x y => ?_)
   have hlt := (Array.getElem?_eq_some_iff.1 x).1
   exact i1 i v cv x y _ (j1 i v _ x (Array.getElem?_eq_getElem (by omega)))
 | frN => exact .frN
 | frE a c => exact .frE a c
 | frP hf hz ho _ i1 => cases h1 with
  | frP hf2 hz2 ho2 j1 =>
   refine .frP (μ := QM.cut _ n) hf hz ho (fun i v cv x y => ?_)
   have hlt := (Array.getElem?_eq_some_iff.1 x).1
   exact i1 i v cv x y _ (j1 i v _ x (Array.getElem?_eq_getElem (by omega)))
 | agg ha ho _ i1 => cases h1 with
  | agg hc hd j1 =>
   refine .agg ha ho (fun i v cv x y => ?_)
   have hlt := (Array.getElem?_eq_some_iff.1 x).1
   exact i1 i v cv x y _ (j1 i v _ x (Array.getElem?_eq_getElem (by omega)))
 | tuple ha _ i1 => cases h1 with
  | junk =>
   simp at ha; have : ‹Array Value› = #[] := by apply Array.eq_empty_of_size_eq_zero; omega
   subst this; exact .junk _
  | tuple hc j1 =>
   refine .tuple ha (fun i v cv x y => ?_)
   have hlt := (Array.getElem?_eq_some_iff.1 x).1
   exact i1 i v cv x y _ (j1 i v _ x (Array.getElem?_eq_getElem (by omega)))
theorem VStep.some (hC : C.Ok P) (hcall : CallOk P C call) {o : Oper} {e : Env} {a : Act} {h : VH} {w : World} {μ : Mu} (hs : Sim C μ h w) (he : EnvR μ e a) {v : Value} {h1 : VH} (hv : VStep C call ops o e h v h1) :
  ∃ cv w' μ', (VR μ' v cv ∨ (v = Und ∧ cv = undef)) ∧ Step C μ h w μ' h1 w' := by
 unfold VStep at hv
 split at hv
 ·split at hv
  ·rename_i g args hg
   obtain ⟨h4, h5⟩ := hcall _ _ _ _ _ hv
   obtain ⟨cargs, h2, h3⟩ := calleeV_sim (w := w) (fun x => rd_sim hs he x) hg h4
   obtain ⟨en, w', _, ⟨cv, μ', _, h6, h7⟩, _⟩ := h5 μ w cargs hs h2 []
   exact ⟨cv, w', μ', .inl h6, h7⟩
  ·obtain ⟨cv, w', μ', _, h3, h4⟩ := opV_sim hC hs (fun x => rd_sim hs he x) hv
   exact ⟨cv, w', μ', .inl h3, h4⟩
 ·obtain ⟨rfl, rfl⟩ := hv
  exact ⟨undef, w, μ, .inr ⟨rfl, rfl⟩, Step.refl hs⟩
 ·exact hv.elim
theorem Tr.run (hC : C.Ok P) (hcall : CallOk P C call) (T : Tr C call K ms ops eT hT vT) {μ0 : Mu} {w0 : World} {a0 : Act} (hs : Sim C μ0 (hT 0) w0) (he : EnvR μ0 (eT 0) a0) (hwf : wfOps a0.tmps.size ops = true) :
  ∀ j, j ≤ ops.size → ∃ μ w a, Step C μ0 (hT 0) w0 μ (hT j) w ∧ EnvR μ (eT j) a ∧ a.tmps.size = a0.tmps.size
 | 0, _ => ⟨μ0, w0, a0, Step.refl hs, he, rfl⟩
 | j + 1, hj => by
  obtain ⟨μ, w, a, h1, h2, h3⟩ := Tr.run hC hcall T hs he hwf j (by omega)
  have ho : ops[j]? = some ops[j] := by simp [show j < ops.size by omega]
  obtain ⟨hv, _, hen⟩ := T.step j _ ho
  obtain ⟨cv, w', μ', h4, h5⟩ := VStep.some hC hcall h1.sim h2 hv
  refine ⟨μ', w', a.put ops[j].dst cv, h1.trans h5, ?_, by rw [put_size, h3]⟩
  rw [hen]
  exact (h2.mono h5.le).put h4 (fun t ht => by rw [h3]; exact wfOps_spec hwf j _ t ho ht)
structure Well (C : Cfg) (μ0 : Mu) (eT : Nat → Env) (hT : Nat → VH) (m : Nat) : Prop where
 env : ∀ j, j ≤ m → ∀ t, Bd (hT j).next (eT j t) ∨ eT j t = Und
 ro : ∀ j, j ≤ m → ∀ b, b < C.base → b < (hT 0).next → (hT j).blk b = (hT 0).blk b
 cell : ∀ j, j ≤ m → ∀ b B, (hT j).blk b = some B → b < (hT j).next → ((∃ mb, μ0 b = some mb) ∨ (hT 0).next ≤ b) → ∀ v ∈ B.cs, Bd (hT j).next v
theorem Tr.well (hC : C.Ok P) (hcall : CallOk P C call) (T : Tr C call K ms ops eT hT vT) {μ0 : Mu} {w0 : World} {a0 : Act} (hs : Sim C μ0 (hT 0) w0) (he : EnvR μ0 (eT 0) a0) (hwf : wfOps a0.tmps.size ops = true) :
  Well C μ0 eT hT ops.size where
 env := fun j hj t => by
  obtain ⟨μ, w, a, h1, h2, _⟩ := T.run hC hcall hs he hwf j hj
  exact (h2 t).imp (fun h => ⟨_, μ, h, h1.sim.dom⟩) (fun h => h.1)
 ro := fun j hj b hb hn => by
  obtain ⟨μ, w, a, h1, h2, _⟩ := T.run hC hcall hs he hwf j hj
  exact h1.roV b hb hn
 cell := fun j hj b B hB hb hm v hv => by
  obtain ⟨μ, w, a, h1, h2, _⟩ := T.run hC hcall hs he hwf j hj
  have hmb : ∃ mb, μ b = some mb := by
   rcases hm with ⟨mb, hmb⟩ | hm
   ·exact ⟨mb, h1.le _ _ hmb⟩
   ·exact h1.allm b hm hb (by rw [hB]; simp)
  obtain ⟨mb, hmb⟩ := hmb
  obtain ⟨cur, _, _, _, c4, _⟩ := h1.sim.blk b mb B hmb hB
  obtain ⟨i, hi⟩ := List.getElem?_of_mem hv
  obtain ⟨cv, _, c6⟩ := c4.get hi
  exact ⟨cv, μ, c6, h1.sim.dom⟩
structure Inv (C : Cfg) (μ0 : Mu) (w0 : World) (n : Nat) (ops : Array Oper) (eT : Nat → Env) (hT : Nat → VH) (S : Nat → Prop) (a0 a : Act) (w : World) (hp : Nat) (μ : Mu) : Prop where
 down : Down ops S
 hple : hp ≤ ops.size
 heap : ∀ i o, ops[i]? = some o → heapy o = true → (S i ↔ i < hp)
 sim : Sim C μ (gH ops hT hp) w
 rz : ∀ b m, μ b = some m → b < (hT 0).next ∨ ∃ i, i < ops.size ∧ S i ∧ (hT i).next ≤ b ∧ b < (hT (i + 1)).next
 env : ∀ t i, i ≤ ops.size → (∀ q o, ops[q]? = some o → o.dst = some t → (q < i ↔ S q)) → VR μ (eT i t) (a.tmps.getD t undef) ∨ (eT i t = Und ∧ a.tmps.getD t undef = undef)
 size : a.tmps.size = n
 defers : a.defers = a0.defers
 le : μ0.le μ
 os : w.os = w0.os
 tape : w.tape = w0.tape
 output : w.output = w0.output
 wsize : w0.heap.size ≤ w.heap.size
 other : ∀ k, k < w0.heap.size → (∀ b m, μ0 b = some m → (hT 0).blk b ≠ none → m.k ≠ k) → w.heap[k]? = w0.heap[k]?
 ro : ∀ b m, b < C.base → μ0 b = some m → (hT 0).blk b ≠ none → w.heap[m.k]? = w0.heap[m.k]?
 fresh : ∀ b m, μ b = some m → μ0 b = none → (hT 0).next ≤ b ∧ (w0.heap.size ≤ m.k ∨ ∃ b0 m0, μ0 b0 = some m0 ∧ (hT 0).blk b0 ≠ none ∧ m0.k = m.k)
 frz : ∀ k c, μ.z k = some c → μ0.z k = some c ∨ w0.heap.size ≤ k ∨ ∃ b0 m0, μ0 b0 = some m0 ∧ (hT 0).blk b0 ≠ none ∧ m0.k = k
 allm : ∀ i, i < ops.size → S i → ∀ b, (hT i).next ≤ b → b < (hT (i + 1)).next → (gH ops hT hp).blk b ≠ none → ∃ m, μ b = some m
theorem Inv.put (T : Tr C call K ms ops eT hT vT) {μ0 : Mu} {w0 : World} {n : Nat} {S : Nat → Prop} {a0 a : Act} {w : World} {hp hp' : Nat} {μ : Mu}
  (hg0 : ∀ g, C.gl g = true → g < (hT 0).next) (hd0 : ∀ b m, μ0 b = some m → b < (hT 0).next)
  (I : Inv C μ0 w0 n ops eT hT S a0 a w hp μ) (hwf : wfOps n ops = true) {i : Nat} {o : Oper} (ho : ops[i]? = some o) (hnS : ¬ S i) (hready : ∀ e ∈ o.after, Region.binds .any e = true → S e.on)
  (hhp' : hp' ≤ ops.size) (hheap' : ∀ j oj, ops[j]? = some oj → heapy oj = true → ((S j ∨ j = i) ↔ j < hp'))
  {C' : Cfg} {Hi H' : VH} {μ' : Mu} {w' : World} {cv : Value} (hst : Step C' (cut μ (hT i).next) Hi w μ' H' w') (hcv : VR μ' (vT i) cv ∨ (vT i = Und ∧ cv = undef))
  (hHiN : Hi.next = (hT i).next) (hH'N : H'.next ≤ (hT (i + 1)).next) (hro : ∀ b m, b < C.base → μ0 b = some m → (hT 0).blk b ≠ none → w'.heap[m.k]? = w.heap[m.k]?)
  (hA : ∀ b m, μ b = some m → b < (hT i).next → Hi.blk b ≠ none → Hi.blk b = (gH ops hT hp).blk b)
  (hB : ∀ b m, μ' b = some m → (gH ops hT hp').blk b ≠ none → (H'.blk b = (gH ops hT hp').blk b) ∨ (b < (hT i).next ∧ Hi.blk b = none ∧ (gH ops hT hp').blk b = (gH ops hT hp).blk b))
  (hCe : ∀ b, (hT (i + 1)).next ≤ b → b < (hT ops.size).next → (gH ops hT hp').blk b = (gH ops hT hp).blk b)
  (hhp : hp ≤ hp') (hD : ∀ b, (hT i).next ≤ b → b < (hT (i + 1)).next → (gH ops hT hp').blk b ≠ none → b < H'.next ∧ H'.blk b ≠ none) :
  ∃ μn, Inv C μ0 w0 n ops eT hT (fun j => S j ∨ j = i) a0 (a.put o.dst cv) w' hp' μn := by
 have hi : i < ops.size := (Array.getElem?_eq_some_iff.1 ho).1
 have opAt : ∀ j, j < ops.size → ops[j]? = some (ops.getD j default) := fun j hj => by simp [Array.getD, hj]
 have nx : ∀ j oj, ops[j]? = some oj → pre ms j i = true → ¬ S j := fun j oj hj hp hSj =>
  hnS (T.down I.down j oj hj (fun e he hb => I.down j oj hj hSj e he hb) i hi hp)
 have Nm : ∀ x y, x ≤ y → y ≤ ops.size → (hT x).next ≤ (hT y).next := T.next
 have Ni := Nm i (i + 1) (by omega) (by omega)
 have dom' : ∀ b m, μ' b = some m → b < (hT (i + 1)).next := fun b m hb => Nat.lt_of_lt_of_le (hst.sim.dom b m hb) hH'N
 have hgap : ∀ b, (hT i).next ≤ b → b < (hT (i + 1)).next → μ b = none := by
  intro b h1 h2
  cases e : μ b with
  | none => rfl
  | some m =>
   rcases I.rz b m e with h3 | ⟨j, hj, h3, h4, h5⟩
   ·have := Nm 0 i (by omega) (by omega)
    omega
   ·by_cases hji : j = i
    ·subst hji; exact absurd h3 hnS
    ·rcases Nat.lt_or_ge j i with h6 | h6
     ·have := Nm (j + 1) i (by omega) (by omega)
      omega
     ·have := Nm (i + 1) j (by omega) (by omega)
      omega
 let μn : Mu := ⟨fun b => if b < (hT (i + 1)).next then μ' b else μ b, μ'.z⟩
 have μn_lo : ∀ b, b < (hT (i + 1)).next → μn b = μ' b := fun b hb => if_pos hb
 have μn_hi : ∀ b, ¬ b < (hT (i + 1)).next → μn b = μ b := fun b hb => if_neg hb
 have hle : μ.le μn := by
  refine ⟨fun b m hb => ?_, fun k c hk => hst.le.z k c hk⟩
  by_cases h1 : b < (hT (i + 1)).next
  ·rw [μn_lo b h1]
   by_cases h2 : b < (hT i).next
   ·exact hst.le _ _ (cut_of h2 hb)
   ·rw [hgap b (by omega) h1] at hb
    cases hb
  ·rw [μn_hi b h1]; exact hb
 have hle' : μ'.le μn := ⟨fun b m hb => by rw [μn_lo b (dom' b m hb)]; exact hb, fun _ _ x => x⟩
 have far : ∀ b m, μ b = some m → (gH ops hT hp).blk b ≠ none → (b < (hT i).next → Hi.blk b = none) → w'.heap[m.k]? = w.heap[m.k]? := by
  intro b m hb hl hh
  refine hst.other m.k (I.sim.rng b m hb) (fun b0 m0 h0 h1 h2 => ?_)
  obtain ⟨h3, h4⟩ := cut_some h0
  have h5 := hA b0 m0 h4 h3 h1
  have := I.sim.inj b0 b m0 m h4 hb h2 (by rw [← h5]; exact h1) hl
  subst this
  exact h1 (hh h3)
 have key : ∀ b m, μn b = some m → (gH ops hT hp').blk b ≠ none →
   (b < (hT (i + 1)).next ∧ μ' b = some m ∧ H'.blk b = (gH ops hT hp').blk b) ∨
   (μ b = some m ∧ (gH ops hT hp').blk b = (gH ops hT hp).blk b ∧ (b < (hT i).next → Hi.blk b = none) ∧ (b < (hT i).next ∨ (hT (i + 1)).next ≤ b)) := by
  intro b m hb hl
  by_cases h1 : b < (hT (i + 1)).next
  ·rw [μn_lo b h1] at hb
   rcases hB b m hb hl with h2 | ⟨h2, h3, h4⟩
   ·exact .inl ⟨h1, hb, h2⟩
   ·refine .inr ⟨?_, h4, fun _ => h3, .inl h2⟩
    cases hc : cut μ (hT i).next b with
    | some m' =>
     have := hst.le _ _ hc
     rw [hb] at this
     cases this
     exact (cut_some hc).2
    | none =>
     have := (hst.fresh b m hb hc).1
     omega
  ·rw [μn_hi b h1] at hb
   exact .inr ⟨hb, hCe b (by omega) (I.sim.dom b m hb), fun h2 => by omega, .inr (by omega)⟩
 have live0 : ∀ b0 m0, μ b0 = some m0 → (gH ops hT hp).blk b0 ≠ none → ∀ m1, μ0 b0 = some m1 → (hT 0).blk b0 ≠ none := by
  intro b0 m0 _ hl m1 h1 e
  have hp0 := (bi_spec (fun i => (hT i).next) b0 ops.size).2.1
  exact hl (T.res 0 _ (Nat.zero_le _) (by have := I.hple; omega) b0 (hd0 b0 m1 h1) e)
 have hlow : ∀ b m, μ' b = some m → b < (hT i).next → μ b = some m := by
  intro b m hb hlt
  cases hc : cut μ (hT i).next b with
  | some m' =>
   have := hst.le _ _ hc
   rw [hb] at this
   cases this
   exact (cut_some hc).2
  | none =>
   have := (hst.fresh b m hb hc).1
   omega
 have elder : ∀ b m, μ' b = some m → (hT i).next ≤ b → w.heap.size ≤ m.k ∨ ∃ b0 m0, μ b0 = some m0 ∧ b0 < (hT i).next ∧ Hi.blk b0 ≠ none ∧ (gH ops hT hp).blk b0 ≠ none ∧ m0.k = m.k := by
  intro b m hb hge
  have hc : cut μ (hT i).next b = none := by unfold cut; exact if_neg (by omega)
  rcases (hst.fresh b m hb hc).2 with h1 | ⟨b0, m0, h1, h2, h3⟩
  ·exact .inl h1
  ·obtain ⟨h4, h5⟩ := cut_some h1
   exact .inr ⟨b0, m0, h5, h4, h2, by rw [← hA b0 m0 h5 h4 h2]; exact h2, h3⟩
 refine ⟨μn, ?_⟩
 constructor
 case down =>
  intro j oj hj hSj e he hb
  rcases hSj with h | h
  ·exact .inl (I.down j oj hj h e he hb)
  ·subst h
   rw [ho] at hj
   cases hj
   exact .inl (hready e he hb)
 case hple => exact hhp'
 case heap => exact hheap'
 case sim =>
  refine ⟨fun b m B hb hB' => ?_, fun b1 b2 m1 m2 h1 h2 h3 h4 h5 => ?_, fun b m hb => ?_, fun b m hb => ?_, fun g hg => ?_, hst.sim.fz, fun b m hb hl => ?_⟩
  ·rcases key b m hb (by rw [hB']; simp) with ⟨h1, h2, h3⟩ | ⟨h1, h2, h3, h4⟩
   ·rw [← h3] at hB'
    obtain ⟨cur, c1, c2, c3, c4, c5⟩ := hst.sim.blk b m B h2 hB'
    exact ⟨cur, c1, c2, c3, c4.mono hle', c5⟩
   ·rw [h2] at hB'
    obtain ⟨cur, c1, c2, c3, c4, c5⟩ := I.sim.blk b m B h1 hB'
    exact ⟨cur, by rw [far b m h1 (by rw [hB']; simp) h3]; exact c1, c2, c3, c4.mono hle, c5⟩
  ·have clash : ∀ b1 b2 m1 m2, (b1 < (hT (i + 1)).next ∧ μ' b1 = some m1 ∧ H'.blk b1 = (gH ops hT hp').blk b1) → (gH ops hT hp').blk b1 ≠ none → (gH ops hT hp').blk b2 ≠ none →
     (μ b2 = some m2 ∧ (gH ops hT hp').blk b2 = (gH ops hT hp).blk b2 ∧ (b2 < (hT i).next → Hi.blk b2 = none) ∧ (b2 < (hT i).next ∨ (hT (i + 1)).next ≤ b2)) → m1.k = m2.k → b1 = b2 := by
    rintro b1 b2 m1 m2 ⟨h1, h2, h3⟩ h4 h5 ⟨h6, h7, h8, h9⟩ h10
    rw [h7] at h5
    have hr := I.sim.rng b2 m2 h6
    by_cases hb1 : b1 < (hT i).next
    ·have h11 := hlow b1 m1 h2 hb1
     have h12 : Hi.blk b1 ≠ none := fun e => by
      have := hst.noRes b1 (by rw [hHiN]; exact hb1) e
      rw [h3] at this
      exact h4 this
     have := I.sim.inj b1 b2 m1 m2 h11 h6 h10 (by rw [← hA b1 m1 h11 hb1 h12]; exact h12) h5
     subst this
     exact rfl
    ·rcases elder b1 m1 h2 (by omega) with h11 | ⟨b0, m0, h11, h12, h13, h14, h15⟩
     ·omega
     ·have := I.sim.inj b0 b2 m0 m2 h11 h6 (by rw [h15, h10]) h14 h5
      subst this
      exact absurd (h8 h12) h13
   rcases key b1 m1 h1 h4 with k1 | k1 <;> rcases key b2 m2 h2 h5 with k2 | k2
   ·exact hst.sim.inj b1 b2 m1 m2 k1.2.1 k2.2.1 h3 (by rw [k1.2.2]; exact h4) (by rw [k2.2.2]; exact h5)
   ·exact clash b1 b2 m1 m2 k1 h4 h5 k2 h3
   ·exact (clash b2 b1 m2 m1 k2 h5 h4 k1 h3.symm).symm
   ·exact I.sim.inj b1 b2 m1 m2 k1.1 k2.1 h3 (by rw [← k1.2.1]; exact h4) (by rw [← k2.2.1]; exact h5)
  ·by_cases h1 : b < (hT (i + 1)).next
   ·exact Nat.lt_of_lt_of_le h1 (Nm _ _ (by omega) (Nat.le_refl _))
   ·rw [μn_hi b h1] at hb
    exact I.sim.dom b m hb
  ·by_cases h1 : b < (hT (i + 1)).next
   ·rw [μn_lo b h1] at hb
    exact hst.sim.rng b m hb
   ·rw [μn_hi b h1] at hb
    exact Nat.lt_of_lt_of_le (I.sim.rng b m hb) hst.size
  ·obtain ⟨m, h1, h2⟩ := I.sim.glob g hg
   exact ⟨m, hle _ _ h1, h2⟩
  ·show μ'.z m.k = none
   rcases key b m hb hl with ⟨h1, h2, h3⟩ | ⟨h1, h2, h3, h4⟩
   ·exact hst.sim.fzd b m h2 (by rw [h3]; exact hl)
   ·have hl' : (gH ops hT hp).blk b ≠ none := by rw [← h2]; exact hl
    have h5 := I.sim.fzd b m h1 hl'
    cases e : μ'.z m.k with
    | none => rfl
    | some c =>
     rcases hst.frz _ _ e with h6 | h6 | ⟨b0, m0, h6, h7, h8⟩
     ·rw [show μ.z m.k = some c from h6] at h5
      cases h5
     ·have := I.sim.rng b m h1
      omega
     ·obtain ⟨h9, h10⟩ := cut_some h6
      have := I.sim.inj b0 b m0 m h10 h1 h8 (by rw [← hA b0 m0 h10 h9 h7]; exact h7) hl'
      subst this
      exact absurd (h3 h9) h7
 case rz =>
  intro b m hb
  by_cases h1 : b < (hT (i + 1)).next
  ·rw [μn_lo b h1] at hb
   by_cases h2 : b < (hT i).next
   ·rcases I.rz b m (hlow b m hb h2) with h3 | ⟨j, h3, h4, h5⟩
    ·exact .inl h3
    ·exact .inr ⟨j, h3, .inl h4, h5⟩
   ·exact .inr ⟨i, hi, .inr rfl, by omega, h1⟩
  ·rw [μn_hi b h1] at hb
   rcases I.rz b m hb with h3 | ⟨j, h3, h4, h5⟩
   ·exact .inl h3
   ·exact .inr ⟨j, h3, .inl h4, h5⟩
 case env =>
  intro t j hj hc
  by_cases hd : o.dst = some t
  ·have hij : i < j := (hc i o ho hd).2 (.inr rfl)
   have hval : ∀ k, i + 1 ≤ k → k ≤ j → eT k t = vT i := by
    intro k hk
    induction k with
    | zero => omega
    | succ k ih =>
     intro hkj
     by_cases hki : k = i
     ·subst hki
      rw [(T.step k o ho).2.2]
      simp [Env.put, hd]
     ·have hks : k < ops.size := by omega
      have hok := opAt k hks
      rw [(T.step k _ hok).2.2]
      have hne : (ops.getD k default).dst ≠ some t := by
       intro hdk
       have hS : S k := ((hc k _ hok hdk).1 (by omega)).resolve_right hki
       have h1 := ((T.row hok hi).2 o ho).1 t hd (by rw [namesOf, hdk]; simp) hki
       rw [if_pos (by omega)] at h1
       exact nx k _ hok h1 hS
      have : ((eT k).put (ops.getD k default).dst (vT k)) t = eT k t := by
       cases hdd : (ops.getD k default).dst with
       | none => rfl
       | some d =>
        rw [hdd] at hne
        simp only [Env.put]
        rw [if_neg (fun e => hne (by rw [e]))]
      rw [this]
      exact ih (by omega) (by omega)
   rw [hval j (by omega) (Nat.le_refl _)]
   have hlt : t < a.tmps.size := by rw [I.size]; exact wfOps_spec hwf i o t ho hd
   have hg : (a.put o.dst cv).tmps.getD t undef = cv := by rw [hd]; simp [Act.put, hlt]
   rw [hg]
   exact hcv.imp (fun h => h.mono hle') id
  ·have hg : (a.put o.dst cv).tmps.getD t undef = a.tmps.getD t undef := by
    cases hdd : o.dst with
    | none => rfl
    | some d =>
     rw [hdd] at hd
     have hne : d ≠ t := fun e => hd (by rw [e])
     simp [Act.put, Array.getElem?_setIfInBounds_ne hne]
   rw [hg]
   refine (I.env t j hj (fun q oq hq hdq => ?_)).imp (fun h => h.mono hle) id
   have hqi : q ≠ i := fun e => by
    subst e
    rw [ho] at hq
    cases hq
    exact hd hdq
   rw [hc q oq hq hdq]
   exact ⟨fun h => h.resolve_right hqi, .inl⟩
 case size => rw [put_size]; exact I.size
 case defers => rw [put_defers]; exact I.defers
 case le => exact Mu.le_trans I.le hle
 case os => exact hst.os.trans I.os
 case tape => exact hst.tape.trans I.tape
 case output => exact hst.output.trans I.output
 case wsize => exact Nat.le_trans I.wsize hst.size
 case other =>
  intro k hk hn
  rw [hst.other k (Nat.lt_of_lt_of_le hk I.wsize) ?_, I.other k hk hn]
  intro b0 m0 h0 h1 h2
  obtain ⟨h3, h4⟩ := cut_some h0
  have h5 := hA b0 m0 h4 h3 h1
  have hl : (gH ops hT hp).blk b0 ≠ none := by rw [← h5]; exact h1
  cases hm0 : μ0 b0 with
  | some m1 =>
   have := I.le _ _ hm0
   rw [h4] at this
   cases this
   exact hn b0 _ hm0 (live0 b0 _ h4 hl _ hm0) h2
  | none =>
   rcases (I.fresh b0 m0 h4 hm0).2 with h6 | ⟨b1, m1, h6, h7, h8⟩
   ·omega
   ·exact hn b1 m1 h6 h7 (h8.trans h2)
 case ro =>
  intro b m hb hm hl
  rw [hro b m hb hm hl]
  exact I.ro b m hb hm hl
 case fresh =>
  intro b m hb hn
  cases hm : μ b with
  | some m' =>
   have := hle _ _ hm
   rw [hb] at this
   cases this
   exact I.fresh b _ hm hn
  | none =>
   have h1 : b < (hT (i + 1)).next := by
    rcases Nat.lt_or_ge b (hT (i + 1)).next with h | h
    ·exact h
    ·rw [μn_hi b (by omega), hm] at hb
     cases hb
   rw [μn_lo b h1] at hb
   have hge : (hT i).next ≤ b := by
    rcases Nat.lt_or_ge b (hT i).next with h | h
    ·rw [hlow b m hb h] at hm
     cases hm
    ·exact h
   refine ⟨Nat.le_trans (Nm 0 i (by omega) (by omega)) hge, ?_⟩
   rcases elder b m hb hge with h2 | ⟨b0, m0, h2, h3, h4, h5, h6⟩
   ·exact .inl (Nat.le_trans I.wsize h2)
   ·cases hm0 : μ0 b0 with
    | some m1 =>
     have := I.le _ _ hm0
     rw [h2] at this
     cases this
     exact .inr ⟨b0, _, hm0, live0 b0 _ h2 h5 _ hm0, h6⟩
    | none =>
     rcases (I.fresh b0 m0 h2 hm0).2 with h7 | ⟨b1, m1, h7, h8, h9⟩
     ·exact .inl (by omega)
     ·exact .inr ⟨b1, m1, h7, h8, h9.trans h6⟩
 case frz =>
  intro k c hk
  rcases hst.frz k c hk with h6 | h6 | ⟨b0, m0, h6, h7, h8⟩
  ·exact I.frz k c h6
  ·exact .inr (.inl (Nat.le_trans I.wsize h6))
  ·obtain ⟨h9, h10⟩ := cut_some h6
   have hl' : (gH ops hT hp).blk b0 ≠ none := by rw [← hA b0 m0 h10 h9 h7]; exact h7
   cases hm0 : μ0 b0 with
   | some m1 =>
    have := I.le _ _ hm0
    rw [h10] at this
    cases this
    exact .inr (.inr ⟨b0, _, hm0, live0 b0 _ h10 hl' _ hm0, h8⟩)
   | none =>
    rcases (I.fresh b0 m0 h10 hm0).2 with h11 | ⟨b1, m1, h11, h12, h13⟩
    ·exact .inr (.inl (by omega))
    ·exact .inr (.inr ⟨b1, m1, h11, h12, h13.trans h8⟩)
 case allm =>
  intro j hj hSj b h1 h2 h3
  by_cases hji : j = i
  ·subst hji
   obtain ⟨h4, h5⟩ := hD b h1 h2 h3
   obtain ⟨m, hm⟩ := hst.allm b (by rw [hHiN]; exact h1) h4 h5
   exact ⟨m, hle' _ _ hm⟩
  ·have hbn : b < (hT ops.size).next := Nat.lt_of_lt_of_le h2 (Nm _ _ (by omega) (Nat.le_refl _))
   obtain ⟨m, hm⟩ := I.allm j hj (hSj.resolve_right hji) b h1 h2 (fun e => h3 (by
    have h4 : b < (hT (bi (fun i => (hT i).next) b ops.size)).next := bi_lt (N := fun i => (hT i).next) hbn
    have h5 := (bi_spec (fun i => (hT i).next) b ops.size).2.1
    have := I.hple
    exact T.res (max hp _) (max hp' _) (by omega) (by omega) b (Nat.lt_of_lt_of_le h4 (Nm _ _ (Nat.le_max_right _ _) (by omega))) e))
   exact ⟨m, hle _ _ hm⟩
theorem Inv.step (hC : C.Ok P) (hcall : CallOk P C call) (T : Tr C call K ms ops eT hT vT) {μ0 : Mu} {w0 : World} {n : Nat} {S : Nat → Prop} {a0 a : Act} {w : World} {hp : Nat} {μ : Mu}
  (hg0 : ∀ g, C.gl g = true → g < (hT 0).next) (hd0 : ∀ b m, μ0 b = some m → b < (hT 0).next) (W : Well C μ0 eT hT ops.size)
  (I : Inv C μ0 w0 n ops eT hT S a0 a w hp μ) (hwf : wfOps n ops = true) {i : Nat} {o : Oper} (ho : ops[i]? = some o) (hnS : ¬ S i) (hready : ∀ e ∈ o.after, Region.binds .any e = true → S e.on)
  {Q : Exit → Act → World → Prop} {K' : Act → World → Prop} (hK : ∀ a' w' hp' μ', Inv C μ0 w0 n ops eT hT (fun j => S j ∨ j = i) a0 a' w' hp' μ' → K' a' w') : wpOp P ops Q i K' a w := by
 have hi : i < ops.size := (Array.getElem?_eq_some_iff.1 ho).1
 have opAt : ∀ j, j < ops.size → ops[j]? = some (ops.getD j default) := fun j hj => by simp [Array.getD, hj]
 have pr : ∀ j, j < ops.size → pre ms i j = true → S j := T.down I.down i o ho hready
 have nx : ∀ j oj, ops[j]? = some oj → pre ms j i = true → ¬ S j := fun j oj hj hp hSj =>
  hnS (T.down I.down j oj hj (fun e he hb => I.down j oj hj hSj e he hb) i hi hp)
 have preLt : ∀ {j q : Nat}, j < ops.size → q < ops.size → pre ms j q = true → q < j := fun {j q} hj hq hp => ((T.row (opAt j hj) hq).1 hp).1
 obtain ⟨hstep, hside, henv⟩ := T.step i o ho
 have Nm : ∀ x y, x ≤ y → y ≤ ops.size → (hT x).next ≤ (hT y).next := T.next
 have Ni := Nm i (i + 1) (by omega) (by omega)
 have N0 := Nm 0 i (by omega) (by omega)
 have hd : ∀ (j : Nat) (x : Oper) (t : Tmp), ops[j]? = some x → x.dst = some t → t < a.tmps.size := fun j x t p q => by rw [I.size]; exact wfOps_spec hwf j x t p q
 have bdm : ∀ b m, μ b = some m → b < (hT ops.size).next := fun b m hb => I.sim.dom b m hb
 have gAt : ∀ hq, hq ≤ ops.size → ∀ b, b < (hT ops.size).next → b < (hT (max hq (bi (fun i => (hT i).next) b ops.size))).next := by
  intro hq hqs b hbm
  have h1 : b < (hT (bi (fun i => (hT i).next) b ops.size)).next := bi_lt (N := fun i => (hT i).next) hbm
  exact Nat.lt_of_lt_of_le h1 (Nm _ _ (Nat.le_max_right _ _) (by have := (bi_spec (fun i => (hT i).next) b ops.size).2.1; omega))
 have bil : ∀ b j, b < (hT j).next → j ≤ ops.size → bi (fun i => (hT i).next) b ops.size ≤ j := fun b j h1 h2 => bi_le (N := fun i => (hT i).next) h1 h2
 let e1 : Env := fun t => if t ∈ o.looksAt ops then eT i t else Un
 have he1 : EnvR (cut μ (hT i).next) e1 a := by
  intro t
  by_cases ht : t ∈ o.looksAt ops
  ·have h1 := I.env t i (by omega) (fun q oq hq hdq => by
    have hqs : q < ops.size := (Array.getElem?_eq_some_iff.1 hq).1
    have hrow := ((T.row ho hqs).2 oq hq).1 t hdq (by rw [namesOf]; exact List.mem_append_right _ ht)
    constructor
    ·intro h
     have := hrow (by omega)
     rw [if_pos h] at this
     exact pr q hqs this
    ·intro h
     rcases Nat.lt_or_ge q i with h2 | h2
     ·exact h2
     ·by_cases h3 : q = i
      ·subst h3; exact absurd h hnS
      ·have := hrow (by omega)
       rw [if_neg (by omega)] at this
       exact absurd h (nx q oq hq this))
   simp only [e1, if_pos ht]
   rcases h1 with h1 | h1
   ·rcases W.env i (by omega) t with h2 | h2
    ·exact .inl (h1.cut h2)
    ·rw [h2] at h1
     cases h1
   ·exact .inr h1
  ·simp only [e1, if_neg ht]
   exact .inl (.junk _)
 have hstep1 : VStep C call ops o e1 (hT i) (vT i) (hT (i + 1)) := VStep_congr (fun t ht => by simp only [e1, if_pos ht]) hstep
 have cells : ∀ b m B, μ b = some m → b < (hT i).next → (hT i).blk b = some B → (gH ops hT hp).blk b = some B → ∃ cur : Array Value, w.heap[m.k]? = some (.cells cur B.ty (0, 0)) ∧ cur.size = m.c ∧ B.sz = m.s ∧
   VRL (cut μ (hT i).next) B.cs (cur.toList.take B.cs.length) ∧ ∀ v ∈ B.cs, v.oneCell' = true := by
  intro b m B hb hlt hB hG
  obtain ⟨cur, c1, c2, c3, c4, c5⟩ := I.sim.blk b m B hb hG
  refine ⟨cur, c1, c2, c3, ⟨c4.1, fun j v cv h1 h2 => (c4.2 j v cv h1 h2).cut ?_⟩, c5⟩
  refine W.cell i (by omega) b B hB hlt ?_ v (List.mem_of_getElem? h1)
  cases hm0 : μ0 b with
  | some m0 => exact .inl ⟨m0, rfl⟩
  | none => exact .inr (I.fresh b m hb hm0).1
 cases hh : heapy o with
 | true =>
  have hpi : hp ≤ i := by
   rcases Nat.lt_or_ge i hp with h | h
   ·exact absurd ((I.heap i o ho hh).2 h) hnS
   ·exact h
  have same : ∀ b m, μ b = some m → b < (hT i).next → (hT i).blk b = (gH ops hT hp).blk b := by
   intro b m hb hbi
   refine T.between _ i (by have := bil b i hbi (by omega); omega) (by omega) (gAt hp I.hple b (bdm b m hb)) (fun q oq hq h4 h5 h6 => ?_)
   have hqs : q < ops.size := by omega
   have h7 := ((T.row ho hqs).2 oq hq).2 hh h6 (by omega)
   rw [if_pos h5] at h7
   have := (I.heap q oq hq h6).1 (pr q hqs h7)
   omega
  have hsim : Sim C (cut μ (hT i).next) (hT i) w := by
   refine ⟨fun b m B hb hB => ?_, fun b1 b2 m1 m2 h1 h2 h3 h4 h5 => ?_, fun b m hb => (cut_some hb).1, fun b m hb => I.sim.rng b m (cut_some hb).2, fun g hg => ?_, I.sim.fz, fun b m hb hl => ?_⟩
   ·obtain ⟨h1, h2⟩ := cut_some hb
    exact cells b m B h2 h1 hB (by rw [← same b m h2 h1]; exact hB)
   ·obtain ⟨k1, k2⟩ := cut_some h1
    obtain ⟨k3, k4⟩ := cut_some h2
    rw [same b1 m1 k2 k1] at h4
    rw [same b2 m2 k4 k3] at h5
    exact I.sim.inj b1 b2 m1 m2 k2 k4 h3 h4 h5
   ·obtain ⟨m, h1, h2⟩ := I.sim.glob g hg
    exact ⟨m, cut_of (Nat.lt_of_lt_of_le (hg0 g hg) N0) h1, h2⟩
   ·obtain ⟨h1, h2⟩ := cut_some hb
    exact I.sim.fzd b m h2 (by rw [← same b m h2 h1]; exact hl)
  refine VStep.sim hC hcall ho hsim he1 hd hstep1 fun cv w' μ' hcv hst => ?_
  have gNew : ∀ b, b < (hT (i + 1)).next → (gH ops hT (i + 1)).blk b = (hT (i + 1)).blk b := by
   intro b hb
   have := bil b (i + 1) hb (by omega)
   show (hT (max (i + 1) (bi (fun i => (hT i).next) b ops.size))).blk b = _
   rw [Nat.max_eq_left this]
  obtain ⟨μn, hI⟩ := Inv.put (hp' := i + 1) T hg0 hd0 I hwf ho hnS hready (by omega) (fun j oj hj hjh => by
    constructor
    ·rintro (h | h)
     ·have := (I.heap j oj hj hjh).1 h
      omega
     ·omega
    ·intro h
     by_cases hji : j = i
     ·exact .inr hji
     ·left
      have hjs : j < ops.size := by omega
      have h7 := ((T.row ho hjs).2 oj hj).2 hh hjh (by omega)
      rw [if_pos (by omega)] at h7
      exact pr j hjs h7) hst hcv rfl (Nat.le_refl _)
   (fun b m hb hm hl => hst.ro b m hb (cut_of (Nat.lt_of_lt_of_le (hd0 b m hm) N0) (I.le _ _ hm)) (by rw [W.ro i (by omega) b hb (hd0 b m hm)]; exact hl)) (fun b m hb hlt _ => same b m hb hlt)
   (fun b m hb _ => .inl (gNew b (hst.sim.dom b m hb)).symm)
   (fun b hb hbm => by
    have h1 : i + 1 < bi (fun i => (hT i).next) b ops.size := bi_ge (N := fun i => (hT i).next) (fun x y p q => Nm x y p q) hb hbm (by omega)
    show (hT (max (i + 1) _)).blk b = (hT (max hp _)).blk b
    rw [Nat.max_eq_right (by omega), Nat.max_eq_right (by omega)])
   (by omega) (fun b _ h2 h3 => ⟨h2, by rw [← gNew b h2]; exact h3⟩)
  exact hK _ _ _ _ hI
 | false =>
  have part : ∀ B0 : Nat → Option Blk, (∀ b m B, μ b = some m → b < (hT i).next → B0 b = some B → (hT i).blk b = some B ∧ (gH ops hT hp).blk b = some B) → Sim C (cut μ (hT i).next) ⟨(hT i).next, B0⟩ w := by
   intro B0 h0
   refine ⟨fun b m B hb hB => ?_, fun b1 b2 m1 m2 h1 h2 h3 h4 h5 => ?_, fun b m hb => (cut_some hb).1, fun b m hb => I.sim.rng b m (cut_some hb).2, fun g hg => ?_, I.sim.fz, fun b m hb hl => ?_⟩
   ·obtain ⟨h1, h2⟩ := cut_some hb
    obtain ⟨h3, h4⟩ := h0 b m B h2 h1 hB
    exact cells b m B h2 h1 h3 h4
   ·obtain ⟨k1, k2⟩ := cut_some h1
    obtain ⟨k3, k4⟩ := cut_some h2
    have l : ∀ b m, μ b = some m → b < (hT i).next → B0 b ≠ none → (gH ops hT hp).blk b ≠ none := fun b m x y z => by
     cases e : B0 b with
     | none => exact absurd e z
     | some B => rw [(h0 b m B x y e).2]; simp
    exact I.sim.inj b1 b2 m1 m2 k2 k4 h3 (l _ _ k2 k1 h4) (l _ _ k4 k3 h5)
   ·obtain ⟨m, h1, h2⟩ := I.sim.glob g hg
    exact ⟨m, cut_of (Nat.lt_of_lt_of_le (hg0 g hg) N0) h1, h2⟩
   ·obtain ⟨h1, h2⟩ := cut_some hb
    refine I.sim.fzd b m h2 ?_
    cases e : B0 b with
    | none => exact absurd e hl
    | some B => rw [(h0 b m B h2 h1 e).2]; simp
  have triv : Sim C (cut μ (hT i).next) ⟨(hT i).next, fun _ => none⟩ w := part (fun _ => none) (fun b m B _ _ h => by cases h)
  have loose : (loady o = true ∨ makesy o = true) → ∀ q oq, ops[q]? = some oq → pre ms q i = false → pre ms i q = false → looseAt ops ms q = true := by
   intro hl q oq hq h1 h2
   unfold looseAt
   rw [List.any_eq_true]
   refine ⟨i, by simpa using hi, ?_⟩
   rw [ho]
   rcases hl with hl | hl <;> simp [hl, h1, h2]
  have apartBelow : (loady o = true ∨ makesy o = true) → ∀ q oq, ops[q]? = some oq → heapy oq = true → q < i → ¬ q < hp → looseAt ops ms q = true := by
   intro hl q oq hq hhq hqi hqp
   have hqs : q < ops.size := by omega
   refine loose hl q oq hq ?_ ?_
   ·cases e : pre ms q i with
    | false => rfl
    | true => have := preLt hqs hi e; omega
   ·cases e : pre ms i q with
    | false => rfl
    | true => exact absurd ((I.heap q oq hq hhq).1 (pr q hqs e)) hqp
  have apartAbove : (loady o = true ∨ makesy o = true) → ∀ q oq, ops[q]? = some oq → heapy oq = true → i ≤ q → q < hp → looseAt ops ms q = true := by
   intro hl q oq hq hhq hqi hqp
   have hqs : q < ops.size := by have := I.hple; omega
   have hS := (I.heap q oq hq hhq).2 hqp
   refine loose hl q oq hq ?_ ?_
   ·cases e : pre ms q i with
    | false => rfl
    | true => exact absurd hS (nx q oq hq e)
   ·cases e : pre ms i q with
    | false => rfl
    | true => have := preLt hi hqs e; omega
  have callNone : calleeV o (rd C e1) = none := by
   cases e : calleeV o (rd C e1) with
   | none => rfl
   | some g =>
    unfold calleeV at e
    split at e
    ·rename_i c hc
     split at e
     ·rename_i f hf
      simp [heapy, hc, hf] at hh
     ·cases e
    ·cases e
  have nocall : CallOk P C (fun _ _ _ _ _ => False) := fun _ _ _ _ _ h => h.elim
  have fin : ∀ (Hi H' : VH), VStep C (fun _ _ _ _ _ => False) ops o e1 Hi (vT i) H' → Sim C (cut μ (hT i).next) Hi w → Hi.next = (hT i).next → H'.next ≤ (hT (i + 1)).next →
    (∀ b m, μ b = some m → b < (hT i).next → Hi.blk b ≠ none → Hi.blk b = (gH ops hT hp).blk b) →
    (∀ b, b < H'.next → (gH ops hT hp).blk b ≠ none → (H'.blk b = (gH ops hT hp).blk b) ∨ (b < (hT i).next ∧ Hi.blk b = none)) →
    (∀ b, (hT i).next ≤ b → b < (hT (i + 1)).next → b < H'.next ∧ H'.blk b ≠ none) → wpOp P ops Q i K' a w := by
   intro Hi H' hv hsim hn1 hn2 hA hB hD
   refine VStep.sim hC nocall ho hsim he1 hd hv fun cv w' μ' hcv hst => ?_
   obtain ⟨μn, hI⟩ := Inv.put (hp' := hp) T hg0 hd0 I hwf ho hnS hready I.hple (fun j oj hj hjh => by
     rw [← I.heap j oj hj hjh]
     refine ⟨fun h => h.resolve_right (fun e => ?_), .inl⟩
     subst e
     rw [ho] at hj
     cases hj
     rw [hh] at hjh
     cases hjh) hst hcv hn1 hn2
    (fun b m hb hm hl => by
     have hbn := hd0 b m hm
     have hm' := I.le _ _ hm
     by_cases hq : Hi.blk b = none
     ·refine hst.other m.k (I.sim.rng b m hm') (fun b0 m0 h1 h2 h3 => ?_)
      obtain ⟨h4, h5⟩ := cut_some h1
      have hgl : (gH ops hT hp).blk b ≠ none := by
       show (hT (max hp (bi (fun i => (hT i).next) b ops.size))).blk b ≠ none
       rw [W.ro _ (by have := (bi_spec (fun i => (hT i).next) b ops.size).2.1; have := I.hple; omega) b hb hbn]
       exact hl
      have := I.sim.inj b0 b m0 m h5 hm' h3 (by rw [← hA b0 m0 h5 h4 h2]; exact h2) hgl
      subst this
      exact h2 hq
     ·exact hst.ro b m hb (cut_of (Nat.lt_of_lt_of_le hbn N0) hm') hq)
    hA (fun b m hb hl => (hB b (hst.sim.dom b m hb) hl).imp id (fun h => ⟨h.1, h.2, rfl⟩)) (fun b _ _ => rfl) (Nat.le_refl _) (fun b h1 h2 _ => hD b h1 h2)
   exact hK _ _ _ _ hI
  have hv := hstep1
  unfold VStep at hv
  cases hw : wantE ops e1 o with
  | none => rw [hw] at hv; exact hv.elim
  | some want =>
   cases want with
   | false =>
    rw [hw] at hv
    simp only at hv
    refine fin ⟨(hT i).next, fun _ => none⟩ ⟨(hT i).next, fun _ => none⟩ ?_ triv rfl Ni (fun b m _ _ h => by simp at h) (fun b hb _ => .inr ⟨hb, rfl⟩) (fun b x y => by rw [hv.2] at y; omega)
    unfold VStep
    rw [hw]
    exact ⟨hv.1, rfl⟩
   | true =>
    rw [hw, callNone] at hv
    simp only at hv
    have mk : ∀ (Hi H' : VH), opV C o (rd C e1) Hi = some (vT i, H') → VStep C (fun _ _ _ _ _ => False) ops o e1 Hi (vT i) H' := by
     intro Hi H' h
     unfold VStep
     rw [hw, callNone]
     exact h
    cases hm : makesy o with
    | true =>
     obtain ⟨B, hB, hgen⟩ := opV_makes hv hm
     have hnx : (hT (i + 1)).next = (hT i).next + 1 := by rw [hB]; rfl
     refine fin ⟨(hT i).next, fun _ => none⟩ _ (mk _ _ (hgen _ rfl)) triv rfl (by rw [hnx]; exact Nat.le_refl _) (fun b m _ _ h => by simp at h) (fun b hb hl => ?_) (fun b x y => by
      have hbi : b = (hT i).next := by omega
      subst hbi
      exact ⟨by simp [VH.push], by simp [VH.push]⟩)
     rcases Nat.lt_or_ge b (hT i).next with h1 | h1
     ·exact .inr ⟨h1, rfl⟩
     ·left
      have hbi : b = (hT i).next := by simp only [VH.push] at hb; omega
      subst hbi
      have hlt : (hT i).next < (hT (i + 1)).next := by omega
      have hbn : (hT i).next < (hT ops.size).next := Nat.lt_of_lt_of_le hlt (Nm _ _ (by omega) (Nat.le_refl _))
      have b1 : bi (fun i => (hT i).next) (hT i).next ops.size ≤ i + 1 := bil _ _ hlt (by omega)
      have b2 : i < bi (fun i => (hT i).next) (hT i).next ops.size := bi_ge (N := fun i => (hT i).next) (fun x y p q => Nm x y p q) (Nat.le_refl _) hbn (by omega)
      have b3 : bi (fun i => (hT i).next) (hT i).next ops.size = i + 1 := by omega
      show (if (hT i).next = (hT i).next then some B else none) = (hT (max hp (bi (fun i => (hT i).next) (hT i).next ops.size))).blk (hT i).next
      rw [b3, if_pos rfl]
      have e1' : (hT (i + 1)).blk (hT i).next = some B := by rw [hB]; simp [VH.push]
      rw [← e1']
      refine (T.between (i + 1) _ (Nat.le_max_right _ _) (by have := I.hple; omega) hlt (fun q oq hq h4 h5 h6 => ⟨?_, .inr N0⟩)).symm
      exact apartAbove (.inr hm) q oq hq h6 (by omega) (by omega)
    | false =>
     obtain ⟨hsame, hpure, hload⟩ := opV_still hv hh hm
     cases hl : loady o with
     | false =>
      refine fin ⟨(hT i).next, fun _ => none⟩ ⟨(hT i).next, fun _ => none⟩ (mk _ _ (hpure hl _)) triv rfl Ni (fun b m _ _ h => by simp at h) (fun b hb _ => .inr ⟨hb, rfl⟩) (fun b x y => by rw [hsame] at y; omega)
     | true =>
      obtain ⟨t, ad, hop⟩ : ∃ t ad, o.op = .load t ad := by
       unfold loady at hl
       split at hl
       ·exact ⟨_, _, ‹_›⟩
       ·cases hl
      rcases hload t ad hop with hpl | ⟨b, off, had, hg⟩
      ·exact fin ⟨(hT i).next, fun _ => none⟩ ⟨(hT i).next, fun _ => none⟩ (mk _ _ (hpl _)) triv rfl Ni (fun b m _ _ h => by simp at h) (fun b hb _ => .inr ⟨hb, rfl⟩) (fun b x y => by rw [hsame] at y; omega)
      have had0 : rd C (eT i) ad = .pointer (some ⟨b, off, none⟩) := by
       rw [← had]
       refine rd_congr ad (fun t' ht' => ?_)
       have : t' ∈ o.looksAt ops := by
        subst ht'
        simp [Oper.looksAt, hop, Op.operands]
       simp only [e1, if_pos this]
      have hK' := hside.load t ad b off hop had0
      have hvr := rd_sim triv he1 ad
      rw [had] at hvr
      obtain ⟨m, hbm⟩ : ∃ m, cut μ (hT i).next b = some m := by
       generalize a.eval ad = c at hvr
       cases hvr with
       | ptr h => exact ⟨_, h⟩
      obtain ⟨hbi, hbm⟩ := cut_some hbm
      have hbN := bdm b m hbm
      have hbil := bil b i hbi (by omega)
      have heq : (gH ops hT hp).blk b = (hT i).blk b := by
       show (hT (max hp (bi (fun i => (hT i).next) b ops.size))).blk b = _
       rcases Nat.le_total (max hp (bi (fun i => (hT i).next) b ops.size)) i with h1 | h1
       ·refine (T.between _ i h1 (by omega) (gAt hp I.hple b hbN) (fun q oq hq h4 h5 h6 => ⟨?_, hK'⟩)).symm
        exact apartBelow (.inl hl) q oq hq h6 h5 (by omega)
       ·refine T.between i _ h1 (by have := I.hple; omega) hbi (fun q oq hq h4 h5 h6 => ⟨?_, hK'⟩)
        exact apartAbove (.inl hl) q oq hq h6 h4 (by omega)
      refine fin ⟨(hT i).next, fun x => if x = b then (hT i).blk b else none⟩ ⟨(hT i).next, fun x => if x = b then (hT i).blk b else none⟩ (mk _ _ (hg _ (by simp))) ?_ rfl Ni (fun x mx _ _ hx => ?_) (fun x hx _ => ?_) (fun x y z => by rw [hsame] at z; omega)
      ·refine part _ (fun x mx B hx hlt hB => ?_)
       by_cases hxb : x = b
       ·subst hxb
        rw [if_pos rfl] at hB
        exact ⟨hB, by rw [heq]; exact hB⟩
       ·rw [if_neg hxb] at hB
        cases hB
      ·by_cases hxb : x = b
       ·subst hxb
        simp only [if_true]
        exact heq.symm
       ·simp [hxb] at hx
      ·by_cases hxb : x = b
       ·subst hxb
        left
        simp only [if_true]
        exact heq.symm
       ·exact .inr ⟨hx, by simp [hxb]⟩
end
def left (m : Nat) (listed : Array Bool) : Nat := ((List.range m).filter fun i => !listed.getD i false).length
theorem filter_less {α : Type} (l : List α) (p q : α → Bool) (hpq : ∀ x, q x = true → p x = true) (x : α) (hx : x ∈ l) (h1 : p x = true) (h2 : q x = false) : (l.filter q).length < (l.filter p).length := by
 induction l with
 | nil => cases hx
 | cons y l ih =>
  have mono : ∀ l : List α, (l.filter q).length ≤ (l.filter p).length := by
   intro l
   induction l with
   | nil => simp
   | cons z l ih =>
    simp only [List.filter_cons]
    cases hq : q z with
    | true => simp [hpq z hq, ih]
    | false =>
     cases p z with
     | true => simp; omega
     | false => simpa using ih
  simp only [List.filter_cons]
  rcases List.mem_cons.1 hx with rfl | hx
  ·simp only [h1, h2, if_true, Bool.false_eq_true, if_false, List.length_cons]
   have := mono l
   omega
  ·have := ih hx
   cases hq : q y with
   | true => simp [hpq y hq]; omega
   | false =>
    cases p y with
    | true => simp; omega
    | false => simpa using this
theorem VDraw.ok (hC : C.Ok P) (hm : P.follows .mixedOrders = true) {call : CallRel} (hcall : CallOk P C call) : DrawOk P C (VDraw C call) := by
 rintro ops e h e' h' ⟨ms, K, hcert, hv⟩ id μ0 a0 w00 hs0 he0 hwf0
 obtain ⟨eT, hT, vT, t1, t2, t3, t4, t5⟩ := VTr.trace _ _ _ _ _ _ hv
 have T : Tr C call K ms ops eT hT vT := by
  refine ⟨hcert, fun j o hj => ?_⟩
  have := t5 j o (by simpa using hj)
  simp only [Nat.zero_add] at this
  rw [t2]
  exact this
 simp only [Nat.zero_add, Array.length_toList] at t3 t4
 let w0 : World := { w00 with drawn := w00.drawn + 1 }
 have hs : Sim C μ0 (hT 0) w0 := by rw [t2]; exact hs0.drawn rfl
 have he : EnvR μ0 (eT 0) a0 := by rw [t1]; exact he0
 have W := T.well hC hcall hs he hwf0
 have hg0 : ∀ g, C.gl g = true → g < (hT 0).next := fun g hg => by
  obtain ⟨m, h1, _⟩ := hs.glob g hg
  exact hs.dom g m h1
 have key : ∀ (fuel : Nat) (listed : Array Bool) (a : Act) (w : World) (hp : Nat) (μ : Mu), listed.size = ops.size → left ops.size listed ≤ fuel →
   Inv C μ0 w0 a0.tmps.size ops eT hT (fun i => listed.getD i false = true) a0 a w hp μ →
   wpAny P .any ops (fun x' a' w' => x' = .normal ∧ Post C μ0 h w00 a0 e' h' a' w') fuel listed a w := by
  intro fuel
  have final : ∀ (listed : Array Bool) (a : Act) (w : World) (hp : Nat) (μ : Mu), (∀ i, i < ops.size → listed.getD i false = true) →
    Inv C μ0 w0 a0.tmps.size ops eT hT (fun i => listed.getD i false = true) a0 a w hp μ → Exit.normal = Exit.normal ∧ Post C μ0 h w00 a0 e' h' a w := by
   intro listed a w hp μ hall I
   refine ⟨rfl, μ, ?_, ?_, I.size, I.defers⟩
   ·have hG : ∀ b m, μ b = some m → (gH ops hT hp).blk b = (hT ops.size).blk b := by
     intro b m hb
     have hbn := I.sim.dom b m hb
     have h1 : b < (hT (bi (fun i => (hT i).next) b ops.size)).next := bi_lt (N := fun i => (hT i).next) hbn
     have hbs := (bi_spec (fun i => (hT i).next) b ops.size).2.1
     have hple := I.hple
     refine (T.between _ ops.size (by omega) (Nat.le_refl _) (Nat.lt_of_lt_of_le h1 (T.next _ _ (Nat.le_max_right _ _) (by omega))) (fun q oq hq h4 h5 h6 => ?_)).symm
     have := (I.heap q oq hq h6).1 (hall q h5)
     omega
    have hsim : Sim C μ (hT ops.size) w := ⟨fun b m B hb hB => I.sim.blk b m B hb (by rw [hG b m hb]; exact hB),
     fun b1 b2 m1 m2 h1 h2 h3 h4 h5 => I.sim.inj b1 b2 m1 m2 h1 h2 h3 (by rw [hG b1 m1 h1]; exact h4) (by rw [hG b2 m2 h2]; exact h5), I.sim.dom, I.sim.rng, I.sim.glob, I.sim.fz, fun b m h1 h2 => I.sim.fzd b m h1 (by rw [hG b m h1]; exact h2)⟩
    obtain ⟨μr, wr, ar, r1, _, _⟩ := T.run hC hcall hs he hwf0 ops.size (Nat.le_refl _)
    rw [← t4, ← t2]
    refine ⟨I.le, hsim, I.os, I.tape, I.output, I.wsize, T.next 0 _ (Nat.zero_le _) (Nat.le_refl _), I.other, I.ro, fun b hb hn => W.ro _ (Nat.le_refl _) b hb hn, I.fresh,
     T.res 0 _ (Nat.zero_le _) (Nat.le_refl _), hs.dom, fun b h1 h2 h3 => ?_, I.frz⟩
    have hbi := bi_lt (N := fun i => (hT i).next) h2
    have hbs := bi_spec (fun i => (hT i).next) b ops.size
    have hb0 : 0 < bi (fun i => (hT i).next) b ops.size := bi_ge (N := fun i => (hT i).next) (fun x y p q => T.next x y p q) h1 h2 (Nat.zero_le _)
    obtain ⟨j, hj⟩ : ∃ j, bi (fun i => (hT i).next) b ops.size = j + 1 := ⟨_, (Nat.succ_pred_eq_of_pos hb0).symm⟩
    have hjs : j < ops.size := by omega
    refine I.allm j hjs (hall j hjs) b ?_ (by rw [hj] at hbi; exact hbi) (fun e => h3 ?_)
    ·rcases Nat.lt_or_ge b (hT j).next with h5 | h5
     ·have := bi_le (N := fun i => (hT i).next) h5 (show j ≤ ops.size by omega)
      omega
     ·exact h5
    ·have hple := I.hple
     exact T.res (max hp (bi (fun i => (hT i).next) b ops.size)) ops.size (by omega) (Nat.le_refl _) b (Nat.lt_of_lt_of_le hbi (T.next _ _ (Nat.le_max_right _ _) (by omega))) e
   ·intro t
    rw [← t3]
    exact I.env t ops.size (Nat.le_refl _) (fun q oq hq _ => ⟨fun hlt => hall q hlt, fun _ => (Array.getElem?_eq_some_iff.1 hq).1⟩)
  have stuckless : ∀ (listed : Array Bool), listed.size = ops.size → Region.ready .any ops listed = [] → ∀ i, i < ops.size → listed.getD i false = true := by
   intro listed hsz hr i
   induction i using Nat.strongRecOn with
   | _ i ih =>
    intro hi
    cases hq : listed.getD i false with
    | true => rfl
    | false =>
     exfalso
     have hmem : i ∈ Region.ready .any ops listed := by
      rw [mem_ready]
      have ho : ops[i]? = some ops[i] := by simp [hi]
      refine ⟨?_, ops[i], ho, fun e he hb => ?_⟩
      ·have hlt : i < listed.size := by omega
       simp [hlt] at hq ⊢
       exact hq
      ·have := T.edge ho he hb
       exact ih e.on this (by omega)
     rw [hr] at hmem
     cases hmem
  induction fuel with
  | zero =>
   intro listed a w hp μ hsz hlf I
   have hall : ∀ i, i < ops.size → listed.getD i false = true := by
    intro i hi
    cases hq : listed.getD i false with
    | true => rfl
    | false =>
     have hmem : i ∈ (List.range ops.size).filter fun i => !listed.getD i false := by rw [List.mem_filter]; exact ⟨by simpa using hi, by rw [hq]; rfl⟩
     have := List.length_pos_of_mem hmem
     unfold left at hlf
     omega
   refine ⟨?_, final listed a w hp μ hall I⟩
   rw [List.eq_nil_iff_forall_not_mem]
   intro i hi
   rw [mem_ready] at hi
   obtain ⟨h1, o, h2, _⟩ := hi
   have hlt : i < ops.size := (Array.getElem?_eq_some_iff.1 h2).1
   have := hall i hlt
   have hlt' : i < listed.size := by omega
   simp [hlt'] at this h1
   rw [this] at h1
   cases h1
  | succ fuel ih =>
   intro listed a w hp μ hsz hlf I
   refine ⟨fun hr => final listed a w hp μ (stuckless listed hsz hr) I, fun i hi => ?_⟩
   rw [mem_ready] at hi
   obtain ⟨h1, o, ho, hedges⟩ := hi
   have hlt : i < ops.size := (Array.getElem?_eq_some_iff.1 ho).1
   have hlt' : i < listed.size := by omega
   have hnS : ¬ (listed.getD i false = true) := by
    simp [hlt'] at h1 ⊢
    exact h1
   refine Inv.step hC hcall T hg0 hs.dom W I hwf0 ho hnS hedges fun a' w' hp' μ' I' => ?_
   have hS : (fun j => listed.getD j false = true ∨ j = i) = fun j => (listed.setIfInBounds i true).getD j false = true := by
    funext j
    by_cases hj : i = j
    ·subst hj
     simp [hlt']
    ·rw [getD_set_ne false hj]
     apply propext
     exact ⟨fun h => h.resolve_right (fun e => hj e.symm), .inl⟩
   rw [hS] at I'
   refine ih _ a' w' hp' μ' (by simpa using hsz) ?_ I'
   have : left ops.size (listed.setIfInBounds i true) < left ops.size listed := by
    unfold left
    refine filter_less _ _ _ (fun j hj => ?_) i (by simpa using hlt) (by simpa using hnS) (by simp [hlt'])
    by_cases hij : i = j
    ·subst hij
     simp [hlt'] at hj
    ·rw [getD_set_ne false hij] at hj
     exact hj
   omega
 refine wp_region_any hm (key ops.size (Array.replicate ops.size false) a0 w0 0 μ0 (by simp) ?_ ?_)
 ·unfold left
  refine Nat.le_trans (List.length_filter_le _ _) (by simp)
 ·have h0 : ∀ i, ¬ ((Array.replicate ops.size false).getD i false = true) := by
   intro i
   rw [Array.getD_eq_getD_getElem?, Array.getElem?_replicate]
   split <;> simp
  refine ⟨fun i o _ hi => absurd hi (h0 i), Nat.zero_le _, fun i o _ _ => ⟨fun hi => absurd hi (h0 i), fun hi => by omega⟩, ?_, fun b m hb => .inl (hs.dom b m hb), ?_, rfl, rfl, Mu.le_refl _, rfl, rfl, rfl, Nat.le_refl _, fun _ _ _ => rfl, fun _ _ _ _ _ => rfl, fun b m h1 h2 => (by rw [h1] at h2; cases h2), fun k c x => .inl x, fun i _ hi => absurd hi (h0 i)⟩
  ·have hb0 : ∀ b m, μ0 b = some m → (gH ops hT 0).blk b = (hT 0).blk b := by
    intro b m hb
    have : bi (fun i => (hT i).next) b ops.size ≤ 0 := bi_le (N := fun i => (hT i).next) (hs.dom b m hb) (Nat.zero_le _)
    show (hT (max 0 (bi (fun i => (hT i).next) b ops.size))).blk b = _
    rw [Nat.max_eq_left this]
   exact ⟨fun b m B hb hB => hs.blk b m B hb (by rw [← hb0 b m hb]; exact hB), fun b1 b2 m1 m2 h1 h2 h3 h4 h5 => hs.inj b1 b2 m1 m2 h1 h2 h3 (by rw [← hb0 b1 m1 h1]; exact h4) (by rw [← hb0 b2 m2 h2]; exact h5),
    fun b m hb => Nat.lt_of_lt_of_le (hs.dom b m hb) (T.next 0 _ (Nat.zero_le _) (Nat.le_refl _)), hs.rng, hs.glob, hs.fz, fun b m h1 h2 => hs.fzd b m h1 (by rw [← hb0 b m h1]; exact h2)⟩
  ·intro t i hi hc
   have : ∀ j, j ≤ i → eT j t = eT 0 t := by
    intro j
    induction j with
    | zero => intro _; rfl
    | succ j ih =>
     intro hj
     have hjs : j < ops.size := by omega
     have hoj : ops[j]? = some ops[j] := by simp [hjs]
     rw [(T.step j _ hoj).2.2, ← ih (by omega)]
     cases hd : ops[j].dst with
     | none => rfl
     | some d =>
      simp only [Env.put]
      by_cases htd : t = d
      ·subst htd
       exact absurd ((hc j _ hoj hd).1 (by omega)) (h0 j)
      ·rw [if_neg htd]
   rw [this i (Nat.le_refl _)]
   exact he t
end Go.QM
end
