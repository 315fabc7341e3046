/- Part 4 of the proof: QmS, Ty, Rd, Row, QmF, Mm. -/
import Derived.Test.YtjpknabdmmkobaaRows
import Derived.Carry
import Derived.HandedShaped
import Derived.JoinedOf
import Derived.RowKit
import Derived.Test.YtjpknabdmmkobaaZ3
set_option linter.unusedVariables false
set_option linter.unusedSimpArgs false
section
namespace Go.QM
variable {P : Program} {C : Cfg} {h : VH}
def slV {α : Type} (c : α → List Value) (l : List α) : Value := fS l.length (l.flatMap c).toArray
def vlV {α : Type} (f : α → Value) (l : List α) : Value := fS l.length (l.map f).toArray
theorem flat_one {α : Type} (f : α → Value) (l : List α) : l.flatMap (fun x => [f x]) = l.map f := by
 induction l with
 | nil => rfl
 | cons x l ih => rw [List.flatMap_cons, ih]; rfl
theorem slV_one {α : Type} (f : α → Value) (l : List α) : slV (fun x => [f x]) l = vlV f l := by
 unfold slV vlV
 rw [flat_one]
theorem flat_get {α : Type} {c : α → List Value} {s : Nat} (hc : ∀ x, (c x).length = s) : ∀ (l : List α) (i r : Nat) (x : α), l[i]? = some x → r < s → (l.flatMap c)[i * s + r]? = (c x)[r]?
 | [], i, r, x, h, _ => by simp at h
 | y :: l, 0, r, x, h, hr => by
  simp at h
  subst h
  rw [List.flatMap_cons, Nat.zero_mul, Nat.zero_add, List.getElem?_append_left (by rw [hc]; exact hr)]
 | y :: l, i + 1, r, x, h, hr => by
  simp at h
  rw [List.flatMap_cons, List.getElem?_append_right (by rw [hc, Nat.add_mul]; omega), hc]
  have e : (i + 1) * s + r - s = i * s + r := by rw [Nat.add_mul]; omega
  rw [e]
  exact flat_get hc l i r x h hr
theorem flat_len {α : Type} {c : α → List Value} {s : Nat} (hc : ∀ x, (c x).length = s) : ∀ (l : List α), (l.flatMap c).length = l.length * s
 | [] => by simp
 | y :: l => by rw [List.flatMap_cons, List.length_append, hc, flat_len hc l, List.length_cons, Nat.add_mul]; omega
theorem flat_drop {α : Type} {c : α → List Value} {s : Nat} (hc : ∀ x, (c x).length = s) : ∀ (l : List α) (i : Nat), (l.flatMap c).drop (i * s) = (l.drop i).flatMap c
 | l, 0 => by simp
 | [], i + 1 => by simp
 | y :: l, i + 1 => by
  rw [List.flatMap_cons, List.drop_append, hc, List.drop_of_length_le (by rw [hc, Nat.add_mul]; omega), List.nil_append]
  have e : (i + 1) * s - s = i * s := by rw [Nat.add_mul]; omega
  rw [e, flat_drop hc l i]
  rfl
theorem flat_take {α : Type} {c : α → List Value} {s : Nat} (hc : ∀ x, (c x).length = s) : ∀ (l : List α) (i : Nat), (l.flatMap c).take (i * s) = (l.take i).flatMap c
 | l, 0 => by simp
 | [], i + 1 => by simp
 | y :: l, i + 1 => by
  rw [List.flatMap_cons, List.take_append, hc, List.take_of_length_le (by rw [hc, Nat.add_mul]; omega)]
  have e : (i + 1) * s - s = i * s := by rw [Nat.add_mul]; omega
  rw [e, flat_take hc l i]
  rfl
theorem flat_set {α : Type} {c : α → List Value} {s : Nat} (hc : ∀ x, (c x).length = s) {l : List α} {i : Nat} (hi : i < l.length) (x : α) :
  (l.flatMap c).take (i * s) ++ c x ++ (l.flatMap c).drop (i * s + (c x).length) = (l.set i x).flatMap c := by
 have e : i * s + (c x).length = (i + 1) * s := by rw [hc, Nat.add_mul]; omega
 rw [e, flat_take hc, flat_drop hc, List.set_eq_take_append_cons_drop, if_pos hi]
 simp [List.flatMap_append]
theorem flat_at {α : Type} {c : α → List Value} {s : Nat} (hc : ∀ x, (c x).length = s) {l : List α} {i : Nat} (hi : i < l.length) : ((l.flatMap c).drop (i * s)).take s = c l[i] := by
 rw [flat_drop hc, List.drop_eq_getElem_cons hi, List.flatMap_cons, List.take_append, hc, Nat.sub_self, List.take_zero, List.append_nil, List.take_of_length_le (by rw [hc]; exact Nat.le_refl _)]
abbrev Raw := Bool × List Nat
def iC (x : Raw) : List Value := [.bool x.1, u32S x.2]
abbrev iV (x : Raw) : Value := .agg #[.bool x.1, u32S x.2]
def isV (l : List Raw) : Value := fS l.length (l.flatMap iC).toArray
def mV (m : List (List Raw)) : Value := vlV isV m
def m3V (m : List (List (List Raw))) : Value := vlV mV m
def nsV (l : List Int) : Value := vlV (Value.int .i64) l
def nmV (l : List (List Int)) : Value := vlV nsV l
def i8V (l : List Int) : Value := vlV (Value.int .i8) l
abbrev RRaw := Raw × Raw
def rC (x : RRaw) : List Value := [.bool x.1.1, u32S x.1.2, .bool x.2.1, u32S x.2.2]
abbrev rV (x : RRaw) : Value := .agg #[.bool x.1.1, u32S x.1.2, .bool x.2.1, u32S x.2.2]
def rsV (l : List RRaw) : Value := fS l.length (l.flatMap rC).toArray
theorem iC_len (x : Raw) : (iC x).length = 2 := rfl
theorem rC_len (x : RRaw) : (rC x).length = 4 := rfl
def raw0 : Raw := (false, [])
def rraw0 : RRaw := (raw0, raw0)
def sg (neg : Bool) (n : Nat) : Int := if neg then -(n : Int) else n
def iz (x : Raw) : Int := sg x.1 (nv x.2)
def cz (z : Int) : Raw := (decide (z < 0), dig z.natAbs)
def zV (z : Int) : Value := .agg #[.bool (decide (z < 0)), u32S (dig z.natAbs)]
theorem zV_cz (z : Int) : zV z = iV (cz z) := rfl
section
variable {t e' : TypeId} {s b0 b1 b off n len : Nat} {z z' : Value} {k k' : IntKind} {a : Int} {fs : List (Nat × TypeId)} {kk : TK}
theorem s_isV {l : List Raw} : seen (isV l) = isV l := rfl
theorem s_vlV {α : Type} {f : α → Value} {l : List α} : seen (vlV f l) = vlV f l := rfl
theorem s_mV {l : List (List Raw)} : seen (mV l) = mV l := rfl
theorem s_m3V {l : List (List (List Raw))} : seen (m3V l) = m3V l := rfl
theorem s_nsV {l : List Int} : seen (nsV l) = nsV l := rfl
theorem s_nmV {l : List (List Int)} : seen (nmV l) = nmV l := rfl
theorem s_i8V {l : List Int} : seen (i8V l) = i8V l := rfl
theorem s_rsV {l : List RRaw} : seen (rsV l) = rsV l := rfl
theorem s_zV {x : Int} : seen (zV x) = zV x := rfl
theorem ln_isV {l : List Raw} : lenT (some ⟨.slice e', s, b0, z⟩) (isV l) = some (.int .i64 (l.length : Int)) := rfl
theorem ln_mV {l : List (List Raw)} : lenT (some ⟨.slice e', s, b0, z⟩) (mV l) = some (.int .i64 (l.length : Int)) := rfl
theorem ln_m3V {l : List (List (List Raw))} : lenT (some ⟨.slice e', s, b0, z⟩) (m3V l) = some (.int .i64 (l.length : Int)) := rfl
theorem ln_nsV {l : List Int} : lenT (some ⟨.slice e', s, b0, z⟩) (nsV l) = some (.int .i64 (l.length : Int)) := rfl
theorem ln_nmV {l : List (List Int)} : lenT (some ⟨.slice e', s, b0, z⟩) (nmV l) = some (.int .i64 (l.length : Int)) := rfl
theorem ln_i8V {l : List Int} : lenT (some ⟨.slice e', s, b0, z⟩) (i8V l) = some (.int .i64 (l.length : Int)) := rfl
theorem ln_rsV {l : List RRaw} : lenT (some ⟨.slice e', s, b0, z⟩) (rsV l) = some (.int .i64 (l.length : Int)) := rfl
theorem ix_isV {l : List Raw} : idxT C (some ⟨.slice e', s, b0, z⟩) (isV l) (.int k a) = ixF (C.T e') l.length (l.flatMap iC).toArray a := rfl
theorem ix_rsV {l : List RRaw} : idxT C (some ⟨.slice e', s, b0, z⟩) (rsV l) (.int k a) = ixF (C.T e') l.length (l.flatMap rC).toArray a := rfl
theorem ix_mV {l : List (List Raw)} : idxT C (some ⟨.slice e', s, b0, z⟩) (mV l) (.int k a) = ixF (C.T e') l.length (l.map isV).toArray a := rfl
theorem ix_m3V {l : List (List (List Raw))} : idxT C (some ⟨.slice e', s, b0, z⟩) (m3V l) (.int k a) = ixF (C.T e') l.length (l.map mV).toArray a := rfl
theorem ix_nsV {l : List Int} : idxT C (some ⟨.slice e', s, b0, z⟩) (nsV l) (.int k a) = ixF (C.T e') l.length (l.map (Value.int .i64)).toArray a := rfl
theorem ix_nmV {l : List (List Int)} : idxT C (some ⟨.slice e', s, b0, z⟩) (nmV l) (.int k a) = ixF (C.T e') l.length (l.map nsV).toArray a := rfl
theorem ix_i8V {l : List Int} : idxT C (some ⟨.slice e', s, b0, z⟩) (i8V l) (.int k a) = ixF (C.T e') l.length (l.map (Value.int .i8)).toArray a := rfl
theorem ixF_iC {l : List Raw} (h0 : 0 ≤ a) (h1 : a < l.length) : ixF (some ⟨kk, 2, b0, z⟩) l.length (l.flatMap iC).toArray a = some (fP (a.toNat * 2) (l.flatMap iC).toArray) := by
 unfold ixF; simp only [Option.bind_some]
 rw [if_pos ⟨h0, h1, by rw [List.size_toArray, flat_len iC_len]⟩]
theorem ixF_rC {l : List RRaw} (h0 : 0 ≤ a) (h1 : a < l.length) : ixF (some ⟨kk, 4, b0, z⟩) l.length (l.flatMap rC).toArray a = some (fP (a.toNat * 4) (l.flatMap rC).toArray) := by
 unfold ixF; simp only [Option.bind_some]
 rw [if_pos ⟨h0, h1, by rw [List.size_toArray, flat_len rC_len]⟩]
theorem ixF_map {α : Type} {f : α → Value} {l : List α} (h0 : 0 ≤ a) (h1 : a < l.length) : ixF (some ⟨kk, 1, b0, z⟩) l.length (l.map f).toArray a = some (fP a.toNat (l.map f).toArray) := by
 unfold ixF; simp only [Option.bind_some]
 rw [if_pos ⟨h0, h1, by simp⟩, Nat.mul_one]
theorem map_getD {α : Type} {f : α → Value} {l : List α} (d : α) (hn : n < l.length) : (l.map f)[n]? = some (f (l.getD n d)) := by simp [hn]
theorem g_mV {l : List (List Raw)} (hn : n < l.length) : (l.map isV)[n]? = some (isV (l.getD n [])) := map_getD [] hn
theorem g_m3V {l : List (List (List Raw))} (hn : n < l.length) : (l.map mV)[n]? = some (mV (l.getD n [])) := map_getD [] hn
theorem g_nsV {l : List Int} (hn : n < l.length) : (l.map (Value.int k))[n]? = some (.int k (l.getD n 0)) := map_getD 0 hn
theorem g_nmV {l : List (List Int)} (hn : n < l.length) : (l.map nsV)[n]? = some (nsV (l.getD n [])) := map_getD [] hn
theorem flat_getD {l : List Raw} (hn : n < l.length) : ((l.flatMap iC).drop (n * 2)).take 2 = iC (l.getD n raw0) := by
 rw [flat_at iC_len hn]; simp [hn]
theorem flat_getDr {l : List RRaw} (hn : n < l.length) : ((l.flatMap rC).drop (n * 4)).take 4 = rC (l.getD n rraw0) := by
 rw [flat_at rC_len hn]; simp [hn]
theorem ldF_iC {l : List Raw} (hn : n < l.length) : loadT (some ⟨.struct fs, 2, b0, z⟩) (fP (n * 2) (l.flatMap iC).toArray) h = some (.agg #[.bool (l.getD n raw0).1, u32S (l.getD n raw0).2]) := by
 unfold loadT
 simp only [TK.isAgg, if_true, List.size_toArray, flat_len iC_len]
 rw [if_pos (show n * 2 + 2 ≤ l.length * 2 by omega), flat_getD hn]
 rfl
theorem ldF_rC {l : List RRaw} (hn : n < l.length) : loadT (some ⟨.struct fs, 4, b0, z⟩) (fP (n * 4) (l.flatMap rC).toArray) h = some (.agg #[.bool (l.getD n rraw0).1.1, u32S (l.getD n rraw0).1.2, .bool (l.getD n rraw0).2.1, u32S (l.getD n rraw0).2.2]) := by
 unfold loadT
 simp only [TK.isAgg, if_true, List.size_toArray, flat_len rC_len]
 rw [if_pos (show n * 4 + 4 ≤ l.length * 4 by omega), flat_getDr hn]
 rfl
theorem gF_iC0 {l : List Raw} (hn : n < l.length) : (l.flatMap iC)[n * 2 + 0]? = some (.bool (l.getD n raw0).1) := by
 have := flat_get iC_len l n 0 (l.getD n raw0) (by simp [hn]) (by decide)
 rw [this]
 rfl
theorem gF_iC1 {l : List Raw} (hn : n < l.length) : (l.flatMap iC)[n * 2 + 1]? = some (u32S (l.getD n raw0).2) := by
 have := flat_get iC_len l n 1 (l.getD n raw0) (by simp [hn]) (by decide)
 rw [this]
 rfl
theorem rd_iC {ty sz : Nat} {l : List Raw} (hB : h.blk b = some ⟨ty, sz, l.flatMap iC⟩) (hn : n < l.length) : rdN h b (n * 2) 2 = some [.bool (l.getD n raw0).1, u32S (l.getD n raw0).2] := by
 rw [rdN_of hB]
 simp only [flat_len iC_len]
 rw [if_pos (by omega), flat_getD hn]
 rfl
theorem wr_iC {ty sz : Nat} {l : List Raw} {x0 : Bool} {x1 : List Nat} (hB : h.blk b = some ⟨ty, sz, l.flatMap iC⟩) (hn : n < l.length) : wrN 0 h b (n * 2) [.bool x0, u32S x1] = some (h.set b (some ⟨ty, sz, (l.set n (x0, x1)).flatMap iC⟩)) := by
 have := flat_set iC_len hn (x0, x1)
 rw [wrN_of hB (by simp only [flat_len iC_len, List.length_cons, List.length_nil]; omega)]
 congr 4
theorem rd_rC {ty sz : Nat} {l : List RRaw} (hB : h.blk b = some ⟨ty, sz, l.flatMap rC⟩) (hn : n < l.length) : rdN h b (n * 4) 4 = some (rC (l.getD n rraw0)) := by
 rw [rdN_of hB]
 simp only [flat_len rC_len]
 rw [if_pos (by omega), flat_getDr hn]
theorem wr_rC {ty sz : Nat} {l : List RRaw} {x0 x2 : Bool} {x1 x3 : List Nat} (hB : h.blk b = some ⟨ty, sz, l.flatMap rC⟩) (hn : n < l.length) : wrN 0 h b (n * 4) [.bool x0, u32S x1, .bool x2, u32S x3] = some (h.set b (some ⟨ty, sz, (l.set n ((x0, x1), (x2, x3))).flatMap rC⟩)) := by
 have := flat_set rC_len hn ((x0, x1), (x2, x3))
 rw [wrN_of hB (by simp only [flat_len rC_len, List.length_cons, List.length_nil]; omega)]
 congr 4
theorem rdS_p {ty sz m cap : Nat} {x : List Value} (hb : b = h.next) (hx : x.length = m * s) : rdS (h.push ⟨ty, sz, x⟩) (.slice (some ⟨b, 0, none⟩) m cap) s = some (m, x) := by
 subst hb
 unfold rdS
 simp only [rdN_push, Nat.zero_add, hx, Nat.le_refl, if_true, List.drop_zero, Option.map_some]
 rw [List.take_of_length_le (by omega)]
theorem rdS_isV {l : List Raw} : rdS h (isV l) 2 = some (l.length, l.flatMap iC) := by
 unfold rdS isV
 simp only [List.size_toArray, flat_len iC_len, if_true]
theorem rdS_u32S {l : List Nat} : rdS h (u32S l) 1 = some (l.length, u32L l) := by
 unfold rdS u32S
 simp only [List.size_toArray, u32L_len, Nat.mul_one, if_true]
theorem rdS_vlV {α : Type} {f : α → Value} {l : List α} : rdS h (vlV f l) 1 = some (l.length, l.map f) := by
 unfold rdS vlV
 simp only [List.size_toArray, List.length_map, Nat.mul_one, if_true]
theorem zC_two {y0 y1 : Value} (n : Nat) : zC (.agg #[y0, y1]) (n * 2) = (List.replicate n ()).flatMap fun _ => [y0, y1] := by
 unfold zC madeCells
 refine List.ext_getElem? fun i => ?_
 have hl : ((List.replicate n ()).flatMap fun _ => [y0, y1]).length = n * 2 := by simp
 by_cases hi : i < n * 2
 ·have h1 : i / 2 < n := by omega
  have := flat_get (c := fun _ : Unit => [y0, y1]) (s := 2) (fun _ => rfl) (List.replicate n ()) (i / 2) (i % 2) () (by simp [h1]) (by omega)
  have e : i / 2 * 2 + i % 2 = i := by omega
  rw [e] at this
  rw [this]
  simp only [Value.cells, Array.getElem?_toList]
  rcases Nat.mod_two_eq_zero_or_one i with h2 | h2 <;> simp [h2, hi]
 ·rw [List.getElem?_eq_none (by simp; omega), List.getElem?_eq_none (by rw [hl]; omega)]
theorem nil1_zero (n : Nat) : (((List.replicate n ()).flatMap fun _ => [Value.bool false, Value.slice none 0 0]).map nil1) = (List.replicate n raw0).flatMap iC := by
 induction n with
 | zero => rfl
 | succ n ih =>
  rw [List.replicate_succ, List.replicate_succ, List.flatMap_cons, List.flatMap_cons, List.map_append, ih]
  rfl
end
def bsE (e' : TypeId) (i : Option TI) (len : Nat) (ps : List (Nat × Value)) (h : VH) : Option (Value × VH) := i.bind fun i =>
 if len * i.size ≤ 16777216 ∧ 0 < i.size then (fillL (fun j => some (j * i.size, i.size)) (zC i.zero (len * i.size)) ps).map fun l => (.slice (some ⟨h.next, 0, none⟩) len len, h.push ⟨e', i.size, l⟩) else none
def bsT (C : Cfg) (i : Option TI) (len : Nat) (ps : List (Nat × Value)) (h : VH) : Option (Value × VH) := match i with
 | some ⟨.slice e, _, _, _⟩ => bsE e (C.T e) len ps h
 | _ => none
theorem bs {t : TypeId} {len : Nat} {ps : List (Nat × Value)} : bSlV C t len ps h = bsT C (C.T t) len ps h := rfl
theorem bsT_sl {e' s b0 len : Nat} {z : Value} {ps : List (Nat × Value)} : bsT C (some ⟨.slice e', s, b0, z⟩) len ps h = bsE e' (C.T e') len ps h := rfl
def bsK (e' sz n : Nat) (h : VH) (l : Option (List Value)) : Option (Value × VH) := l.bind fun l => if l.length = n * sz ∧ 0 < sz ∧ n * sz ≤ 16777216 then some (.slice (some ⟨h.next, 0, none⟩) n n, h.push ⟨e', sz, l⟩) else none
def cellsL (sz : Nat) : List Value → Option (List Value)
 | [] => some []
 | x :: xs => (cellsV x).bind fun l => if l.length = sz then (cellsL sz xs).map (l ++ ·) else none
theorem cellsL_len {sz : Nat} : ∀ {xs : List Value} {l : List Value}, cellsL sz xs = some l → l.length = xs.length * sz
 | [], l, h => by cases h; simp
 | x :: xs, l, h => by
  unfold cellsL at h
  rw [Option.bind_eq_some_iff] at h
  obtain ⟨y, hy, h⟩ := h
  split at h
  ·rw [Option.map_eq_some_iff] at h
   obtain ⟨r, hr, rfl⟩ := h
   rw [List.length_append, cellsL_len hr, List.length_cons, Nat.add_mul]
   omega
  ·cases h
theorem fill_cells {sz : Nat} : ∀ (xs : List Value) (i : Nat) (cells l : List Value), cellsL sz xs = some l → cells.length = (i + xs.length) * sz →
  fillL (fun j => some (j * sz, sz)) cells ((List.range' i xs.length).zip xs) = some (cells.take (i * sz) ++ l)
 | [], i, cells, l, h, hl => by
  cases h
  simp only [List.length_nil, List.range'_zero, List.zip_nil_left, fillL, List.append_nil]
  rw [List.take_of_length_le (by rw [hl]; simp)]
 | x :: xs, i, cells, l, h, hl => by
  unfold cellsL at h
  rw [Option.bind_eq_some_iff] at h
  obtain ⟨y, hy, h⟩ := h
  split at h
  ·rename_i hys
   rw [Option.map_eq_some_iff] at h
   obtain ⟨r, hr, rfl⟩ := h
   simp only [List.length_cons, List.range'_succ, List.zip_cons_cons, fillL, hy]
   have hle : i * sz + sz ≤ cells.length := by
    rw [hl, List.length_cons, show i + (xs.length + 1) = (i + 1) + xs.length by omega, Nat.add_mul (i + 1), Nat.add_mul]
    omega
   rw [if_pos ⟨hys, hle⟩]
   have e1 : (i + 1) * sz = i * sz + sz := by rw [Nat.add_mul]; omega
   have hl2 : cells.length = (i + 1 + xs.length) * sz := by
    rw [hl]
    congr 1
    simp only [List.length_cons]
    omega
   have h3 : (cells.take (i * sz) ++ y ++ cells.drop (i * sz + sz)).take (i * sz + sz) = cells.take (i * sz) ++ y := List.take_left' (by rw [List.length_append, List.length_take, hys]; omega)
   rw [fill_cells xs (i + 1) _ r hr (by
    rw [← hl2]
    simp only [List.length_append, List.length_take, List.length_drop]
    omega), e1, h3, List.append_assoc]
  ·cases h
theorem zC_len (z : Value) (n : Nat) : (zC z n).length = n := by simp [zC, madeCells]
theorem fill_none {sz : Nat} : ∀ (xs : List Value) (i : Nat) (cells : List Value), cellsL sz xs = none → cells.length = (i + xs.length) * sz →
  fillL (fun j => some (j * sz, sz)) cells ((List.range' i xs.length).zip xs) = none
 | [], i, cells, h, hl => by cases h
 | x :: xs, i, cells, h, hl => by
  simp only [List.length_cons, List.range'_succ, List.zip_cons_cons, fillL]
  unfold cellsL at h
  cases hy : cellsV x with
  | none => rfl
  | some y =>
   rw [hy, Option.bind_some] at h
   simp only
   split
   ·rename_i hc
    rw [if_pos hc.1, Option.map_eq_none_iff] at h
    have hl2 : cells.length = (i + 1 + xs.length) * sz := by
     rw [hl]
     congr 1
     simp only [List.length_cons]
     omega
    refine fill_none xs (i + 1) _ h ?_
    rw [← hl2]
    simp only [List.length_append, List.length_take, List.length_drop]
    omega
   ·rfl
theorem bs_cells {e' sz b0 : Nat} {kk : TK} {z : Value} (xs : List Value) : bsE e' (some ⟨kk, sz, b0, z⟩) xs.length ((List.range' 0 xs.length).zip xs) h = bsK e' sz xs.length h (cellsL sz xs) := by
 unfold bsE bsK
 simp only [Option.bind_some]
 cases hc : cellsL sz xs with
 | none =>
  rw [fill_none xs 0 _ hc (by rw [zC_len, Nat.zero_add])]
  simp
 | some l =>
  have hl := cellsL_len hc
  simp only [Option.bind_some]
  by_cases hcond : xs.length * sz ≤ 16777216 ∧ 0 < sz
  ·rw [if_pos hcond, fill_cells xs 0 _ l hc (by rw [zC_len, Nat.zero_add]), if_pos ⟨hl, hcond.2, hcond.1⟩]
   simp
  ·rw [if_neg hcond, if_neg (fun hh => hcond ⟨hh.2.2, hh.2.1⟩)]
section
variable {e' b0 sz n : Nat} {kk : TK} {z x0 x1 x2 x3 x4 x5 x6 x7 : Value} {l r : List Value} {xs : List Value}
theorem bs1 : bsE e' (some ⟨kk, sz, b0, z⟩) 1 [(0, x0)] h = bsK e' sz 1 h (cellsL sz [x0]) := bs_cells [x0]
theorem bs2 : bsE e' (some ⟨kk, sz, b0, z⟩) 2 [(0, x0), (1, x1)] h = bsK e' sz 2 h (cellsL sz [x0, x1]) := bs_cells [x0, x1]
theorem bs3 : bsE e' (some ⟨kk, sz, b0, z⟩) 3 [(0, x0), (1, x1), (2, x2)] h = bsK e' sz 3 h (cellsL sz [x0, x1, x2]) := bs_cells [x0, x1, x2]
theorem bs4 : bsE e' (some ⟨kk, sz, b0, z⟩) 4 [(0, x0), (1, x1), (2, x2), (3, x3)] h = bsK e' sz 4 h (cellsL sz [x0, x1, x2, x3]) := bs_cells [x0, x1, x2, x3]
theorem bs5 : bsE e' (some ⟨kk, sz, b0, z⟩) 5 [(0, x0), (1, x1), (2, x2), (3, x3), (4, x4)] h = bsK e' sz 5 h (cellsL sz [x0, x1, x2, x3, x4]) := bs_cells [x0, x1, x2, x3, x4]
theorem bs6 : bsE e' (some ⟨kk, sz, b0, z⟩) 6 [(0, x0), (1, x1), (2, x2), (3, x3), (4, x4), (5, x5)] h = bsK e' sz 6 h (cellsL sz [x0, x1, x2, x3, x4, x5]) := bs_cells [x0, x1, x2, x3, x4, x5]
def clK (sz : Nat) (a b : Option (List Value)) : Option (List Value) := a.bind fun l => if l.length = sz then b.map (l ++ ·) else none
theorem cL_nil : cellsL sz [] = some [] := rfl
theorem cL_cons : cellsL sz (x0 :: xs) = clK sz (cellsV x0) (cellsL sz xs) := rfl
theorem clK_ok (hl : l.length = sz) : clK sz (some l) (some r) = some (l ++ r) := by
 unfold clK
 rw [Option.bind_some, if_pos hl]
 rfl
theorem bsK_ok (hl : l.length = n * sz) (hz : 0 < sz) (hn : n * sz ≤ 16777216) : bsK e' sz n h (some l) = some (.slice (some ⟨h.next, 0, none⟩) n n, h.push ⟨e', sz, l⟩) := by
 unfold bsK
 rw [Option.bind_some, if_pos ⟨hl, hz, hn⟩]
end
theorem cv_isV {l : List Raw} : cellsV (isV l) = some [isV l] := rfl
theorem cv_mV {l : List (List Raw)} : cellsV (mV l) = some [mV l] := rfl
theorem cv_m3V {l : List (List (List Raw))} : cellsV (m3V l) = some [m3V l] := rfl
theorem cv_nsV {l : List Int} : cellsV (nsV l) = some [nsV l] := rfl
theorem cv_nmV {l : List (List Int)} : cellsV (nmV l) = some [nmV l] := rfl
theorem cv_i8V {l : List Int} : cellsV (i8V l) = some [i8V l] := rfl
theorem cv_rsV {l : List RRaw} : cellsV (rsV l) = some [rsV l] := rfl
theorem cv_u32S {l : List Nat} : cellsV (u32S l) = some [u32S l] := rfl
theorem cv_zV {x : Int} : cellsV (zV x) = some (iC (cz x)) := rfl
theorem cv_fS {n : Nat} {a : Array Value} : cellsV (fS n a) = some [fS n a] := rfl
theorem Own.seen {n0 ty sz len : Nat} {cs : List Value} {v : Value} (ho : Own n0 ty sz h v len cs) : QM.seen v = v := by
 obtain ⟨_, ⟨rfl, _⟩ | ⟨b, rfl, _⟩⟩ := ho <;> rfl
theorem Own.len {n0 ty sz len t e' s b0 : Nat} {z : Value} {cs : List Value} {v : Value} (ho : Own n0 ty sz h v len cs) : lenT (some ⟨.slice e', s, b0, z⟩) v = some (.int .i64 (len : Int)) := by
 obtain ⟨_, ⟨rfl, rfl⟩ | ⟨b, rfl, _⟩⟩ := ho <;> rfl
theorem vd : type_of% (And.intro (@next_push) (And.intro (@next_set) (And.intro (@next_skip) (And.intro (@u32L_len) (And.intro (@iC_len) (And.intro (@rC_len) (And.intro (@List.length_set.{0}) (And.intro (@List.length_replicate.{0}) (And.intro (@List.length_cons.{0}) (And.intro (@List.length_nil.{0}) (@List.length_append.{0}))))))))))) :=
 ⟨@next_push, @next_set, @next_skip, @u32L_len, @iC_len, @rC_len, @List.length_set, @List.length_replicate, @List.length_cons, @List.length_nil, @List.length_append⟩
end Go.QM
end

section
open Go Go.QM
namespace Go.Proofs.Ytjpknabdmmkobaa
abbrev i_string : TI := ⟨.string, 1, 16, .string ⟨#[]⟩⟩
abbrev i_int : TI := ⟨.int .i64, 1, 8, .int .i64 0⟩
abbrev i_int64 : TI := ⟨.int .i64, 1, 8, .int .i64 0⟩
abbrev i_bool : TI := ⟨.bool, 1, 1, .bool false⟩
abbrev i_uint8 : TI := ⟨.int .u8, 1, 1, .int .u8 0⟩
abbrev i_int8 : TI := ⟨.int .i8, 1, 1, .int .i8 0⟩
abbrev i_int32 : TI := ⟨.int .i32, 1, 4, .int .i32 0⟩
abbrev i_uint64 : TI := ⟨.int .u64, 1, 8, .int .u64 0⟩
abbrev i_uint32 : TI := ⟨.int .u32, 1, 4, .int .u32 0⟩
abbrev i_uint : TI := ⟨.int .u64, 1, 8, .int .u64 0⟩
abbrev i_Sint8 : TI := ⟨.slice 121, 1, 24, .slice none 0 0⟩
abbrev i_Suint32 : TI := ⟨.slice 88, 1, 24, .slice none 0 0⟩
abbrev i_Sint : TI := ⟨.slice 3, 1, 24, .slice none 0 0⟩
abbrev i_Sint64 : TI := ⟨.slice 2, 1, 24, .slice none 0 0⟩
abbrev i_SSint64 : TI := ⟨.slice 80, 1, 24, .slice none 0 0⟩
abbrev i_api_Int : TI := ⟨.struct [(0, 4), (1, 37)], 2, 32, .agg #[.bool false, .slice none 0 0]⟩
abbrev i_Sapi_Int : TI := ⟨.slice 39, 1, 24, .slice none 0 0⟩
abbrev i_SSapi_Int : TI := ⟨.slice 34, 1, 24, .slice none 0 0⟩
abbrev i_SSSapi_Int : TI := ⟨.slice 25, 1, 24, .slice none 0 0⟩
abbrev i_api_Rat : TI := ⟨.struct [(0, 39), (2, 39)], 4, 64, .agg #[.bool false, .slice none 0 0, .bool false, .slice none 0 0]⟩
abbrev i_Sapi_Rat : TI := ⟨.slice 58, 1, 24, .slice none 0 0⟩
abbrev i_api_Errno : TI := ⟨.int .i64, 1, 8, .int .i64 0⟩
abbrev i_quadformmake_Grid : TI := ⟨.struct [(0, 5), (1, 5), (2, 22)], 3, 32, .agg #[.int .u8 0, .int .u8 0, .slice none 0 0]⟩
abbrev i_quadformmake_Tape : TI := ⟨.struct [(0, 22), (1, 3)], 2, 32, .agg #[.slice none 0 0, .int .i64 0]⟩
abbrev i_Pquadformmake_Tape : TI := ⟨.pointer 117, 1, 8, .pointer none⟩
abbrev i_rational_fraction : TI := ⟨.struct [(0, 39), (2, 39)], 4, 64, .agg #[.bool false, .slice none 0 0, .bool false, .slice none 0 0]⟩
def tys : List (Nat × TI) := [(9, i_string), (3, i_int), (2, i_int64), (4, i_bool), (5, i_uint8), (121, i_int8), (21, i_int32), (86, i_uint64), (88, i_uint32), (89, i_uint), (22, i_Sint8), (37, i_Suint32), (72, i_Sint), (80, i_Sint64), (81, i_SSint64), (39, i_api_Int), (34, i_Sapi_Int), (25, i_SSapi_Int), (28, i_SSSapi_Int), (58, i_api_Rat), (51, i_Sapi_Rat), (52, i_api_Errno), (24, i_quadformmake_Grid), (117, i_quadformmake_Tape), (115, i_Pquadformmake_Tape), (123, i_rational_fraction)]
def tyAt : TypeId → Option TI
 | 9 => some i_string
 | 3 => some i_int
 | 2 => some i_int64
 | 4 => some i_bool
 | 5 => some i_uint8
 | 121 => some i_int8
 | 21 => some i_int32
 | 86 => some i_uint64
 | 88 => some i_uint32
 | 89 => some i_uint
 | 22 => some i_Sint8
 | 37 => some i_Suint32
 | 72 => some i_Sint
 | 80 => some i_Sint64
 | 81 => some i_SSint64
 | 39 => some i_api_Int
 | 34 => some i_Sapi_Int
 | 25 => some i_SSapi_Int
 | 28 => some i_SSSapi_Int
 | 58 => some i_api_Rat
 | 51 => some i_Sapi_Rat
 | 52 => some i_api_Errno
 | 24 => some i_quadformmake_Grid
 | 117 => some i_quadformmake_Tape
 | 115 => some i_Pquadformmake_Tape
 | 123 => some i_rational_fraction
 | _ => none
def cfg : Cfg := ⟨tyAt, 0, fun _ => false⟩
theorem t_string : cfg.T 9 = some ⟨.string, 1, 16, .string ⟨#[]⟩⟩ := rfl
theorem t_int : cfg.T 3 = some ⟨.int .i64, 1, 8, .int .i64 0⟩ := rfl
theorem t_int64 : cfg.T 2 = some ⟨.int .i64, 1, 8, .int .i64 0⟩ := rfl
theorem t_bool : cfg.T 4 = some ⟨.bool, 1, 1, .bool false⟩ := rfl
theorem t_uint8 : cfg.T 5 = some ⟨.int .u8, 1, 1, .int .u8 0⟩ := rfl
theorem t_int8 : cfg.T 121 = some ⟨.int .i8, 1, 1, .int .i8 0⟩ := rfl
theorem t_int32 : cfg.T 21 = some ⟨.int .i32, 1, 4, .int .i32 0⟩ := rfl
theorem t_uint64 : cfg.T 86 = some ⟨.int .u64, 1, 8, .int .u64 0⟩ := rfl
theorem t_uint32 : cfg.T 88 = some ⟨.int .u32, 1, 4, .int .u32 0⟩ := rfl
theorem t_uint : cfg.T 89 = some ⟨.int .u64, 1, 8, .int .u64 0⟩ := rfl
theorem t_Sint8 : cfg.T 22 = some ⟨.slice 121, 1, 24, .slice none 0 0⟩ := rfl
theorem t_Suint32 : cfg.T 37 = some ⟨.slice 88, 1, 24, .slice none 0 0⟩ := rfl
theorem t_Sint : cfg.T 72 = some ⟨.slice 3, 1, 24, .slice none 0 0⟩ := rfl
theorem t_Sint64 : cfg.T 80 = some ⟨.slice 2, 1, 24, .slice none 0 0⟩ := rfl
theorem t_SSint64 : cfg.T 81 = some ⟨.slice 80, 1, 24, .slice none 0 0⟩ := rfl
theorem t_api_Int : cfg.T 39 = some ⟨.struct [(0, 4), (1, 37)], 2, 32, .agg #[.bool false, .slice none 0 0]⟩ := rfl
theorem t_Sapi_Int : cfg.T 34 = some ⟨.slice 39, 1, 24, .slice none 0 0⟩ := rfl
theorem t_SSapi_Int : cfg.T 25 = some ⟨.slice 34, 1, 24, .slice none 0 0⟩ := rfl
theorem t_SSSapi_Int : cfg.T 28 = some ⟨.slice 25, 1, 24, .slice none 0 0⟩ := rfl
theorem t_api_Rat : cfg.T 58 = some ⟨.struct [(0, 39), (2, 39)], 4, 64, .agg #[.bool false, .slice none 0 0, .bool false, .slice none 0 0]⟩ := rfl
theorem t_Sapi_Rat : cfg.T 51 = some ⟨.slice 58, 1, 24, .slice none 0 0⟩ := rfl
theorem t_api_Errno : cfg.T 52 = some ⟨.int .i64, 1, 8, .int .i64 0⟩ := rfl
theorem t_quadformmake_Grid : cfg.T 24 = some ⟨.struct [(0, 5), (1, 5), (2, 22)], 3, 32, .agg #[.int .u8 0, .int .u8 0, .slice none 0 0]⟩ := rfl
theorem t_quadformmake_Tape : cfg.T 117 = some ⟨.struct [(0, 22), (1, 3)], 2, 32, .agg #[.slice none 0 0, .int .i64 0]⟩ := rfl
theorem t_Pquadformmake_Tape : cfg.T 115 = some ⟨.pointer 117, 1, 8, .pointer none⟩ := rfl
theorem t_rational_fraction : cfg.T 123 = some ⟨.struct [(0, 39), (2, 39)], 4, 64, .agg #[.bool false, .slice none 0 0, .bool false, .slice none 0 0]⟩ := rfl
theorem k_string : TOk Try.prog 9 i_string := TOk.of (by kernel_rfl) (by kernel_rfl) rfl
theorem k_int : TOk Try.prog 3 i_int := TOk.of (by kernel_rfl) (by kernel_rfl) rfl
theorem k_int64 : TOk Try.prog 2 i_int64 := TOk.of (by kernel_rfl) (by kernel_rfl) rfl
theorem k_bool : TOk Try.prog 4 i_bool := TOk.of (by kernel_rfl) (by kernel_rfl) rfl
theorem k_uint8 : TOk Try.prog 5 i_uint8 := TOk.of (by kernel_rfl) (by kernel_rfl) rfl
theorem k_int8 : TOk Try.prog 121 i_int8 := TOk.of (by kernel_rfl) (by kernel_rfl) rfl
theorem k_int32 : TOk Try.prog 21 i_int32 := TOk.of (by kernel_rfl) (by kernel_rfl) rfl
theorem k_uint64 : TOk Try.prog 86 i_uint64 := TOk.of (by kernel_rfl) (by kernel_rfl) rfl
theorem k_uint32 : TOk Try.prog 88 i_uint32 := TOk.of (by kernel_rfl) (by kernel_rfl) rfl
theorem k_uint : TOk Try.prog 89 i_uint := TOk.of (by kernel_rfl) (by kernel_rfl) rfl
theorem k_Sint8 : TOk Try.prog 22 i_Sint8 := TOk.of (by kernel_rfl) (by kernel_rfl) rfl
theorem k_Suint32 : TOk Try.prog 37 i_Suint32 := TOk.of (by kernel_rfl) (by kernel_rfl) rfl
theorem k_Sint : TOk Try.prog 72 i_Sint := TOk.of (by kernel_rfl) (by kernel_rfl) rfl
theorem k_Sint64 : TOk Try.prog 80 i_Sint64 := TOk.of (by kernel_rfl) (by kernel_rfl) rfl
theorem k_SSint64 : TOk Try.prog 81 i_SSint64 := TOk.of (by kernel_rfl) (by kernel_rfl) rfl
theorem k_api_Int : TOk Try.prog 39 i_api_Int := TOk.of (by kernel_rfl) (by kernel_rfl) rfl
theorem k_Sapi_Int : TOk Try.prog 34 i_Sapi_Int := TOk.of (by kernel_rfl) (by kernel_rfl) rfl
theorem k_SSapi_Int : TOk Try.prog 25 i_SSapi_Int := TOk.of (by kernel_rfl) (by kernel_rfl) rfl
theorem k_SSSapi_Int : TOk Try.prog 28 i_SSSapi_Int := TOk.of (by kernel_rfl) (by kernel_rfl) rfl
theorem k_api_Rat : TOk Try.prog 58 i_api_Rat := TOk.of (by kernel_rfl) (by kernel_rfl) rfl
theorem k_Sapi_Rat : TOk Try.prog 51 i_Sapi_Rat := TOk.of (by kernel_rfl) (by kernel_rfl) rfl
theorem k_api_Errno : TOk Try.prog 52 i_api_Errno := TOk.of (by kernel_rfl) (by kernel_rfl) rfl
theorem k_quadformmake_Grid : TOk Try.prog 24 i_quadformmake_Grid := TOk.of (by kernel_rfl) (by kernel_rfl) rfl
theorem k_quadformmake_Tape : TOk Try.prog 117 i_quadformmake_Tape := TOk.of (by kernel_rfl) (by kernel_rfl) rfl
theorem k_Pquadformmake_Tape : TOk Try.prog 115 i_Pquadformmake_Tape := TOk.of (by kernel_rfl) (by kernel_rfl) rfl
theorem k_rational_fraction : TOk Try.prog 123 i_rational_fraction := TOk.of (by kernel_rfl) (by kernel_rfl) rfl
theorem cfg_ok : cfg.Ok Try.prog := by
 intro t i h
 unfold cfg tyAt at h
 simp only at h
 split at h <;> first | (injection h with h; subst h; first | exact k_string | exact k_int | exact k_int64 | exact k_bool | exact k_uint8 | exact k_int8 | exact k_int32 | exact k_uint64 | exact k_uint32 | exact k_uint | exact k_Sint8 | exact k_Suint32 | exact k_Sint | exact k_Sint64 | exact k_SSint64 | exact k_api_Int | exact k_Sapi_Int | exact k_SSapi_Int | exact k_SSSapi_Int | exact k_api_Rat | exact k_Sapi_Rat | exact k_api_Errno | exact k_quadformmake_Grid | exact k_quadformmake_Tape | exact k_Pquadformmake_Tape | exact k_rational_fraction) | cases h
theorem fa_api_Int_0 {b off : Nat} : fldAV cfg 39 (.pointer (some ⟨b, off, none⟩)) 0 = some (.pointer (some ⟨b, off + 0, none⟩)) := rfl
theorem ff_api_Int_0 {off : Nat} {cs : Array Value} : fldAV cfg 39 (fP off cs) 0 = some (fP (off + 0) cs) := rfl
theorem fv_api_Int_0 {x0 x1 : Value} : fldV cfg 39 (.agg #[x0, x1]) 0 = some (x0) := rfl
theorem fa_api_Int_1 {b off : Nat} : fldAV cfg 39 (.pointer (some ⟨b, off, none⟩)) 1 = some (.pointer (some ⟨b, off + 1, none⟩)) := rfl
theorem ff_api_Int_1 {off : Nat} {cs : Array Value} : fldAV cfg 39 (fP off cs) 1 = some (fP (off + 1) cs) := rfl
theorem fv_api_Int_1 {x0 x1 : Value} : fldV cfg 39 (.agg #[x0, x1]) 1 = some (x1) := rfl
theorem bz_api_Int : buildV cfg 39 [] = some (.agg #[.bool false, .slice none 0 0]) := rfl
theorem bf_api_Int_0 {q0 : Bool} {fq1 : Fn} {yq1 zq1 : Array Value} : buildV cfg 39 [(0, .bool q0), (1, .func fq1 yq1 zq1)] = some (.agg #[.bool q0, .func fq1 yq1 zq1]) := rfl
theorem bf_api_Int_1 {q0 : Bool} {aq1 : Option Addr} {lq1 cq1 : Nat} : buildV cfg 39 [(0, .bool q0), (1, .slice aq1 lq1 cq1)] = some (.agg #[.bool q0, .slice aq1 lq1 cq1]) := rfl
theorem bf_api_Int_2 {q0 : Bool} {wq1 : List Nat} : buildV cfg 39 [(0, .bool q0), (1, u32S wq1)] = some (.agg #[.bool q0, u32S wq1]) := rfl
theorem fa_api_Rat_0 {b off : Nat} : fldAV cfg 58 (.pointer (some ⟨b, off, none⟩)) 0 = some (.pointer (some ⟨b, off + 0, none⟩)) := rfl
theorem ff_api_Rat_0 {off : Nat} {cs : Array Value} : fldAV cfg 58 (fP off cs) 0 = some (fP (off + 0) cs) := rfl
theorem fv_api_Rat_0 {x0 x1 x2 x3 : Value} : fldV cfg 58 (.agg #[x0, x1, x2, x3]) 0 = some (.agg #[x0, x1]) := rfl
theorem fa_api_Rat_1 {b off : Nat} : fldAV cfg 58 (.pointer (some ⟨b, off, none⟩)) 1 = some (.pointer (some ⟨b, off + 2, none⟩)) := rfl
theorem ff_api_Rat_1 {off : Nat} {cs : Array Value} : fldAV cfg 58 (fP off cs) 1 = some (fP (off + 2) cs) := rfl
theorem fv_api_Rat_1 {x0 x1 x2 x3 : Value} : fldV cfg 58 (.agg #[x0, x1, x2, x3]) 1 = some (.agg #[x2, x3]) := rfl
theorem bz_api_Rat : buildV cfg 58 [] = some (.agg #[.bool false, .slice none 0 0, .bool false, .slice none 0 0]) := rfl
theorem bf_api_Rat_0 {xq00 xq01 : Value} {xq10 xq11 : Value} : buildV cfg 58 [(0, .agg #[xq00, xq01]), (1, .agg #[xq10, xq11])] = some (.agg #[xq00, xq01, xq10, xq11]) := rfl
theorem fa_quadformmake_Grid_0 {b off : Nat} : fldAV cfg 24 (.pointer (some ⟨b, off, none⟩)) 0 = some (.pointer (some ⟨b, off + 0, none⟩)) := rfl
theorem ff_quadformmake_Grid_0 {off : Nat} {cs : Array Value} : fldAV cfg 24 (fP off cs) 0 = some (fP (off + 0) cs) := rfl
theorem fv_quadformmake_Grid_0 {x0 x1 x2 : Value} : fldV cfg 24 (.agg #[x0, x1, x2]) 0 = some (x0) := rfl
theorem fa_quadformmake_Grid_1 {b off : Nat} : fldAV cfg 24 (.pointer (some ⟨b, off, none⟩)) 1 = some (.pointer (some ⟨b, off + 1, none⟩)) := rfl
theorem ff_quadformmake_Grid_1 {off : Nat} {cs : Array Value} : fldAV cfg 24 (fP off cs) 1 = some (fP (off + 1) cs) := rfl
theorem fv_quadformmake_Grid_1 {x0 x1 x2 : Value} : fldV cfg 24 (.agg #[x0, x1, x2]) 1 = some (x1) := rfl
theorem fa_quadformmake_Grid_2 {b off : Nat} : fldAV cfg 24 (.pointer (some ⟨b, off, none⟩)) 2 = some (.pointer (some ⟨b, off + 2, none⟩)) := rfl
theorem ff_quadformmake_Grid_2 {off : Nat} {cs : Array Value} : fldAV cfg 24 (fP off cs) 2 = some (fP (off + 2) cs) := rfl
theorem fv_quadformmake_Grid_2 {x0 x1 x2 : Value} : fldV cfg 24 (.agg #[x0, x1, x2]) 2 = some (x2) := rfl
theorem bz_quadformmake_Grid : buildV cfg 24 [] = some (.agg #[.int .u8 0, .int .u8 0, .slice none 0 0]) := rfl
theorem bf_quadformmake_Grid_0 {q0 : Int} {kq0 : IntKind} {q1 : Int} {kq1 : IntKind} {fq2 : Fn} {yq2 zq2 : Array Value} : buildV cfg 24 [(0, .int kq0 q0), (1, .int kq1 q1), (2, .func fq2 yq2 zq2)] = some (.agg #[.int kq0 q0, .int kq1 q1, .func fq2 yq2 zq2]) := rfl
theorem bf_quadformmake_Grid_1 {q0 : Int} {kq0 : IntKind} {q1 : Int} {kq1 : IntKind} {aq2 : Option Addr} {lq2 cq2 : Nat} : buildV cfg 24 [(0, .int kq0 q0), (1, .int kq1 q1), (2, .slice aq2 lq2 cq2)] = some (.agg #[.int kq0 q0, .int kq1 q1, .slice aq2 lq2 cq2]) := rfl
theorem fa_quadformmake_Tape_0 {b off : Nat} : fldAV cfg 117 (.pointer (some ⟨b, off, none⟩)) 0 = some (.pointer (some ⟨b, off + 0, none⟩)) := rfl
theorem ff_quadformmake_Tape_0 {off : Nat} {cs : Array Value} : fldAV cfg 117 (fP off cs) 0 = some (fP (off + 0) cs) := rfl
theorem fv_quadformmake_Tape_0 {x0 x1 : Value} : fldV cfg 117 (.agg #[x0, x1]) 0 = some (x0) := rfl
theorem fa_quadformmake_Tape_1 {b off : Nat} : fldAV cfg 117 (.pointer (some ⟨b, off, none⟩)) 1 = some (.pointer (some ⟨b, off + 1, none⟩)) := rfl
theorem ff_quadformmake_Tape_1 {off : Nat} {cs : Array Value} : fldAV cfg 117 (fP off cs) 1 = some (fP (off + 1) cs) := rfl
theorem fv_quadformmake_Tape_1 {x0 x1 : Value} : fldV cfg 117 (.agg #[x0, x1]) 1 = some (x1) := rfl
theorem bz_quadformmake_Tape : buildV cfg 117 [] = some (.agg #[.slice none 0 0, .int .i64 0]) := rfl
theorem bf_quadformmake_Tape_0 {fq0 : Fn} {yq0 zq0 : Array Value} {q1 : Int} {kq1 : IntKind} : buildV cfg 117 [(0, .func fq0 yq0 zq0), (1, .int kq1 q1)] = some (.agg #[.func fq0 yq0 zq0, .int kq1 q1]) := rfl
theorem bf_quadformmake_Tape_1 {aq0 : Option Addr} {lq0 cq0 : Nat} {q1 : Int} {kq1 : IntKind} : buildV cfg 117 [(0, .slice aq0 lq0 cq0), (1, .int kq1 q1)] = some (.agg #[.slice aq0 lq0 cq0, .int kq1 q1]) := rfl
theorem fa_rational_fraction_0 {b off : Nat} : fldAV cfg 123 (.pointer (some ⟨b, off, none⟩)) 0 = some (.pointer (some ⟨b, off + 0, none⟩)) := rfl
theorem ff_rational_fraction_0 {off : Nat} {cs : Array Value} : fldAV cfg 123 (fP off cs) 0 = some (fP (off + 0) cs) := rfl
theorem fv_rational_fraction_0 {x0 x1 x2 x3 : Value} : fldV cfg 123 (.agg #[x0, x1, x2, x3]) 0 = some (.agg #[x0, x1]) := rfl
theorem fa_rational_fraction_1 {b off : Nat} : fldAV cfg 123 (.pointer (some ⟨b, off, none⟩)) 1 = some (.pointer (some ⟨b, off + 2, none⟩)) := rfl
theorem ff_rational_fraction_1 {off : Nat} {cs : Array Value} : fldAV cfg 123 (fP off cs) 1 = some (fP (off + 2) cs) := rfl
theorem fv_rational_fraction_1 {x0 x1 x2 x3 : Value} : fldV cfg 123 (.agg #[x0, x1, x2, x3]) 1 = some (.agg #[x2, x3]) := rfl
theorem bz_rational_fraction : buildV cfg 123 [] = some (.agg #[.bool false, .slice none 0 0, .bool false, .slice none 0 0]) := rfl
theorem bf_rational_fraction_0 {xq00 xq01 : Value} {xq10 xq11 : Value} : buildV cfg 123 [(0, .agg #[xq00, xq01]), (1, .agg #[xq10, xq11])] = some (.agg #[xq00, xq01, xq10, xq11]) := rfl
theorem st0 {t : TypeId} {x y : Value} {h : VH} : storeV cfg t x y h = storeT (cfg.T t) x y h := st rfl
theorem vs : type_of% (And.intro (And.intro (And.intro (And.intro (And.intro (And.intro (And.intro (And.intro (vm Try.prog cfg) (@ld cfg)) (And.intro (@ix cfg) (@ln cfg))) (And.intro (And.intro (@cv cfg) (@sl cfg)) (And.intro (@mk cfg) (@bs cfg)))) (And.intro (And.intro (And.intro (@st0) (@ldT_int)) (And.intro (@ldT_bool) (@ldT_string))) (And.intro (And.intro (@ldT_slice) (@ldT_ptr)) (And.intro (@ldT_other) (@ldT_struct))))) (And.intro (And.intro (And.intro (And.intro (@ldF_int) (@ldF_bool)) (And.intro (@ldF_string) (@ldF_slice))) (And.intro (And.intro (@ldF_ptr) (@ldF_other)) (And.intro (@ldF2) (@ldF3)))) (And.intro (And.intro (And.intro (@ldF4) (@ldF42a)) (And.intro (@ldF42b) (@st_int))) (And.intro (And.intro (@st_bool) (@st_string)) (And.intro (@st_slice) (And.intro (@st_ptr) (@st_func))))))) (And.intro (And.intro (And.intro (And.intro (And.intro (@st_u32S) (@st_agg2)) (And.intro (@st_agg3) (@st_agg4))) (And.intro (And.intro (@wr_p2) (@wr_p3)) (And.intro (@wr_p4) (@rd_p2)))) (And.intro (And.intro (And.intro (@rd_p3) (@rd_p4)) (And.intro (@cv_int) (@cv_bool))) (And.intro (And.intro (@cv_string) (@cv_slice)) (And.intro (@cv_ptr) (@cv_func))))) (And.intro (And.intro (And.intro (And.intro (@cv_agg) (@ixE_ok)) (And.intro (@ixF_u32) (@ln_sl))) (And.intro (And.intro (@ln_fS) (@ln_u32S)) (And.intro (@cvT_int) (@bB_eq)))) (And.intro (And.intro (And.intro (@bB_ne) (@bS_eq)) (And.intro (@bS_ne) (@mkE_u32))) (And.intro (And.intro (@rd1_push') (@wr1_push')) (And.intro (@rd1_push_ne) (And.intro (@rdN_push_ne) (@wr1_push_ne)))))))) (And.intro (And.intro (And.intro (And.intro (And.intro (And.intro (@u32L_get') (@u32L_set)) (And.intro (@slW_a) (@slW_b))) (And.intro (And.intro (@fzT_ptr) (@fzT_u32)) (And.intro (@nilT_nil) (@set_push_none)))) (And.intro (And.intro (And.intro (@set_push_ne) (@set_skip_ne)) (And.intro (@rd1_skip_ne) (@rdN_skip_ne))) (And.intro (And.intro (@wr1_skip_ne) (@wrap_i64)) (And.intro (@wrap_u64) (@wrap_u32))))) (And.intro (And.intro (And.intro (And.intro (@wrap_u8) (@wrap_i32)) (And.intro (@wrap_i8) (@dec_t))) (And.intro (And.intro (@dec_f) (@u32L_len)) (And.intro (@s_isV) (@s_vlV)))) (And.intro (And.intro (And.intro (@s_mV) (@s_m3V)) (And.intro (@s_nsV) (@s_nmV))) (And.intro (And.intro (@s_i8V) (@s_rsV)) (And.intro (@s_zV) (And.intro (@ln_isV) (@ln_mV))))))) (And.intro (And.intro (And.intro (And.intro (And.intro (@ln_m3V) (@ln_nsV)) (And.intro (@ln_nmV) (@ln_i8V))) (And.intro (And.intro (@ln_rsV) (@ixF_iC)) (And.intro (@ixF_rC) (@ixF_map)))) (And.intro (And.intro (And.intro (@g_mV) (@g_m3V)) (And.intro (@g_nsV) (@g_nmV))) (And.intro (And.intro (@ldF_iC) (@ldF_rC)) (And.intro (@gF_iC0) (And.intro (@gF_iC1) (@owl_t)))))) (And.intro (And.intro (And.intro (And.intro (@owl_f) (@gr0_refl)) (And.intro (@gr0_push) (@set_push'))) (And.intro (And.intro (@lo_un) (@rd1_set)) (And.intro (@wr1_set) (@rdS_p)))) (And.intro (And.intro (And.intro (@rdS_isV) (@rdS_u32S)) (And.intro (@rdS_vlV) (@bs1))) (And.intro (And.intro (@bs2) (@bs3)) (And.intro (@bs4) (And.intro (@bs5) (@bs6))))))))) (And.intro (And.intro (And.intro (And.intro (And.intro (And.intro (And.intro (@cL_nil) (@cL_cons)) (And.intro (@clK_ok) (@bsK_ok))) (And.intro (And.intro (@cv_isV) (@cv_mV)) (And.intro (@cv_m3V) (@cv_nsV)))) (And.intro (And.intro (And.intro (@cv_nmV) (@cv_i8V)) (And.intro (@cv_rsV) (@cv_u32S))) (And.intro (And.intro (@cv_zV) (@WTL.nil Try.prog cfg)) (And.intro (@WTL.cons Try.prog cfg) (@bsT_sl cfg))))) (And.intro (And.intro (And.intro (And.intro (@ix_isV cfg) (@ix_rsV cfg)) (And.intro (@ix_mV cfg) (@ix_m3V cfg))) (And.intro (And.intro (@ix_nsV cfg) (@ix_nmV cfg)) (And.intro (@ix_i8V cfg) (@b_bb cfg)))) (And.intro (And.intro (And.intro (@b_ss cfg) (@ix_sl cfg)) (And.intro (@ix_fS cfg) (@ix_u32S cfg))) (And.intro (And.intro (@mk_sl cfg) (@sl_u32a cfg)) (And.intro (@sl_u32b cfg) (And.intro (@b_quo' cfg) (@b_rem' cfg))))))) (And.intro (And.intro (And.intro (And.intro (And.intro (@b_or64 cfg) (@b_and32 cfg)) (And.intro (@b_shr32 cfg) (@b_shr63 cfg))) (And.intro (And.intro (@b_shl32 cfg) (@b_shr16w cfg)) (And.intro (@b_shr8w cfg) (@fa_api_Int_0)))) (And.intro (And.intro (And.intro (@ff_api_Int_0) (@fv_api_Int_0)) (And.intro (@fa_api_Int_1) (@ff_api_Int_1))) (And.intro (And.intro (@fv_api_Int_1) (@bz_api_Int)) (And.intro (@bf_api_Int_0) (And.intro (@bf_api_Int_1) (@bf_api_Int_2)))))) (And.intro (And.intro (And.intro (And.intro (@fa_api_Rat_0) (@ff_api_Rat_0)) (And.intro (@fv_api_Rat_0) (@fa_api_Rat_1))) (And.intro (And.intro (@ff_api_Rat_1) (@fv_api_Rat_1)) (And.intro (@bz_api_Rat) (@bf_api_Rat_0)))) (And.intro (And.intro (And.intro (@fa_quadformmake_Grid_0) (@ff_quadformmake_Grid_0)) (And.intro (@fv_quadformmake_Grid_0) (@fa_quadformmake_Grid_1))) (And.intro (And.intro (@ff_quadformmake_Grid_1) (@fv_quadformmake_Grid_1)) (And.intro (@fa_quadformmake_Grid_2) (And.intro (@ff_quadformmake_Grid_2) (@fv_quadformmake_Grid_2)))))))) (And.intro (And.intro (And.intro (And.intro (And.intro (And.intro (@bz_quadformmake_Grid) (@bf_quadformmake_Grid_0)) (And.intro (@bf_quadformmake_Grid_1) (@fa_quadformmake_Tape_0))) (And.intro (And.intro (@ff_quadformmake_Tape_0) (@fv_quadformmake_Tape_0)) (And.intro (@fa_quadformmake_Tape_1) (@ff_quadformmake_Tape_1)))) (And.intro (And.intro (And.intro (@fv_quadformmake_Tape_1) (@bz_quadformmake_Tape)) (And.intro (@bf_quadformmake_Tape_0) (@bf_quadformmake_Tape_1))) (And.intro (And.intro (@fa_rational_fraction_0) (@ff_rational_fraction_0)) (And.intro (@fv_rational_fraction_0) (@fa_rational_fraction_1))))) (And.intro (And.intro (And.intro (And.intro (@ff_rational_fraction_1) (@fv_rational_fraction_1)) (And.intro (@bz_rational_fraction) (@bf_rational_fraction_0))) (And.intro (And.intro (t_string) (t_int)) (And.intro (t_int64) (t_bool)))) (And.intro (And.intro (And.intro (t_uint8) (t_int8)) (And.intro (t_int32) (t_uint64))) (And.intro (And.intro (t_uint32) (t_uint)) (And.intro (t_Sint8) (And.intro (t_Suint32) (t_Sint))))))) (And.intro (And.intro (And.intro (And.intro (And.intro (t_Sint64) (t_SSint64)) (And.intro (t_api_Int) (t_Sapi_Int))) (And.intro (And.intro (t_SSapi_Int) (t_SSSapi_Int)) (And.intro (t_api_Rat) (t_Sapi_Rat)))) (And.intro (And.intro (And.intro (t_api_Errno) (t_quadformmake_Grid)) (And.intro (t_quadformmake_Tape) (t_Pquadformmake_Tape))) (And.intro (And.intro (t_rational_fraction) (@Nat.zero_add)) (And.intro (@Nat.mul_one) (And.intro (@List.getElem?_toArray.{0}) (@List.getElem?_cons_zero.{0})))))) (And.intro (And.intro (And.intro (And.intro (@List.getElem?_cons_succ.{0}) (@Option.map_none.{0, 0})) (And.intro (@Option.map_some.{0, 0}) (@Option.bind_some.{0, 0}))) (And.intro (And.intro (@List.map_cons.{0, 0}) (@List.map_nil.{0, 0})) (And.intro (@List.length_cons.{0}) (@List.length_nil.{0})))) (And.intro (And.intro (And.intro (@List.set_cons_zero.{0}) (@List.set_cons_succ.{0})) (And.intro (@List.drop_zero.{0}) (@List.drop_succ_cons.{0}))) (And.intro (And.intro (@List.take_zero.{0}) (@List.take_succ_cons.{0})) (And.intro (@List.nil_append.{0}) (And.intro (@List.cons_append.{0}) (@List.append_nil.{0})))))))))) :=
 And.intro (And.intro (And.intro (And.intro (And.intro (And.intro (And.intro (And.intro (vm Try.prog cfg) (@ld cfg)) (And.intro (@ix cfg) (@ln cfg))) (And.intro (And.intro (@cv cfg) (@sl cfg)) (And.intro (@mk cfg) (@bs cfg)))) (And.intro (And.intro (And.intro (@st0) (@ldT_int)) (And.intro (@ldT_bool) (@ldT_string))) (And.intro (And.intro (@ldT_slice) (@ldT_ptr)) (And.intro (@ldT_other) (@ldT_struct))))) (And.intro (And.intro (And.intro (And.intro (@ldF_int) (@ldF_bool)) (And.intro (@ldF_string) (@ldF_slice))) (And.intro (And.intro (@ldF_ptr) (@ldF_other)) (And.intro (@ldF2) (@ldF3)))) (And.intro (And.intro (And.intro (@ldF4) (@ldF42a)) (And.intro (@ldF42b) (@st_int))) (And.intro (And.intro (@st_bool) (@st_string)) (And.intro (@st_slice) (And.intro (@st_ptr) (@st_func))))))) (And.intro (And.intro (And.intro (And.intro (And.intro (@st_u32S) (@st_agg2)) (And.intro (@st_agg3) (@st_agg4))) (And.intro (And.intro (@wr_p2) (@wr_p3)) (And.intro (@wr_p4) (@rd_p2)))) (And.intro (And.intro (And.intro (@rd_p3) (@rd_p4)) (And.intro (@cv_int) (@cv_bool))) (And.intro (And.intro (@cv_string) (@cv_slice)) (And.intro (@cv_ptr) (@cv_func))))) (And.intro (And.intro (And.intro (And.intro (@cv_agg) (@ixE_ok)) (And.intro (@ixF_u32) (@ln_sl))) (And.intro (And.intro (@ln_fS) (@ln_u32S)) (And.intro (@cvT_int) (@bB_eq)))) (And.intro (And.intro (And.intro (@bB_ne) (@bS_eq)) (And.intro (@bS_ne) (@mkE_u32))) (And.intro (And.intro (@rd1_push') (@wr1_push')) (And.intro (@rd1_push_ne) (And.intro (@rdN_push_ne) (@wr1_push_ne)))))))) (And.intro (And.intro (And.intro (And.intro (And.intro (And.intro (@u32L_get') (@u32L_set)) (And.intro (@slW_a) (@slW_b))) (And.intro (And.intro (@fzT_ptr) (@fzT_u32)) (And.intro (@nilT_nil) (@set_push_none)))) (And.intro (And.intro (And.intro (@set_push_ne) (@set_skip_ne)) (And.intro (@rd1_skip_ne) (@rdN_skip_ne))) (And.intro (And.intro (@wr1_skip_ne) (@wrap_i64)) (And.intro (@wrap_u64) (@wrap_u32))))) (And.intro (And.intro (And.intro (And.intro (@wrap_u8) (@wrap_i32)) (And.intro (@wrap_i8) (@dec_t))) (And.intro (And.intro (@dec_f) (@u32L_len)) (And.intro (@s_isV) (@s_vlV)))) (And.intro (And.intro (And.intro (@s_mV) (@s_m3V)) (And.intro (@s_nsV) (@s_nmV))) (And.intro (And.intro (@s_i8V) (@s_rsV)) (And.intro (@s_zV) (And.intro (@ln_isV) (@ln_mV))))))) (And.intro (And.intro (And.intro (And.intro (And.intro (@ln_m3V) (@ln_nsV)) (And.intro (@ln_nmV) (@ln_i8V))) (And.intro (And.intro (@ln_rsV) (@ixF_iC)) (And.intro (@ixF_rC) (@ixF_map)))) (And.intro (And.intro (And.intro (@g_mV) (@g_m3V)) (And.intro (@g_nsV) (@g_nmV))) (And.intro (And.intro (@ldF_iC) (@ldF_rC)) (And.intro (@gF_iC0) (And.intro (@gF_iC1) (@owl_t)))))) (And.intro (And.intro (And.intro (And.intro (@owl_f) (@gr0_refl)) (And.intro (@gr0_push) (@set_push'))) (And.intro (And.intro (@lo_un) (@rd1_set)) (And.intro (@wr1_set) (@rdS_p)))) (And.intro (And.intro (And.intro (@rdS_isV) (@rdS_u32S)) (And.intro (@rdS_vlV) (@bs1))) (And.intro (And.intro (@bs2) (@bs3)) (And.intro (@bs4) (And.intro (@bs5) (@bs6))))))))) (And.intro (And.intro (And.intro (And.intro (And.intro (And.intro (And.intro (@cL_nil) (@cL_cons)) (And.intro (@clK_ok) (@bsK_ok))) (And.intro (And.intro (@cv_isV) (@cv_mV)) (And.intro (@cv_m3V) (@cv_nsV)))) (And.intro (And.intro (And.intro (@cv_nmV) (@cv_i8V)) (And.intro (@cv_rsV) (@cv_u32S))) (And.intro (And.intro (@cv_zV) (@WTL.nil Try.prog cfg)) (And.intro (@WTL.cons Try.prog cfg) (@bsT_sl cfg))))) (And.intro (And.intro (And.intro (And.intro (@ix_isV cfg) (@ix_rsV cfg)) (And.intro (@ix_mV cfg) (@ix_m3V cfg))) (And.intro (And.intro (@ix_nsV cfg) (@ix_nmV cfg)) (And.intro (@ix_i8V cfg) (@b_bb cfg)))) (And.intro (And.intro (And.intro (@b_ss cfg) (@ix_sl cfg)) (And.intro (@ix_fS cfg) (@ix_u32S cfg))) (And.intro (And.intro (@mk_sl cfg) (@sl_u32a cfg)) (And.intro (@sl_u32b cfg) (And.intro (@b_quo' cfg) (@b_rem' cfg))))))) (And.intro (And.intro (And.intro (And.intro (And.intro (@b_or64 cfg) (@b_and32 cfg)) (And.intro (@b_shr32 cfg) (@b_shr63 cfg))) (And.intro (And.intro (@b_shl32 cfg) (@b_shr16w cfg)) (And.intro (@b_shr8w cfg) (@fa_api_Int_0)))) (And.intro (And.intro (And.intro (@ff_api_Int_0) (@fv_api_Int_0)) (And.intro (@fa_api_Int_1) (@ff_api_Int_1))) (And.intro (And.intro (@fv_api_Int_1) (@bz_api_Int)) (And.intro (@bf_api_Int_0) (And.intro (@bf_api_Int_1) (@bf_api_Int_2)))))) (And.intro (And.intro (And.intro (And.intro (@fa_api_Rat_0) (@ff_api_Rat_0)) (And.intro (@fv_api_Rat_0) (@fa_api_Rat_1))) (And.intro (And.intro (@ff_api_Rat_1) (@fv_api_Rat_1)) (And.intro (@bz_api_Rat) (@bf_api_Rat_0)))) (And.intro (And.intro (And.intro (@fa_quadformmake_Grid_0) (@ff_quadformmake_Grid_0)) (And.intro (@fv_quadformmake_Grid_0) (@fa_quadformmake_Grid_1))) (And.intro (And.intro (@ff_quadformmake_Grid_1) (@fv_quadformmake_Grid_1)) (And.intro (@fa_quadformmake_Grid_2) (And.intro (@ff_quadformmake_Grid_2) (@fv_quadformmake_Grid_2)))))))) (And.intro (And.intro (And.intro (And.intro (And.intro (And.intro (@bz_quadformmake_Grid) (@bf_quadformmake_Grid_0)) (And.intro (@bf_quadformmake_Grid_1) (@fa_quadformmake_Tape_0))) (And.intro (And.intro (@ff_quadformmake_Tape_0) (@fv_quadformmake_Tape_0)) (And.intro (@fa_quadformmake_Tape_1) (@ff_quadformmake_Tape_1)))) (And.intro (And.intro (And.intro (@fv_quadformmake_Tape_1) (@bz_quadformmake_Tape)) (And.intro (@bf_quadformmake_Tape_0) (@bf_quadformmake_Tape_1))) (And.intro (And.intro (@fa_rational_fraction_0) (@ff_rational_fraction_0)) (And.intro (@fv_rational_fraction_0) (@fa_rational_fraction_1))))) (And.intro (And.intro (And.intro (And.intro (@ff_rational_fraction_1) (@fv_rational_fraction_1)) (And.intro (@bz_rational_fraction) (@bf_rational_fraction_0))) (And.intro (And.intro (t_string) (t_int)) (And.intro (t_int64) (t_bool)))) (And.intro (And.intro (And.intro (t_uint8) (t_int8)) (And.intro (t_int32) (t_uint64))) (And.intro (And.intro (t_uint32) (t_uint)) (And.intro (t_Sint8) (And.intro (t_Suint32) (t_Sint))))))) (And.intro (And.intro (And.intro (And.intro (And.intro (t_Sint64) (t_SSint64)) (And.intro (t_api_Int) (t_Sapi_Int))) (And.intro (And.intro (t_SSapi_Int) (t_SSSapi_Int)) (And.intro (t_api_Rat) (t_Sapi_Rat)))) (And.intro (And.intro (And.intro (t_api_Errno) (t_quadformmake_Grid)) (And.intro (t_quadformmake_Tape) (t_Pquadformmake_Tape))) (And.intro (And.intro (t_rational_fraction) (@Nat.zero_add)) (And.intro (@Nat.mul_one) (And.intro (@List.getElem?_toArray.{0}) (@List.getElem?_cons_zero.{0})))))) (And.intro (And.intro (And.intro (And.intro (@List.getElem?_cons_succ.{0}) (@Option.map_none.{0, 0})) (And.intro (@Option.map_some.{0, 0}) (@Option.bind_some.{0, 0}))) (And.intro (And.intro (@List.map_cons.{0, 0}) (@List.map_nil.{0, 0})) (And.intro (@List.length_cons.{0}) (@List.length_nil.{0})))) (And.intro (And.intro (And.intro (@List.set_cons_zero.{0}) (@List.set_cons_succ.{0})) (And.intro (@List.drop_zero.{0}) (@List.drop_succ_cons.{0}))) (And.intro (And.intro (@List.take_zero.{0}) (@List.take_succ_cons.{0})) (And.intro (@List.nil_append.{0}) (And.intro (@List.cons_append.{0}) (@List.append_nil.{0})))))))))
end Go.Proofs.Ytjpknabdmmkobaa
end

section
namespace Go.QM
open Go.RowKit
variable {P : Program} {C : Cfg} {H : Type} {enc : TypeId × Value → H}
def mu0 (w : World) : Mu := ⟨fun _ => none, fun k => match w.heap[k]? with
 | some (.cells c _ _) => some c
 | _ => none⟩
def hp0 : VH := ⟨0, fun _ => none⟩
theorem mu0_z {w : World} {k : Nat} {c : Array Value} : (mu0 w).z k = some c ↔ ∃ ty fr, w.heap[k]? = some (.cells c ty fr) := by
 unfold mu0
 simp only
 split
 ·rename_i c' ty fr h
  constructor
  ·intro e; cases e; exact ⟨ty, fr, h⟩
  ·rintro ⟨ty', fr', e⟩; rw [h] at e; cases e; rfl
 ·rename_i hn
  constructor
  ·intro e; cases e
  ·rintro ⟨ty', fr', e⟩; exact absurd e (hn c ty' fr')
theorem sim0 (hg : ∀ g, C.gl g = false) (w : World) : Sim C (mu0 w) hp0 w where
 blk := fun b m B h => by cases h
 inj := fun b1 b2 m1 m2 h => by cases h
 dom := fun b m h => by cases h
 rng := fun b m h => by cases h
 glob := fun g h => by rw [hg] at h; cases h
 fz := fun k cur h => mu0_z.1 h
 fzd := fun b m h => by cases h
theorem calls_of_runs (hC : C.Ok P) (hm : P.follows .mixedOrders = true) (hg : ∀ g, C.gl g = false) {F : FuncId} {args : Array Value} {vargs : List Value} {w : World} {b : Bool} (hv : VRL (mu0 w) vargs args.toList)
  (hr : Runs P C F vargs hp0 (fun v _ => v = .bool b)) : Calls P F args w fun e w' => e = .returned (.bool b) ∧ Below w.heap.size w w' := by
 obtain ⟨v, h1, ⟨n, hn⟩, rfl⟩ := hr
 have hok := VCall.ok hC (draw := fun call => VDraw C call) (fun call hcall => VDraw.ok hC hm hcall) n
 have := (hok F vargs hp0 _ h1 hn).2 (mu0 w) w args.toList (sim0 hg w) hv
 rw [Array.toArray_toList] at this
 refine this.mono ?_
 rintro e w' ⟨cv, μ', rfl, hcv, hst⟩
 cases hcv
 exact ⟨rfl, hst.os, hst.tape, hst.output, hst.size, fun k hk => hst.other k hk (fun b m h => by cases h)⟩
theorem TOk.cells {t : TypeId} {i : TI} (hT : TOk P t i) : P.cellsOf t = i.size := by
 obtain ⟨f, h1, h2, _⟩ := hT.info
 simp [Program.cellsOf, h1, h2]
theorem TOk.bytes' {t : TypeId} {i : TI} (hT : TOk P t i) : P.bytesOf t = i.bytes := by
 obtain ⟨f, h1, _, h2, _⟩ := hT.info
 simp [Program.bytesOf, h1, h2]
def Reads (P : Program) (w : World) (enc : TypeId × Value → H) (t : TypeId) {α : Type} (c : α → List Value) (ok : α → Prop) : Prop :=
 ∀ (fuel : Nat) (cs : List Value) (d : DataW H × List MemPlace), DataW.trod enc P w 0 (fun _ => true) true fuel t cs = some d → (∀ x ∈ d.1.weights P t, x ≤ reachBytes) → ∃ x, ok x ∧ VRL (mu0 w) (c x) cs
theorem Reads.bool {w : World} {t : TypeId} {s b : Nat} {z : Value} (hT : TOk P t ⟨.bool, s, b, z⟩) : Reads P w enc t (fun x : Bool => [Value.bool x]) (fun _ => True) := by
 intro fuel cs d h _
 obtain ⟨dd, h1, h2⟩ := hT.desc
 simp only [DescOk] at h2
 subst h2
 obtain ⟨b, rfl, _⟩ := DataW.trod_bool h1 h
 exact ⟨b, trivial, VRL.cons (.bool b) (VRL.nil _)⟩
theorem Reads.int {w : World} {t : TypeId} {k : IntKind} {s b : Nat} {z : Value} (hT : TOk P t ⟨.int k, s, b, z⟩) : Reads P w enc t (fun x : Int => [Value.int k x]) (fun x => k.min ≤ x ∧ x ≤ k.max) := by
 intro fuel cs d h _
 obtain ⟨dd, h1, h2⟩ := hT.desc
 simp only [DescOk] at h2
 subst h2
 obtain ⟨n, rfl, _, hw⟩ := DataW.trod_int h1 h
 exact ⟨n, by simpa [Lit.wf] using hw, VRL.cons (.int k n) (VRL.nil _)⟩
theorem Reads.map {w : World} {t : TypeId} {α β : Type} {c : α → List Value} {ok : α → Prop} {c' : β → List Value} {ok' : β → Prop} (hr : Reads P w enc t c ok) (hh : ∀ x, ok x → ∃ y, ok' y ∧ c' y = c x) : Reads P w enc t c' ok' := by
 intro fuel cs d h hw
 obtain ⟨x, h1, h2⟩ := hr fuel cs d h hw
 obtain ⟨y, h3, h4⟩ := hh x h1
 exact ⟨y, h3, by rw [h4]; exact h2⟩
theorem list_choice {α : Type} {R : Nat → α → Prop} : ∀ (n : Nat), (∀ i, i < n → ∃ x, R i x) → ∃ l : List α, l.length = n ∧ ∀ i x, l[i]? = some x → R i x
 | 0, _ => ⟨[], rfl, fun i x h => by simp at h⟩
 | n + 1, h => by
  obtain ⟨l, h1, h2⟩ := list_choice n (fun i hi => h i (by omega))
  obtain ⟨x, hx⟩ := h n (by omega)
  refine ⟨l ++ [x], by simp [h1], fun i y hy => ?_⟩
  by_cases hi : i < l.length
  ·rw [List.getElem?_append_left hi] at hy
   exact h2 i y hy
  ·rw [List.getElem?_append_right (by omega)] at hy
   have : i - l.length = 0 := by
    have := (List.getElem?_eq_some_iff.1 hy).1
    simp at this
    omega
   rw [this] at hy
   simp at hy
   subst hy
   have : i = n := by omega
   subst this
   exact hx
theorem weights_mem {e : TypeId} : ∀ {l : List (DataW H)} {i : Nat} {d : DataW H}, l[i]? = some d → ∀ x ∈ d.weights P e, x ∈ DataW.weightsAll P e l
 | [], i, d, h, _, _ => by simp at h
 | y :: l, 0, d, h, x, hx => by
  simp at h
  subst h
  simp only [DataW.weightsAll, List.mem_append]
  exact .inl hx
 | y :: l, i + 1, d, h, x, hx => by
  simp at h
  simp only [DataW.weightsAll, List.mem_append]
  exact .inr (weights_mem h x hx)
theorem cells_run {w : World} {a : Addr} {n : Nat} {cs : List Value} (h : w.cells? 0 a n = some cs) : cs.length = n ∧ ∀ r, r < n → w.cell? (a.add r) = cs[r]? := by
 unfold World.cells? at h
 rw [if_pos (Nat.zero_le _)] at h
 exact ⟨by simpa using mapM_some_length h, fun r hr => mapM_some_get h r r (by simp [hr])⟩
theorem add_plain {b off n : Nat} : (⟨b, off, none⟩ : Addr).add n = ⟨b, off + n, none⟩ := by
 unfold Addr.add
 by_cases h : n = 0
 ·subst h; rfl
 ·rw [if_neg h]
theorem Reads.slice {w : World} {t e : TypeId} {s b s' b' : Nat} {z z' : Value} {k : TK} (hT : TOk P t ⟨.slice e, s, b, z⟩) (hE : TOk P e ⟨k, s', b', z'⟩) (hs : 0 < s') (hb : 0 < b') {α : Type} {c : α → List Value} {ok : α → Prop}
  (hc : ∀ x, (c x).length = s') (hone : ∀ x, ∀ v ∈ c x, v.oneCell' = true) (hr : Reads P w enc e c ok) :
  Reads P w enc t (fun l : List α => [slV c l]) (fun l => l.length * b' ≤ 140737488351232 ∧ ∀ x ∈ l, ok x) := by
 intro fuel cs d h hw
 have hce := hE.cells
 simp only at hce
 rcases DataW.trod_slice hT.slice h with ⟨rfl, rfl⟩ | ⟨a, len, cap, elems, rest, n, rfl, rfl, rfl, _, hl, hcap, hel, hi, _, _⟩
 ·exact ⟨[], ⟨by simp, by simp⟩, VRL.cons .frN (VRL.nil _)⟩
 ·simp only [hce] at hi
  have hwt : DataW.weights P t (.slice (elems.map (·.1)) (rest.map (·.1))) = ((elems.map (·.1)).length + (rest.map (·.1)).length) * P.bytesOf e :: (DataW.weightsAll P e (elems.map (·.1)) ++ DataW.weightsAll P e (rest.map (·.1))) := by
   simp only [DataW.weights, hT.slice]
  simp only [hwt] at hw
  have hlen : len * b' ≤ 140737488351232 := by
   have := hw _ (List.mem_cons_self ..)
   simp only [hE.bytes', List.length_map, hel] at this
   have h2 : len * b' ≤ (len + rest.length) * b' := Nat.mul_le_mul_right _ (by omega)
   have h3 : reachBytes = 140737488351232 := rfl
   omega
  have key : ∀ i, i < len → ∃ x, ok x ∧ ∃ cl, w.cells? 0 (a.add (i * s')) s' = some cl ∧ VRL (mu0 w) (c x) cl := by
   intro i hlt
   have h1 := hi i hlt
   have h2 : elems[i]? = some elems[i] := by simp [hel, hlt]
   rw [h2] at h1
   rw [Option.bind_eq_some_iff] at h1
   obtain ⟨cl, h3, h4⟩ := h1
   obtain ⟨x, h5, h6⟩ := hr n cl _ h4 (fun y hy => hw y (List.mem_cons_of_mem _ (List.mem_append_left _ (weights_mem (i := i) (by simp [hel, hlt]) y hy))))
   exact ⟨x, h5, cl, h3, h6⟩
  obtain ⟨l, hll, hl2⟩ := list_choice (R := fun i x => ok x ∧ ∃ cl, w.cells? 0 (a.add (i * s')) s' = some cl ∧ VRL (mu0 w) (c x) cl) len key
  refine ⟨l, ⟨by rw [hll]; exact hlen, fun x hx => ?_⟩, VRL.cons ?_ (VRL.nil _)⟩
  ·obtain ⟨i, hi⟩ := List.getElem?_of_mem hx
   exact (hl2 i x hi).1
  ·by_cases h0 : len = 0
   ·subst h0
    have : l = [] := List.eq_nil_of_length_eq_zero hll
    subst this
    exact .frE a cap
   ·
    obtain ⟨x0, hx0⟩ : ∃ x, l[0]? = some x := ⟨l[0], by simp [show 0 < l.length by omega]⟩
    obtain ⟨_, cl0, hcl0, hv0⟩ := hl2 0 x0 hx0
    obtain ⟨q1, q2⟩ := cells_run hcl0
    have q3 := q2 0 hs
    rw [Nat.zero_mul] at q3
    have q4 : (a.add 0).add 0 = a := by simp [Addr.add]
    rw [q4] at q3
    have q5 : ∃ u, cl0[0]? = some u := ⟨cl0[0], by simp [q1, hs]⟩
    obtain ⟨u, hu⟩ := q5
    rw [hu] at q3
    obtain ⟨bk, off, spot⟩ := a
    unfold World.cell? at q3
    simp only at q3
    split at q3
    ·rename_i cur ty fr hheap
     split at q3
     ·cases q3
     ·rename_i hsp
      have hsp' : spot = none := by cases spot <;> simp_all
      subst hsp'
      have hcell : ∀ j, w.cell? ⟨bk, j, none⟩ = cur[j]? := by
       intro j
       simp [World.cell?, hheap]
      have hfl := flat_len hc l
      have get : ∀ i r, i < len → r < s' → ∃ x cv, l[i]? = some x ∧ (l.flatMap c)[i * s' + r]? = (c x)[r]? ∧ cur[off + (i * s' + r)]? = some cv ∧ ∀ v, (c x)[r]? = some v → VR (mu0 w) v cv := by
       intro i r hi hr'
       obtain ⟨x, hx⟩ : ∃ x, l[i]? = some x := ⟨l[i], by simp [show i < l.length by omega]⟩
       obtain ⟨_, cl, hcl, hv⟩ := hl2 i x hx
       obtain ⟨p1, p2⟩ := cells_run hcl
       have p3 := p2 r hr'
       rw [add_plain, add_plain, hcell] at p3
       obtain ⟨cv, hcv⟩ : ∃ cv, cl[r]? = some cv := ⟨cl[r], by simp [p1, hr']⟩
       refine ⟨x, cv, hx, flat_get hc l i r x hx hr', by rw [← Nat.add_assoc, p3, hcv], fun v hv' => hv.2 r v cv hv' hcv⟩
      unfold slV
      rw [hll]
      refine .frS (cur := cur) (mu0_z.2 ⟨ty, fr, hheap⟩) (by omega) ?_ ?_ ?_
      ·rw [List.size_toArray, hfl]
       obtain ⟨x, cv, _, _, h3, _⟩ := get (len - 1) (s' - 1) (by omega) (by omega)
       have h4 := (Array.getElem?_eq_some_iff.1 h3).1
       have h5 : (len - 1) * s' + s' = len * s' := by rw [← Nat.succ_mul]; congr 1; omega
       rw [hll]
       omega
      ·intro v hv
       simp only [List.mem_flatMap] at hv
       obtain ⟨x, _, hx⟩ := hv
       exact hone x v hx
      ·intro j v cv hj hc'
       have hj' : j < len * s' := by
        have := (Array.getElem?_eq_some_iff.1 hj).1
        rw [List.size_toArray, hfl, hll] at this
        exact this
       have hd : j / s' < len := Nat.div_lt_of_lt_mul (by rw [Nat.mul_comm]; exact hj')
       have hm : j % s' < s' := Nat.mod_lt _ hs
       have hjj : j / s' * s' + j % s' = j := by rw [Nat.mul_comm]; exact Nat.div_add_mod j s'
       obtain ⟨x, cv', h1, h2, h3, h4⟩ := get (j / s') (j % s') hd hm
       rw [hjj] at h2 h3
       rw [h3] at hc'
       cases hc'
       refine h4 v ?_
       rw [← h2]
       simpa using hj
    ·cases q3
theorem weights_each {ts : List TypeId} : ∀ {ts : List TypeId} {l : List (DataW H)} {i : Nat} {t : TypeId} {d : DataW H}, ts[i]? = some t → l[i]? = some d → ∀ x ∈ d.weights P t, x ∈ DataW.weightsEach P ts l
 | [], l, i, t, d, h, _, _, _ => by simp at h
 | u :: ts, [], i, t, d, _, h, _, _ => by simp at h
 | u :: ts, y :: l, 0, t, d, h1, h2, x, hx => by
  simp at h1 h2
  subst h1 h2
  simp only [DataW.weightsEach, List.mem_append]
  exact .inl hx
 | u :: ts, y :: l, i + 1, t, d, h1, h2, x, hx => by
  simp at h1 h2
  simp only [DataW.weightsEach, List.mem_append]
  exact .inr (weights_each (ts := ts) h1 h2 x hx)
theorem Reads.field {w : World} {t : TypeId} {fs : List (Nat × TypeId)} {s b : Nat} {z : Value} (hT : TOk P t ⟨.struct fs, s, b, z⟩) {fuel : Nat} {cs : List Value} {d : DataW H × List MemPlace} (h : DataW.trod enc P w 0 (fun _ => true) true fuel t cs = some d) (hw : ∀ x ∈ d.1.weights P t, x ≤ reachBytes)
  {i o : Nat} {u : TypeId} (hf : fs[i]? = some (o, u)) {α : Type} {c : α → List Value} {ok : α → Prop} (hr : Reads P w enc u c ok) : cs.length = s ∧ ∃ x, ok x ∧ VRL (mu0 w) (c x) ((cs.drop o).take (P.cellsOf u)) := by
 obtain ⟨dd, h1, h2⟩ := hT.desc
 simp only [DescOk] at h2
 obtain ⟨f, rfl, h2⟩ := h2
 obtain ⟨xs, n, rfl, rfl, hl, hxl, hx⟩ := DataW.trod_struct h1 h
 rw [← h2, List.getElem?_map, Option.map_eq_some_iff] at hf
 obtain ⟨g, hg, hgo⟩ := hf
 injection hgo with e1 e2
 subst e1 e2
 have hce := hT.cells
 simp only at hce
 rw [hce] at hl
 have h3 := hx i g (by simpa using hg)
 have hi : i < xs.length := by
  rw [hxl]
  have := (List.getElem?_eq_some_iff.1 hg).1
  simpa using this
 have h4 : xs[i]? = some xs[i] := by simp [hi]
 rw [h4] at h3
 obtain ⟨x, h5, h6⟩ := hr n _ _ h3 (fun y hy => hw y (by
  simp only [DataW.weights, h1]
  exact weights_each (ts := []) (i := i) (by simp [hg]) (by simp [hi]) y hy))
 exact ⟨hl, x, h5, h6⟩
end Go.QM
end

section
open Go Go.QM Go.RowKit Go.ChangeShapes
namespace Go.Proofs.Ytjpknabdmmkobaa
variable {H : Type} {enc : TypeId × Value → H} {P : Program}
theorem stays (hl : laidOutB P = true) {W W' : World} (hB : Below W.heap.size W W') {sp : Nat → Bool} : ∀ {ts : List TypeId} {vs : List Value} {ds : List (DataW H)} {ps : List MemPlace}, (∀ t ∈ ts, P.readableRec t = true ∧ t < P.types.size) →
  DataW.TrodAll enc P W 0 (fun _ => true) true ts vs ds ps → (∀ p ∈ ps, p.block < W.heap.size) → (∀ p ∈ ps, sp p.block = true) → DataW.TrodAll enc P W' 0 sp true ts vs ds ps
 | [], vs, ds, ps, _, h, _, _ => by
  obtain ⟨rfl, rfl, rfl⟩ := trodAll_nil h
  exact trodAll_mk0
 | t :: ts, vs, ds, ps, ht, h, hlt, hs => by
  obtain ⟨v, vs1, d, ds1, a, b, rfl, rfl, rfl, h1, h2⟩ := trodAll_cons h
  exact ⟨a, b, WideElems.Trod_stays hl (ht t (List.mem_cons_self ..)).1 (ht t (List.mem_cons_self ..)).2 h1 (fun p hp => hB.same (hlt p (List.mem_append_left _ hp))) (fun p hp => hs p (List.mem_append_left _ hp)),
   stays hl hB (fun t ht' => ht t (List.mem_cons_of_mem _ ht')) h2 (fun p hp => hlt p (List.mem_append_right _ hp)) (fun p hp => hs p (List.mem_append_right _ hp)), rfl⟩
theorem post_true {f : Func} {s : ChangeSpec} {apart fresh handsOn again : Bool} {W W' : World} {args : Array Value} {ds gs : List (DataW H)} {before : List MemPlace} {tb : TypeId}
  (hl : laidOutB P = true) (hts : ∀ t ∈ f.params.toList, P.readableRec t = true ∧ t < P.types.size) (hsv : s.vars = []) (hrt : f.resultTypes = #[tb]) (htb : P.underlying tb = some .bool)
  (hW : DataW.Whole enc P f.params.toList s.vars apart W args.toList ds gs before) (hfn : s.fn H (ds ++ gs) = { results := [.lit (.bool true)], args := ds }) (hB : Below W.heap.size W W') :
  s.post enc P f apart fresh handsOn again W args (.bool true) W' := by
 have hW' := hW
 have hlt : ∀ p ∈ before, p.block < W.heap.size := hW.lt
 obtain ⟨p, q, hA, hV, rfl, hfz, hnd⟩ := hW
 rw [hsv] at hV
 obtain ⟨rfl, rfl⟩ := trodVars_none hV
 simp only [List.append_nil] at hfn hlt hfz hnd hW'
 have hres : ∀ (b : Nat) (sp : Nat → Bool) (hd : Bool), DataW.TrodAll enc P W' b sp hd [tb] [.bool true] [.lit (.bool true)] [] := fun b sp hd => trodAll_mk1 (shut_bool htb _)
 have hvars : ∀ (sp : Nat → Bool), DataW.TrodVars enc P W' sp s.vars [] [] := fun sp => by rw [hsv]; exact rfl
 have hrl : (Value.bool true).resultList f.resultTypes.size = [.bool true] := by rw [hrt]; rfl
 refine ⟨ds, [], p, [], p, [], by simpa using hW', ?_, ?_, ?_, World.keptBut_mono (fun x hx => hx.elim) (hB.frame (fun _ => False)), fun _ => ⟨?_, [.lit (.bool true)] ++ ds, [], [] ++ p, ?_, ?_⟩⟩
 ·simp only [List.append_nil, hfn, hrl, hrt]
  exact hres _ _ _
 ·simp only [List.append_nil, hfn]
  exact stays hl hB hts hA hlt (fun x hx => by simpa using hlt x hx)
 ·simp only [List.append_nil, hfn]
  exact hvars _
 ·exact ok_one hrt rfl (okWide_bool_mk htb true)
 ·refine ⟨[] ++ p, [], ?_, hvars _, by simp, ?_, ?_⟩
  ·rw [hrl, hrt]
   exact trodAll_append (stays hl hB hts hA hlt (fun x hx => rfl)) (hres _ _ _)
  ·intro b off hp
   rw [hB.frozen (hlt _ (by simpa using hp))]
   exact hfz b off (by simpa using hp)
  ·intro ha
   simpa using hnd ha
 ·intro x hx _
  simpa using hx
theorem cells_slice {w : World} {r : Reach} {b0 : Nat} {t e : TypeId} {v : Value} (ht : P.underlying t = some (.slice e)) (hv : Value.okWide P w r b0 t v) : v.cells = #[v] := by
 simp only [Value.okWide, ht, Cell.okWide, Cell.ok] at hv
 cases v <;> first | rfl | exact hv.elim
theorem cells_int {w : World} {r : Reach} {b0 : Nat} {t : TypeId} {k : IntKind} {v : Value} (ht : P.underlying t = some (.int k)) (hv : Value.okWide P w r b0 t v) : v.cells = #[v] := by
 simp only [Value.okWide, ht, Cell.okWide, Cell.ok] at hv
 cases v <;> first | rfl | exact hv.elim
theorem cells_struct {w : World} {r : Reach} {b0 : Nat} {t : TypeId} {fs : Array Field} {v : Value} (ht : P.underlying t = some (.struct fs)) (hv : Value.okWide P w r b0 t v) : v = .agg v.cells := by
 simp only [Value.okWide, ht] at hv
 obtain ⟨cs, rfl, _⟩ := hv
 rfl
theorem arg_cell {w : World} {t : TypeId} {v : Value} {d : DataW H} {p : List MemPlace} {α : Type} {c : α → Value} {ok : α → Prop} (hr : Reads P w enc t (fun x => [c x]) ok) (hc : v.cells = #[v]) (hd : DataW.Trod enc P w 0 (fun _ => true) true t v d p)
  (hw : ∀ x ∈ d.weights P t, x ≤ reachBytes) : ∃ x, ok x ∧ VR (mu0 w) (c x) v := by
 obtain ⟨fuel, hd⟩ := hd
 rw [hc] at hd
 obtain ⟨x, h1, h2⟩ := hr fuel _ _ hd hw
 exact ⟨x, h1, h2.2 0 _ _ rfl rfl⟩
theorem arg_struct {w : World} {t : TypeId} {v : Value} {d : DataW H} {p : List MemPlace} {α : Type} {c : α → List Value} {ok : α → Prop} (hr : Reads P w enc t c ok) (hone : ∀ x, ∀ u ∈ c x, u.oneCell' = true) (hc : v = .agg v.cells) (hd : DataW.Trod enc P w 0 (fun _ => true) true t v d p)
  (hw : ∀ x ∈ d.weights P t, x ≤ reachBytes) : ∃ x, ok x ∧ VR (mu0 w) (.agg (c x).toArray) v := by
 obtain ⟨fuel, hd⟩ := hd
 obtain ⟨x, h1, h2⟩ := hr fuel _ _ hd hw
 refine ⟨x, h1, ?_⟩
 rw [hc]
 exact .agg_of (by simpa using h2) (by simpa using hone x)
def RawOk (x : Raw) : Prop := Lim x.2 ∧ x.2.length ≤ 35184372087808
theorem iC_one (x : Raw) : ∀ v ∈ iC x, v.oneCell' = true := by
 intro v hv
 simp only [iC, List.mem_cons, List.not_mem_nil, or_false] at hv
 rcases hv with rfl | rfl <;> rfl
theorem one_fS {α : Type} {c : α → List Value} (l : List α) : ∀ v ∈ [slV c l], v.oneCell' = true := by
 intro v hv
 simp only [List.mem_cons, List.not_mem_nil, or_false] at hv
 subst hv
 rfl
theorem rd_words (w : World) : Reads Try.prog w enc 37 (fun l : List Nat => [u32S l]) (fun l => Lim l ∧ l.length ≤ 35184372087808) := by
 refine (Reads.slice (s' := 1) (b' := 4) k_Suint32 k_uint32 (by decide) (by decide) (fun x => rfl) (fun x v hv => ?_) (Reads.int k_uint32)).map ?_
 ·simp only [List.mem_cons, List.not_mem_nil, or_false] at hv
  subst hv
  rfl
 ·rintro l ⟨h1, h2⟩
  refine ⟨l.map Int.toNat, ⟨fun x hx => ?_, by rw [List.length_map]; omega⟩, ?_⟩
  ·obtain ⟨y, hy, rfl⟩ := List.mem_map.1 hx
   have := h2 y hy
   have e1 : IntKind.u32.min = 0 := rfl
   have e2 : IntKind.u32.max = 4294967295 := rfl
   simp only [WB]
   omega
  ·rw [slV_one]
   unfold u32S u32L
   rw [List.map_map, List.length_map]
   congr 3
   refine List.map_congr_left fun y hy => ?_
   have := h2 y hy
   have e1 : IntKind.u32.min = 0 := rfl
   simp only [Function.comp]
   rw [Int.toNat_of_nonneg (by omega)]
theorem rd_Int (w : World) : Reads Try.prog w enc 39 iC RawOk := by
 intro fuel cs d h hw
 obtain ⟨hl, b, _, hb⟩ := Reads.field k_api_Int h hw (i := 0) rfl (Reads.bool k_bool)
 obtain ⟨_, l, hl2, hl3⟩ := Reads.field k_api_Int h hw (i := 1) rfl (rd_words w)
 rw [k_bool.cells] at hb
 rw [k_Suint32.cells] at hl3
 refine ⟨(b, l), hl2, ?_⟩
 match cs, hl with
 | [c0, c1], _ => exact VRL.cons (hb.2 0 _ _ rfl rfl) hl3
theorem rd_Ints (w : World) : Reads Try.prog w enc 34 (fun l => [isV l]) (fun l => l.length * 32 ≤ 140737488351232 ∧ ∀ x ∈ l, RawOk x) :=
 Reads.slice (s' := 2) (b' := 32) k_Sapi_Int k_api_Int (by decide) (by decide) iC_len iC_one (rd_Int w)
theorem rd_mat (w : World) : Reads Try.prog w enc 25 (fun m => [mV m]) (fun m => m.length * 24 ≤ 140737488351232 ∧ ∀ r ∈ m, r.length * 32 ≤ 140737488351232 ∧ ∀ x ∈ r, RawOk x) := by
 simp only [mV, ← slV_one]
 exact Reads.slice (s' := 1) (b' := 24) k_SSapi_Int k_Sapi_Int (by decide) (by decide) (fun _ => rfl) one_fS (rd_Ints w)
theorem rd_i8s (w : World) : Reads Try.prog w enc 22 (fun l => [i8V l]) (fun l => l.length * 1 ≤ 140737488351232 ∧ ∀ x ∈ l, IntKind.i8.min ≤ x ∧ x ≤ IntKind.i8.max) := by
 simp only [i8V, ← slV_one]
 exact Reads.slice (s' := 1) (b' := 1) k_Sint8 k_int8 (by decide) (by decide) (fun _ => rfl) (fun x v hv => by
  simp only [List.mem_cons, List.not_mem_nil, or_false] at hv
  subst hv
  rfl) (Reads.int k_int8)
structure GridV where
 rows : Int
 cols : Int
 nums : List Int
def gridC (g : GridV) : List Value := [.int .u8 g.rows, .int .u8 g.cols, i8V g.nums]
def gridV (g : GridV) : Value := .agg #[.int .u8 g.rows, .int .u8 g.cols, i8V g.nums]
def GridOk (g : GridV) : Prop := (0 ≤ g.rows ∧ g.rows < 256) ∧ (0 ≤ g.cols ∧ g.cols < 256) ∧ g.nums.length ≤ 140737488351232 ∧ ∀ x ∈ g.nums, -128 ≤ x ∧ x ≤ 127
theorem rd_grid (w : World) : Reads Try.prog w enc 24 gridC GridOk := by
 intro fuel cs d h hw
 obtain ⟨hl, a, ha, hb⟩ := Reads.field k_quadformmake_Grid h hw (i := 0) rfl (Reads.int k_uint8)
 obtain ⟨_, b, hb2, hb3⟩ := Reads.field k_quadformmake_Grid h hw (i := 1) rfl (Reads.int k_uint8)
 obtain ⟨_, l, hl2, hl3⟩ := Reads.field k_quadformmake_Grid h hw (i := 2) rfl (rd_i8s w)
 rw [k_uint8.cells] at hb hb3
 rw [k_Sint8.cells] at hl3
 have e1 : IntKind.u8.min = 0 := rfl
 have e2 : IntKind.u8.max = 255 := rfl
 have e3 : IntKind.i8.min = -128 := rfl
 have e4 : IntKind.i8.max = 127 := rfl
 rw [e1, e2] at ha hb2
 rw [e3, e4] at hl2
 refine ⟨⟨a, b, l⟩, ⟨⟨ha.1, (by show a < 256; omega)⟩, ⟨hb2.1, (by show b < 256; omega)⟩, (by show l.length ≤ _; omega), hl2.2⟩, ?_⟩
 match cs, hl with
 | [c0, c1, c2], _ => exact VRL.cons (hb.2 0 _ _ rfl rfl) (VRL.cons (hb3.2 0 _ _ rfl rfl) hl3)
theorem gridC_one (x : GridV) : ∀ v ∈ gridC x, v.oneCell' = true := by
 intro v hv
 simp only [gridC, List.mem_cons, List.not_mem_nil, or_false] at hv
 rcases hv with rfl | rfl | rfl <;> rfl
theorem u_of {t : TypeId} {e : TypeId} {s b : Nat} {z : Value} (h : TOk Try.prog t ⟨.slice e, s, b, z⟩) : Try.prog.underlying t = some (.slice e) := h.slice
theorem u_int {t : TypeId} {k : IntKind} {s b : Nat} {z : Value} (h : TOk Try.prog t ⟨.int k, s, b, z⟩) : Try.prog.underlying t = some (.int k) := by
 obtain ⟨d, h1, h2⟩ := h.desc
 simp only [DescOk] at h2
 rw [h1, h2]
theorem u_struct {t : TypeId} {fs : List (Nat × TypeId)} {s b : Nat} {z : Value} (h : TOk Try.prog t ⟨.struct fs, s, b, z⟩) : ∃ f, Try.prog.underlying t = some (.struct f) := by
 obtain ⟨d, h1, f, rfl, h2⟩ := h.desc
 exact ⟨f, h1⟩
theorem u_bool : Try.prog.underlying 4 = some .bool := by
 obtain ⟨d, h1, h2⟩ := k_bool.desc
 simp only [DescOk] at h2
 rw [h1, h2]
theorem own : ownKnob Try.prog.godebug = none := by kernel_rfl
theorem laidOut : laidOutB Try.prog = true := by kernel_rfl
theorem mixed : Try.prog.follows .mixedOrders = true := by kernel_rfl
theorem noGl : ∀ g, cfg.gl g = false := fun _ => rfl
end Go.Proofs.Ytjpknabdmmkobaa
end

section
namespace Go.QM
variable {P : Program} {C : Cfg} {e : Env} {h : VH} {fn : Func} {Q : Value → VH → Prop} {n0 ty sz len : Nat} {cs : List Value}
def Fin (C : Cfg) (fn : Func) (e : Env) (h : VH) (Q : Value → VH → Prop) (_ : Cw Q := .mk) : Prop := ∃ e' h1 v, Fz C.base e h e' h1 ∧ ressV C fn e' h1 = some v ∧ Q v h1
variable {c : Cw Q}
theorem Fin.done {v : Value} (hr : ressV C fn e h = some v) (hq : Q v h) : Fin C fn e h Q c := ⟨e, h, v, .refl _ _, hr, hq⟩
theorem Fin.nilc (x i : Nat) {X : Blk} (h0 : C.base = 0) (hX : h.blk x = some X) (k : Fin C fn e (h.set x (some ⟨X.ty, X.sz, X.cs.modify i nil1⟩)) Q) : Fin C fn e h Q c := by
 obtain ⟨e', h1, v, a, b⟩ := k
 exact ⟨e', h1, v, .nilc x i hX (by omega) a, b⟩
theorem Fin.nilb (x : Nat) {X : Blk} (h0 : C.base = 0) (hX : h.blk x = some X) (k : Fin C fn e (h.set x (some ⟨X.ty, X.sz, X.cs.map nil1⟩)) Q) : Fin C fn e h Q c := by
 obtain ⟨e', h1, v, a, b⟩ := k
 exact ⟨e', h1, v, .nilb x hX (by omega) a, b⟩
theorem Fin.nil (t : Nat) (k : Fin C fn (e.put (some t) (nilT (e t))) h Q) : Fin C fn e h Q c := by
 obtain ⟨e', h1, v, a, b⟩ := k
 refine ⟨e', h1, v, .nils [t] ?_, b⟩
 have : (fun x => if [t].contains x then nilT (e x) else e x) = e.put (some t) (nilT (e t)) := by
  funext x
  by_cases hx : x = t
  ·subst hx; simp [Env.put]
  ·simp [Env.put, hx]
 rw [this]
 exact a
theorem Fin.one (t b : Nat) {B : Blk} (h0 : C.base = 0) (hB : h.blk b = some B) (k : Fin C fn (e.put (some t) (fzT b B (e t))) (h.set b none) Q) : Fin C fn e h Q c := by
 obtain ⟨e', h1, v, a, b'⟩ := k
 refine ⟨e', h1, v, .env [t] b hB (by omega) ?_, b'⟩
 have : (fun x => if [t].contains x then fzT b B (e x) else e x) = e.put (some t) (fzT b B (e t)) := by
  funext x
  by_cases hx : x = t
  ·subst hx; simp [Env.put]
  ·simp [Env.put, hx]
 rw [this]
 exact a
theorem Fin.own (t : Nat) (h0 : C.base = 0) (ho : Own n0 ty sz h (e t) len cs)
  (k : ∀ h', (∀ g : VH, g.le h → g.next ≤ n0 → g.le h') → h'.next = h.next → Fin C fn (e.put (some t) (fS len cs.toArray)) h' Q) : Fin C fn e h Q c := by
 obtain ⟨h', h1, h4, h5, h6⟩ := ho.frz t h0
 obtain ⟨e', h1', v, a, b⟩ := k h' h4 h5
 exact ⟨e', h1', v, h1.trans a, b⟩
theorem W.fin {Q' : Exit → Env → VH → Prop} (k : Fin C fn e h Q) (hq : ∀ e1 h2, Q' .ret e1 h2 = ((Exit.ret = Exit.normal ∨ Exit.ret = Exit.ret) ∧ ∃ e' h1 v, Fz C.base e1 h2 e' h1 ∧ ressV C fn e' h1 = some v ∧ Q v h1)) : W P C .ret e h Q' :=
 W.ret (by rw [hq]; exact ⟨.inr rfl, k⟩)
theorem W.drawL {id : Nat} {ops : Array Oper} {Q' : Exit → Env → VH → Prop} (Kp : Nat → Prop) (ls : List Bool) (hd : (drawOk ops (masksOf ops) && (flagsOf ops (masksOf ops) == ls)) = true) (hw : WTL P C Kp h.next ops ls ops.toList e h (Q' .normal)) :
  W P C (.region id ops true) e h Q' := by
 simp only [Bool.and_eq_true, beq_iff_eq] at hd
 obtain ⟨e', h', a, k⟩ := WTL.tr (ms := masksOf ops) (i := 0) (fun j o hj => by
  rw [← hd.2]
  have hj' : j < ops.size := by
   have := (List.getElem?_eq_some_iff.1 hj).1
   simpa using this
  have ho : ops[j]? = some o := by simpa using hj
  simp only [flagsOf, List.getElem?_map, List.getElem?_range hj', Option.map_some, ho, Nat.zero_add]) hw
 exact ⟨_, _, _, ⟨rfl, _, Kp, hd.1, a⟩, k⟩
section
variable {a b t t2 t3 : Tmp} {ty1 ty2 : TypeId} {v1 v2 v3 : Value}
theorem ress_1 (hr : fn.results = #[.tmp t]) (h1 : seen (e t) = v1) : ressV C fn e h = some v1 := by
 simp [ressV, hr, resV, h1]
theorem ress_tt (hr : fn.results = #[.tmp t, .tmp t2]) (h1 : seen (e t) = v1) (h2 : seen (e t2) = v2) : ressV C fn e h = some (.tuple #[v1, v2]) := by
 simp [ressV, hr, resV, h1, h2]
theorem ress_ttt (hr : fn.results = #[.tmp t, .tmp t2, .tmp t3]) (h1 : seen (e t) = v1) (h2 : seen (e t2) = v2) (h3 : seen (e t3) = v3) : ressV C fn e h = some (.tuple #[v1, v2, v3]) := by
 simp [ressV, hr, resV, h1, h2, h3]
theorem ress_ct (hr : fn.results = #[.cell a ty1, .tmp t]) (h1 : loadV C ty1 (e a) h = some v1) (h2 : seen (e t) = v2) : ressV C fn e h = some (.tuple #[v1, v2]) := by
 simp [ressV, hr, resV, h1, h2]
theorem ress_cct (hr : fn.results = #[.cell a ty1, .cell b ty2, .tmp t]) (h1 : loadV C ty1 (e a) h = some v1) (h2 : loadV C ty2 (e b) h = some v2) (h3 : seen (e t) = v3) : ressV C fn e h = some (.tuple #[v1, v2, v3]) := by
 simp [ressV, hr, resV, h1, h2, h3]
end
end Go.QM
end

section
namespace Go.QM
variable {P : Program} {C : Cfg} {e : Env} {h h' h1 : VH} {Q : Exit → Env → VH → Prop} {n0 b r : Nat} {α : Type}
theorem mkE_ok {e' sz bb : Nat} {kk : TK} {z : Value} {a : Int} (h0 : 0 ≤ a) (h1 : a ≤ 1099511627776) (hb : bb ≤ 64) (hs : 0 < sz) :
  mkE e' (some ⟨kk, sz, bb, z⟩) a h = some (.slice (some ⟨h.next, 0, none⟩) a.toNat a.toNat, h.push ⟨e', sz, zC z (a.toNat * sz)⟩) := by
 unfold mkE
 have : (bb : Int) * a ≤ 64 * 1099511627776 := Int.mul_le_mul (by omega) h1 h0 (by omega)
 rw [Option.bind_some, if_pos ⟨h0, Int.le_refl _, by simp only; omega, by omega, hs⟩]
theorem st_one {kk : TK} {b0 off : Nat} {z y : Value} (hy : cellsV y = some [y]) : storeT (some ⟨kk, 1, b0, z⟩) (.pointer (some ⟨b, off, none⟩)) y h = wr1 h b off y := by
 unfold storeT
 simp only [hy]
 exact wrN_one
structure Up (n0 : Nat) (h h' : VH) : Prop where
 next : h.next ≤ h'.next
 keep : ∀ y, y < n0 → h'.blk y = h.blk y
theorem Up.refl : Up n0 h h := ⟨Nat.le_refl _, fun _ _ => rfl⟩
theorem Up.trans {h1 h2 h3 : VH} (a : Up n0 h1 h2) (c : Up n0 h2 h3) : Up n0 h1 h3 := ⟨Nat.le_trans a.1 c.1, fun y hy => (c.2 y hy).trans (a.2 y hy)⟩
theorem Up.of_le (hl : h.le h') (hn : n0 ≤ h.next) : Up n0 h h' := ⟨hl.1, fun y hy => hl.2 y (Nat.lt_of_lt_of_le hy hn)⟩
theorem Up.set {o : Option Blk} (hb : n0 ≤ b) : Up n0 h (h.set b o) := ⟨Nat.le_refl _, fun y hy => blk_set_ne (by omega)⟩
theorem Up.push {B : Blk} (hn : n0 ≤ h.next) : Up n0 h (h.push B) := .of_le (VH.le_push _ _) hn
theorem Up.le {g : VH} (hu : Up n0 h h') (hg : g.le h) (hn : g.next ≤ n0) : g.le h' := ⟨Nat.le_trans hg.1 hu.1, fun y hy => (hu.2 y (Nat.lt_of_lt_of_le hy hn)).trans (hg.2 y hy)⟩
theorem Up.down {n1 : Nat} (hu : Up n0 h h') (hn : n1 ≤ n0) : Up n1 h h' := ⟨hu.1, fun y hy => hu.2 y (Nat.lt_of_lt_of_le hy hn)⟩
theorem Up.of_app (hn : h.next ≤ h'.next) (hn0 : n0 ≤ h.next) (k : ∀ g : VH, g.le h → g.next ≤ n0 → g.le h') : Up n0 h h' :=
 ⟨hn, fun y hy => (k ⟨n0, h.blk⟩ ⟨hn0, fun _ _ => rfl⟩ (Nat.le_refl _)).2 y hy⟩
def Cell (h : VH) (r t : Nat) (cs : List Value) : Prop := r < h.next ∧ h.blk r = some ⟨t, 0, cs⟩
theorem Cell.mono {t : Nat} {cs : List Value} (hc : Cell h r t cs) (hl : h.le h') : Cell h' r t cs := ⟨Nat.lt_of_lt_of_le hc.1 hl.1, by rw [hl.2 r hc.1]; exact hc.2⟩
theorem Cell.up {t : Nat} {cs : List Value} (hc : Cell h r t cs) (hl : Up n0 h h') (hr : r < n0) : Cell h' r t cs := ⟨Nat.lt_of_lt_of_le hc.1 hl.1, by rw [hl.2 r hr]; exact hc.2⟩
theorem Cell.push {t : Nat} {cs : List Value} (hc : Cell h r t cs) {B : Blk} : Cell (h.push B) r t cs := hc.mono (VH.le_push _ _)
theorem Cell.new {t : Nat} {cs : List Value} : Cell (h.push ⟨t, 0, cs⟩) h.next t cs := ⟨Nat.lt_succ_self _, blk_push⟩
theorem Cell.ne {t t' s : Nat} {cs cs' : List Value} (hc : Cell h r t cs) (hb : h.blk b = some ⟨t', s, cs'⟩) (hs : 0 < s) : r ≠ b := by
 rintro rfl
 rw [hc.2] at hb
 injection hb with hb
 injection hb with _ hb
 omega
theorem Cell.set_ne {t : Nat} {cs : List Value} {o : Option Blk} (hc : Cell h r t cs) (hb : r ≠ b) : Cell (h.set b o) r t cs := ⟨hc.1, by rw [blk_set_ne hb]; exact hc.2⟩
theorem Cell.set {t : Nat} {cs cs' : List Value} (hc : Cell h r t cs) : Cell (h.set r (some ⟨t, 0, cs'⟩)) r t cs' := ⟨hc.1, blk_set⟩
theorem Cell.rd2 {t : Nat} {x0 x1 : Value} (hc : Cell h r t [x0, x1]) : rdN h r 0 2 = some [x0, x1] := rd_s2 hc.2
theorem Cell.wr2 {t : Nat} {x0 x1 y0 y1 : Value} (hc : Cell h r t [x0, x1]) : wrN 0 h r 0 [y0, y1] = some (h.set r (some ⟨t, 0, [y0, y1]⟩)) := wr_s2 hc.2
theorem Cell.rd1 {t : Nat} {x : Value} (hc : Cell h r t [x]) : QM.rd1 h r 0 = some x := rd1_of hc.2
theorem Cell.wr1 {t : Nat} {x y : Value} (hc : Cell h r t [x]) : QM.wr1 h r 0 y = some (h.set r (some ⟨t, 0, [y]⟩)) := wr1_of hc.2 (by simp)
structure MK (α : Type) where
 tR : Nat
 tI : Nat
 s : Nat
 c : α → List Value
 hc : ∀ x, (c x).length = s
 hs : 0 < s
variable {K : MK α} {R : List (List α)}
def RowAt (K : MK α) (n0 : Nat) (h : VH) (w : Value) (o : Option Nat) (r : List α) : Prop := match o with
 | none => w = .slice none 0 0 ∧ r = []
 | some c => (w = .slice (some ⟨c, 0, none⟩) r.length r.length ∧ r ≠ []) ∧ n0 ≤ c ∧ c < h.next ∧ h.blk c = some ⟨K.tI, K.s, r.flatMap K.c⟩
def MM (K : MK α) (n0 : Nat) (h : VH) (b : Nat) (R : List (List α)) : Prop :=
 ∃ (ws : List Value) (os : Nat → Option Nat), n0 ≤ b ∧ b < h.next ∧ h.blk b = some ⟨K.tR, 1, ws⟩ ∧ ws.length = R.length ∧
  (∀ i, i < R.length → RowAt K n0 h (ws.getD i Un) (os i) (R.getD i [])) ∧
  ∀ i c, i < R.length → os i = some c → c ≠ b ∧ ∀ j, j < R.length → os j = some c → i = j
theorem RowAt.mono {w : Value} {o : Option Nat} {r : List α} (hr : RowAt K n0 h w o r) (hl : h.le h') : RowAt K n0 h' w o r := by
 cases o with
 | none => exact hr
 | some c => exact ⟨hr.1, hr.2.1, Nat.lt_of_lt_of_le hr.2.2.1 hl.1, by rw [hl.2 c hr.2.2.1]; exact hr.2.2.2⟩
theorem RowAt.down {n1 : Nat} {w : Value} {o : Option Nat} {r : List α} (hr : RowAt K n0 h w o r) (hn : n1 ≤ n0) : RowAt K n1 h w o r := by
 cases o with
 | none => exact hr
 | some c => exact ⟨hr.1, Nat.le_trans hn hr.2.1, hr.2.2.1, hr.2.2.2⟩
theorem RowAt.set {w : Value} {o : Option Nat} {r : List α} {B : Option Blk} (hr : RowAt K n0 h w o r) (hb : o ≠ some b) : RowAt K n0 (h.set b B) w o r := by
 cases o with
 | none => exact hr
 | some c => exact ⟨hr.1, hr.2.1, hr.2.2.1, by rw [blk_set_ne (fun e => hb (by rw [e]))]; exact hr.2.2.2⟩
theorem RowAt.seen {w : Value} {o : Option Nat} {r : List α} (hr : RowAt K n0 h w o r) : QM.seen w = w := by
 cases o with
 | none => rw [hr.1]; rfl
 | some c => rw [hr.1.1]; rfl
theorem RowAt.cv {w : Value} {o : Option Nat} {r : List α} (hr : RowAt K n0 h w o r) : cellsV w = some [w] := by
 cases o with
 | none => rw [hr.1]; rfl
 | some c => rw [hr.1.1]; rfl
theorem RowAt.own {w : Value} {o : Option Nat} {r : List α} (hr : RowAt K n0 h w o r) (h0 : r ≠ []) : Own n0 K.tI K.s h w r.length (r.flatMap K.c) := by
 refine ⟨flat_len K.hc r, ?_⟩
 cases o with
 | none => exact absurd hr.2 h0
 | some c => exact .inr ⟨c, hr.1.1, List.length_pos_iff.2 h0, hr.2.1, hr.2.2.1, hr.2.2.2⟩
theorem RowAt.of_own {w : Value} {r : List α} (ho : Own n0 K.tI K.s h w r.length (r.flatMap K.c)) : ∃ o, RowAt K n0 h w o r := by
 obtain ⟨_, ⟨rfl, h1⟩ | ⟨c, rfl, h2, h3, h4, h5⟩⟩ := ho
 ·exact ⟨none, rfl, List.eq_nil_of_length_eq_zero h1⟩
 ·exact ⟨some c, ⟨rfl, List.length_pos_iff.1 h2⟩, h3, h4, h5⟩
theorem MM.mono (hm : MM K n0 h b R) (hl : h.le h') : MM K n0 h' b R := by
 obtain ⟨ws, os, h1, h2, h3, h4, h5, h6⟩ := hm
 exact ⟨ws, os, h1, Nat.lt_of_lt_of_le h2 hl.1, by rw [hl.2 b h2]; exact h3, h4, fun i hi => (h5 i hi).mono hl, h6⟩
theorem MM.down {n1 : Nat} (hm : MM K n0 h b R) (hn : n1 ≤ n0) : MM K n1 h b R := by
 obtain ⟨ws, os, h1, h2, h3, h4, h5, h6⟩ := hm
 exact ⟨ws, os, Nat.le_trans hn h1, h2, h3, h4, fun i hi => (h5 i hi).down hn, h6⟩
theorem MM.lo (hm : MM K n0 h b R) : n0 ≤ b := by
 obtain ⟨ws, os, h1, h2, h3, h4, h5, h6⟩ := hm
 exact h1
theorem MM.hi (hm : MM K n0 h b R) : b < h.next := by
 obtain ⟨ws, os, h1, h2, h3, h4, h5, h6⟩ := hm
 exact h2
theorem MM.cell {t : Nat} {x y : List Value} (hm : MM K n0 h b R) (hc : Cell h r t x) : MM K n0 (h.set r (some ⟨t, 0, y⟩)) b R := by
 obtain ⟨ws, os, h1, h2, h3, h4, h5, h6⟩ := hm
 refine ⟨ws, os, h1, h2, by rw [blk_set_ne (hc.ne h3 (by decide)).symm]; exact h3, h4, fun i hi => (h5 i hi).set ?_, h6⟩
 intro e
 have hr := h5 i hi
 rw [e] at hr
 exact hc.ne hr.2.2.2 K.hs rfl
theorem getD_set {α : Type} {l : List α} {i j : Nat} {x d : α} (hj : j < l.length) : (l.set i x).getD j d = if j = i then x else l.getD j d := by
 by_cases hij : j = i
 ·subst hij; simp [hj]
 ·simp [hj, hij, Ne.symm hij]
theorem MM.put {i : Nat} {w : Value} {l : List α} (hm : MM K n0 h1 b R) (hl : h1.le h) (hi : i < R.length) (ho : Own h1.next K.tI K.s h w l.length (l.flatMap K.c)) (hn : n0 ≤ h1.next) :
  ∃ h2, wr1 h b i w = some h2 ∧ MM K n0 h2 b (R.set i l) ∧ Up n0 h h2 ∧ h2.next = h.next ∧ (∀ y, y ≠ b → h2.blk y = h.blk y) ∧ (∃ w0, h.blk b = some w0 ∧ ∃ w1, h2 = h.set b (some w1)) := by
 obtain ⟨o, hr⟩ := RowAt.of_own ho
 have hm' := hm.mono hl
 obtain ⟨ws, os, g1, g2, g3, g4, g5, g6⟩ := hm
 have g3' : h.blk b = some ⟨K.tR, 1, ws⟩ := by rw [hl.2 b g2]; exact g3
 refine ⟨h.set b (some ⟨K.tR, 1, ws.set i w⟩), wr1_of g3' (by rw [g4]; exact hi), ?_, .set g1, rfl, fun y hy => blk_set_ne hy, _, g3', _, rfl⟩
 have hob : ∀ c, o = some c → h1.next ≤ c := by
  rintro c rfl
  exact hr.2.1
 refine ⟨ws.set i w, fun j => if j = i then o else os j, g1, Nat.lt_of_lt_of_le g2 hl.1, blk_set, by simp [g4], fun j hj => ?_, fun j c hj hc => ?_⟩
 ·rw [List.length_set] at hj
  rw [getD_set (by rw [g4]; exact hj), getD_set hj]
  by_cases hji : j = i
  ·simp only [hji, if_true]
   exact (hr.down hn).set (fun e => by have := hob _ e; omega)
  ·simp only [if_neg hji]
   exact ((g5 j hj).mono hl).set (fun e => (g6 j b hj e).1 rfl)
 ·rw [List.length_set] at hj
  have hlt : ∀ j c, j < R.length → os j = some c → c < h1.next := by
   intro j c hj hc
   have := g5 j hj
   rw [hc] at this
   exact this.2.2.1
  simp only at hc
  by_cases hji : j = i
  ·rw [if_pos hji] at hc
   have := hob _ hc
   refine ⟨by omega, fun k hk hkc => ?_⟩
   rw [List.length_set] at hk
   by_cases hki : k = i
   ·rw [hji, hki]
   ·simp only [if_neg hki] at hkc
    have := hlt k c hk hkc
    omega
  ·rw [if_neg hji] at hc
   refine ⟨(g6 j c hj hc).1, fun k hk hkc => ?_⟩
   rw [List.length_set] at hk
   by_cases hki : k = i
   ·simp only [if_pos hki] at hkc
    have := hob _ hkc
    have := hlt j c hj hc
    omega
   ·simp only [if_neg hki] at hkc
    exact (g6 j c hj hc).2 k hk hkc
theorem set_comm {x y : Nat} {o o' : Option Blk} (hxy : x ≠ y) : (h.set x o).set y o' = (h.set y o').set x o := by
 unfold VH.set
 simp only [VH.mk.injEq, true_and]
 funext z
 by_cases hx : z = x
 ·subst hx; simp [hxy]
 ·simp [hx]
theorem MM.make {i : Nat} {l : List α} {zs : List Value} (hm : MM K n0 h b R) (hi : i < R.length) (hn : n0 ≤ h.next) (hl : l ≠ []) (hz : zs.map nil1 = l.flatMap K.c) :
  ∃ h2, wr1 (h.push ⟨K.tI, K.s, zs⟩) b i (.slice (some ⟨h.next, 0, none⟩) l.length l.length) = some h2 ∧ h2.blk h.next = some ⟨K.tI, K.s, zs⟩ ∧ MM K n0 (h2.set h.next (some ⟨K.tI, K.s, zs.map nil1⟩)) b (R.set i l) ∧ Up n0 h (h2.set h.next (some ⟨K.tI, K.s, zs.map nil1⟩)) ∧ h2.next = h.next + 1 ∧
   ∀ r t cs, Cell h r t cs → Cell (h2.set h.next (some ⟨K.tI, K.s, zs.map nil1⟩)) r t cs := by
 have ho : Own h.next K.tI K.s (h.push ⟨K.tI, K.s, zs.map nil1⟩) (.slice (some ⟨h.next, 0, none⟩) l.length l.length) l.length (l.flatMap K.c) :=
  ⟨flat_len K.hc l, .inr ⟨h.next, rfl, List.length_pos_iff.2 hl, Nat.le_refl _, Nat.lt_succ_self _, by rw [blk_push, hz]⟩⟩
 obtain ⟨h2, k1, k2, k3, k4, k5, w0, k6, w1, k7⟩ := hm.put (VH.le_push h _) hi ho hn
 have hb := hm.hi
 have hbn : b ≠ h.next := by omega
 rw [blk_push_ne hbn] at k6
 have e1 : wr1 (h.push ⟨K.tI, K.s, zs⟩) b i (.slice (some ⟨h.next, 0, none⟩) l.length l.length) = some ((h.push ⟨K.tI, K.s, zs⟩).set b (some w1)) := by
  rw [wr1_push_ne hbn] at k1 ⊢
  rw [Option.map_eq_some_iff] at k1
  obtain ⟨g, hg, k1⟩ := k1
  have hgg := hg
  unfold wr1 at hg
  rw [k6] at hg
  simp only [Option.bind_some] at hg
  split at hg
  ·injection hg with hg
   rw [hgg, Option.map_some, ← hg, set_push_ne hbn]
   have : (h2.blk b) = some w1 := by rw [k7, blk_set]
   rw [← k1, ← hg, blk_push_ne (by rw [next_set]; exact hbn), blk_set] at this
   rw [← this]
  ·cases hg
 have e2 : ((h.push ⟨K.tI, K.s, zs⟩).set b (some w1)).set h.next (some ⟨K.tI, K.s, zs.map nil1⟩) = h2 := by
  rw [set_comm hbn, set_push, k7]
 refine ⟨_, e1, by rw [blk_set_ne (Ne.symm hbn), blk_push], by rw [e2]; exact k2, by rw [e2]; exact (Up.push hn).trans k3, by rw [next_set, next_push], fun r t cs hc => ?_⟩
 rw [e2, k7]
 refine hc.push.set_ne ?_
 have : (h.push ⟨K.tI, K.s, zs.map nil1⟩).blk b = some w0 := by rw [blk_push_ne hbn]; exact k6
 rintro rfl
 rw [hc.2] at k6
 obtain ⟨ws, os, g1, g2, g3, g4, g5, g6⟩ := hm
 exact absurd rfl (hc.ne g3 (by decide))
theorem cpy_slV {t e' s b0 b1 s2 dl cap : Nat} {z z' : Value} {kk : TK} {cl : α → List Value} {l : List α} {cs : List Value} (hcl : ∀ x, (cl x).length = s2) (h0 : C.base = 0) (ht : C.T t = some ⟨.slice e', s, b0, z⟩) (he : C.T e' = some ⟨kk, s2, b1, z'⟩) (hB : h.blk b = some ⟨e', s2, cs⟩) (h1 : dl = l.length) (h2 : cs.length = l.length * s2) (h3 : l ≠ []) :
  cpyV C t (.slice (some ⟨b, 0, none⟩) dl cap) (slV cl l) h = some (.int .i64 (l.length : Int), h.set b (some ⟨e', s2, l.flatMap cl⟩)) := by
 subst h1
 have hfl := flat_len hcl l
 unfold cpyV slV
 simp only [ht, he, Option.bind_some]
 rw [if_pos (by simp only [List.size_toArray]; exact hfl)]
 simp only [show Nat.min l.length l.length = l.length from Nat.min_self _]
 rw [if_neg (fun e => h3 (List.eq_nil_of_length_eq_zero e)), List.take_of_length_le (by rw [hfl]; exact Nat.le_refl _), h0, wrN_of hB (by rw [hfl, h2]; omega)]
 simp only [Option.map_some, List.take_zero, List.nil_append, Nat.zero_add]
 rw [List.drop_of_length_le (by rw [hfl, h2]; exact Nat.le_refl _), List.append_nil]
theorem MM.new {n : Nat} {ws : List Value} (hw : ws = List.replicate n (.slice none 0 0)) (hn : n0 ≤ h.next) : MM K n0 (h.push ⟨K.tR, 1, ws⟩) h.next (List.replicate n []) := by
 subst hw
 refine ⟨_, fun _ => none, hn, Nat.lt_succ_self _, blk_push, by simp, fun i hi => ?_, fun i c hi hc => by cases hc⟩
 rw [List.length_replicate] at hi
 simp [hi, RowAt]
theorem MM.row {i : Nat} (hm : MM K n0 h b R) (hi : i < R.length) (hr : 0 < (R.getD i []).length) :
  ∃ c, rd1 h b i = some (.slice (some ⟨c, 0, none⟩) (R.getD i []).length (R.getD i []).length) ∧ h.blk c = some ⟨K.tI, K.s, (R.getD i []).flatMap K.c⟩ ∧ n0 ≤ c ∧ c < h.next ∧ b < h.next ∧ n0 ≤ b ∧
   ∀ r, r.length = (R.getD i []).length → MM K n0 (h.set c (some ⟨K.tI, K.s, r.flatMap K.c⟩)) b (R.set i r) := by
 obtain ⟨ws, os, h1, h2, h3, h4, h5, h6⟩ := hm
 have hr5 := h5 i hi
 cases ho : os i with
 | none => rw [ho] at hr5; rw [hr5.2] at hr; exact absurd hr (Nat.lt_irrefl _)
 | some c =>
  rw [ho] at hr5
  obtain ⟨⟨w1, w0⟩, w2, w3, w4⟩ := hr5
  have hwi : ws[i]? = some (.slice (some ⟨c, 0, none⟩) (R.getD i []).length (R.getD i []).length) := by
   have hiw : i < ws.length := by omega
   rw [← w1]; simp [hiw]
  have hcb := (h6 i c hi ho).1
  refine ⟨c, by rw [rd1_of h3]; exact hwi, w4, w2, w3, h2, h1, fun r hrl => ⟨ws, os, h1, h2, by rw [blk_set_ne (Ne.symm hcb)]; exact h3, by rw [List.length_set]; exact h4, fun j hj => ?_, fun j c' hj hc' => ?_⟩⟩
  ·rw [List.length_set] at hj
   rw [getD_set hj]
   by_cases hji : j = i
   ·subst hji
    rw [if_pos rfl, ho]
    exact ⟨⟨by rw [hrl]; exact w1, fun e0 => by rw [e0] at hrl; rw [← hrl] at hr; exact Nat.lt_irrefl _ hr⟩, w2, w3, blk_set⟩
   ·rw [if_neg hji]
    exact (h5 j hj).set (fun e => hji ((h6 j c hj e).2 i hi ho))
  ·rw [List.length_set] at hj
   refine ⟨(h6 j c' hj hc').1, fun k hk hck => (h6 j c' hj hc').2 k (by rw [List.length_set] at hk; exact hk) hck⟩
theorem MM.swap {i j : Nat} (hm : MM K n0 h b R) (hi : i < R.length) (hj : j < R.length) :
  ∃ wi wj h2 h3, rd1 h b i = some wi ∧ rd1 h b j = some wj ∧ QM.seen wi = wi ∧ QM.seen wj = wj ∧ cellsV wi = some [wi] ∧ cellsV wj = some [wj] ∧ wr1 h b i wj = some h2 ∧ wr1 h2 b j wi = some h3 ∧ Up n0 h h3 ∧ h3.next = h.next ∧
   MM K n0 h3 b ((R.set i (R.getD j [])).set j (R.getD i [])) ∧ Grow0 h h2 ∧ Grow0 h2 h3 ∧ ∀ r t cs, Cell h r t cs → Cell h3 r t cs := by
 obtain ⟨ws, os, h1, h2, h3, h4, h5, h6⟩ := hm
 have hiw : i < ws.length := by omega
 have hjw : j < ws.length := by omega
 have hjw2 : j < (ws.set i (ws.getD j Un)).length := by rw [List.length_set]; exact hjw
 refine ⟨ws.getD i Un, ws.getD j Un, h.set b (some ⟨K.tR, 1, ws.set i (ws.getD j Un)⟩), h.set b (some ⟨K.tR, 1, (ws.set i (ws.getD j Un)).set j (ws.getD i Un)⟩), by rw [rd1_of h3]; simp [hiw], by rw [rd1_of h3]; simp [hjw], (h5 i hi).seen, (h5 j hj).seen, (h5 i hi).cv, (h5 j hj).cv,
  wr1_of h3 hiw, wr1_set (B := ⟨K.tR, 1, ws.set i (ws.getD j Un)⟩) hjw2, Up.set h1, rfl, ?_, gr0_set h3, (by
  have := gr0_set (h := h.set b (some ⟨K.tR, 1, ws.set i (ws.getD j Un)⟩)) (B' := ⟨K.tR, 1, (ws.set i (ws.getD j Un)).set j (ws.getD i Un)⟩) blk_set
  rw [set_set] at this
  exact this), fun r t cs hc => hc.set_ne (hc.ne h3 (by decide))⟩
 refine ⟨_, fun k => if k = j then os i else if k = i then os j else os k, h1, h2, blk_set, by simp [h4], fun k hk => ?_, fun k c hk hc => ?_⟩
 ·simp only [List.length_set] at hk
  have hkw : k < ws.length := by omega
  have key : ∀ k, k < R.length → RowAt K n0 (h.set b (some ⟨K.tR, 1, (ws.set i (ws.getD j Un)).set j (ws.getD i Un)⟩)) (ws.getD k Un) (os k) (R.getD k []) := fun k hk => (h5 k hk).set (fun e => (h6 k b hk e).1 rfl)
  rw [getD_set (by simpa using hkw), getD_set (by simpa using hkw), getD_set (by simpa using hk), getD_set (by simpa using hk)]
  by_cases hkj : k = j
  ·simp only [hkj, if_true]
   exact key i hi
  ·simp only [if_neg hkj]
   by_cases hki : k = i
   ·simp only [hki, if_true]
    exact key j hj
   ·simp only [if_neg hki]
    exact key k hk
 ·simp only [List.length_set] at hk
  have hs : ∀ k, k < R.length → ∃ k', k' < R.length ∧ (if k = j then os i else if k = i then os j else os k) = os k' ∧ k' = (if k = j then i else if k = i then j else k) := by
   intro k hk
   refine ⟨if k = j then i else if k = i then j else k, ?_, ?_, rfl⟩
   ·split
    ·exact hi
    ·split
     ·exact hj
     ·exact hk
   ·split
    ·rfl
    ·split <;> rfl
  obtain ⟨k', hk', e1, e1'⟩ := hs k hk
  simp only at hc
  rw [e1] at hc
  refine ⟨(h6 k' c hk' hc).1, fun m hm2 hmc => ?_⟩
  simp only [List.length_set] at hm2
  obtain ⟨m', hm', e2, e2'⟩ := hs m hm2
  simp only at hmc
  rw [e2] at hmc
  have := (h6 k' c hk' hc).2 m' hm' hmc
  rw [e1', e2'] at this
  split at this <;> split at this <;> (try split at this) <;> (try split at this) <;> omega
theorem Own.app2 {ty sz len m t s' b' bb : Nat} {z z' : Value} {kk : TK} {cs news : List Value} {v x : Value} (ho : Own n0 ty sz h v len cs) (h0 : C.base = 0) (ht : C.T t = some ⟨.slice ty, s', b', z⟩) (he : C.T ty = some ⟨kk, sz, bb, z'⟩)
  (hx : rdS h x sz = some (m, news)) (hm : 0 < m) (hsz : 0 < sz) (hb : (len + m) * bb ≤ 140737488355328) (hlm : len + m ≤ 4611686018427387904) :
  ∃ g, appV C t v x h = some (.slice (some ⟨h.next, 0, none⟩) (len + m) (len + m), g.push ⟨ty, sz, cs ++ news⟩) ∧ g.next = h.next ∧ ((v = .slice none 0 0 ∧ g = h) ∨ ∃ c, v = .slice (some ⟨c, 0, none⟩) len len ∧ g = h.set c none ∧ h.blk c = some ⟨ty, sz, cs⟩ ∧ n0 ≤ c ∧ c < h.next) := by
 obtain ⟨hcl, ⟨rfl, rfl⟩ | ⟨b, rfl, hpos, hb0, hbn, hB⟩⟩ := ho
 ·have hcs : cs = [] := List.eq_nil_of_length_eq_zero (by simpa using hcl)
  subst hcs
  refine ⟨h, ?_, rfl, .inl ⟨rfl, rfl⟩⟩
  unfold appV
  simp only [ht, he, Option.bind_some, hx]
  rw [if_neg (by omega), if_pos ⟨by simpa using hb, by omega, hsz⟩]
  simp
 ·refine ⟨h.set b none, ?_, rfl, .inr ⟨b, rfl, rfl, hB, hb0, hbn⟩⟩
  unfold appV
  simp only [ht, he, Option.bind_some, hx]
  rw [if_pos ⟨hpos, hm, by omega, hb, hlm, hsz⟩, hB]
  simp only [Option.bind_some]
  rw [if_pos ⟨trivial, trivial⟩, rdN_of hB]
  simp only [Nat.zero_add, hcl, Nat.le_refl, if_true, Option.map_some, List.drop_zero]
  rw [List.take_of_length_le (by omega)]
theorem MM.appRow {i t b' bb s' : Nat} {z z' : Value} {kk : TK} {x : α} {xs : List Value} (hm : MM K n0 h b R) (hi : i < R.length) (hn : n0 ≤ h.next) (h0 : C.base = 0) (ht : C.T t = some ⟨.slice K.tI, s', b', z⟩) (he : C.T K.tI = some ⟨kk, K.s, bb, z'⟩) (hbb : bb ≤ 64)
  (hlen : (R.getD i []).length < 1099511627776) (hl : h.le h1) (hxs : xs = K.c x) {w : Value} (hw : rd1 h b i = some w) :
  ∃ w' h2 h3, appV C t w (.slice (some ⟨h1.next, 0, none⟩) 1 1) (h1.push ⟨K.tI, K.s, xs⟩) = some (w', h2) ∧ QM.seen w' = w' ∧ cellsV w' = some [w'] ∧ wr1 h2 b i w' = some h3 ∧ MM K n0 h3 b (R.set i (R.getD i [] ++ [x])) ∧ Up n0 h1 h2 ∧ Up n0 h2 h3 ∧ b < h.next ∧ Grow0 (h1.push ⟨K.tI, K.s, xs⟩) h2 ∧ Grow0 h2 h3 ∧ h1.next < h3.next ∧
   (∀ r t cs, Cell h1 r t cs → Cell h3 r t cs) := by
 subst hxs
 obtain ⟨ws, os, g1, g2, g3, g4, g5, g6⟩ := hm
 have hiw : i < ws.length := by omega
 have hri := g5 i hi
 have hri1 := hri.mono hl
 have hwi : rd1 h b i = some (ws.getD i Un) := by rw [rd1_of g3]; simp [hiw]
 obtain rfl : ws.getD i Un = w := by
  rw [hwi] at hw
  injection hw
 have hl1 := hl.1
 have g3' : h1.blk b = some ⟨K.tR, 1, ws⟩ := by rw [hl.2 b g2]; exact g3
 have hlt : ∀ j c, j < R.length → os j = some c → c < h1.next := by
  intro j c hj hc
  have := g5 j hj
  rw [hc] at this
  have := this.2.2.1
  omega
 have key : ∃ g, appV C t (ws.getD i Un) (.slice (some ⟨h1.next, 0, none⟩) 1 1) (h1.push ⟨K.tI, K.s, K.c x⟩) = some (.slice (some ⟨h1.next + 1, 0, none⟩) ((R.getD i []).length + 1) ((R.getD i []).length + 1), g.push ⟨K.tI, K.s, (R.getD i []).flatMap K.c ++ K.c x⟩) ∧ g.next = h1.next + 1 ∧
   (g = h1.push ⟨K.tI, K.s, K.c x⟩ ∨ ∃ c, os i = some c ∧ g = (h1.push ⟨K.tI, K.s, K.c x⟩).set c none) := by
  have hgo : ∀ w0, Own n0 K.tI K.s h1 w0 (R.getD i []).length ((R.getD i []).flatMap K.c) → appV C t (ws.getD i Un) (.slice (some ⟨h1.next, 0, none⟩) 1 1) (h1.push ⟨K.tI, K.s, K.c x⟩) = appV C t w0 (.slice (some ⟨h1.next, 0, none⟩) 1 1) (h1.push ⟨K.tI, K.s, K.c x⟩) → (∀ c, w0 = .slice (some ⟨c, 0, none⟩) (R.getD i []).length (R.getD i []).length → os i = some c) → ∃ g, appV C t (ws.getD i Un) (.slice (some ⟨h1.next, 0, none⟩) 1 1) (h1.push ⟨K.tI, K.s, K.c x⟩) = some (.slice (some ⟨h1.next + 1, 0, none⟩) ((R.getD i []).length + 1) ((R.getD i []).length + 1), g.push ⟨K.tI, K.s, (R.getD i []).flatMap K.c ++ K.c x⟩) ∧ g.next = h1.next + 1 ∧
   (g = h1.push ⟨K.tI, K.s, K.c x⟩ ∨ ∃ c, os i = some c ∧ g = (h1.push ⟨K.tI, K.s, K.c x⟩).set c none) := by
   intro w0 ho heq hc
   obtain ⟨g, k1, k2, k3⟩ := (ho.mono (VH.le_push h1 ⟨K.tI, K.s, K.c x⟩)).app2 (C := C) (t := t) (m := 1) h0 ht he (rdS_p rfl (by rw [K.hc, Nat.one_mul])) (by decide) K.hs (Nat.le_trans (Nat.mul_le_mul (show _ ≤ 1099511627776 by omega) hbb) (by decide)) (by omega)
   refine ⟨g, by rw [heq, k1, next_push], by rw [k2, next_push], ?_⟩
   rcases k3 with ⟨_, k3⟩ | ⟨c, k4, k5, _⟩
   ·exact .inl k3
   ·exact .inr ⟨c, hc c k4, k5⟩
  by_cases hz : R.getD i [] = []
  ·have hw0 : appV C t (ws.getD i Un) (.slice (some ⟨h1.next, 0, none⟩) 1 1) (h1.push ⟨K.tI, K.s, K.c x⟩) = appV C t (.slice none 0 0) (.slice (some ⟨h1.next, 0, none⟩) 1 1) (h1.push ⟨K.tI, K.s, K.c x⟩) := by
    cases hoi : os i with
    | none => rw [hoi] at hri; rw [hri.1]
    | some d => rw [hoi] at hri; exact absurd hz hri.1.2
   refine hgo _ (by rw [hz]; exact Own.nil) hw0 (fun c hc => by cases hc)
  ·refine hgo _ (hri1.own hz) rfl (fun c hc => ?_)
   cases hoi : os i with
   | none => rw [hoi] at hri; exact absurd hri.2 hz
   | some d =>
    rw [hoi] at hri
    rw [hri.1.1] at hc
    simp only [Value.slice.injEq, Option.some.injEq, Addr.mk.injEq, and_true] at hc
    rw [hc]
 obtain ⟨g, k1, k2, k3⟩ := key
 have other : ∀ y, y < h1.next → os i ≠ some y → (g.push ⟨K.tI, K.s, (R.getD i []).flatMap K.c ++ K.c x⟩).blk y = h1.blk y := by
  intro y hy hne
  rw [blk_push_ne (by omega)]
  rcases k3 with rfl | ⟨c, k4, rfl⟩
  ·rw [blk_push_ne (by omega)]
  ·rw [blk_set_ne (by rintro rfl; exact hne k4), blk_push_ne (by omega)]
 have hib : os i ≠ some b := fun e => (g6 i b hi e).1 rfl
 have hb2 : (g.push ⟨K.tI, K.s, (R.getD i []).flatMap K.c ++ K.c x⟩).blk b = some ⟨K.tR, 1, ws⟩ := by rw [other b (by omega) hib]; exact g3'
 have hup : Up n0 h1 (g.push ⟨K.tI, K.s, (R.getD i []).flatMap K.c ++ K.c x⟩) := ⟨by rw [next_push]; omega, fun y hy => other y (by omega) (fun e => by
  rw [e] at hri
  have := hri.2.1
  omega)⟩
 refine ⟨_, _, (g.push ⟨K.tI, K.s, (R.getD i []).flatMap K.c ++ K.c x⟩).set b (some ⟨K.tR, 1, ws.set i (.slice (some ⟨h1.next + 1, 0, none⟩) ((R.getD i []).length + 1) ((R.getD i []).length + 1))⟩), k1, rfl, rfl, wr1_of hb2 hiw, ?_, hup, .set g1, g2, ⟨by rw [next_push, next_push]; omega, fun y hy hyn => ?_⟩, gr0_set hb2, by rw [next_set, next_push]; omega, fun r tt cs hc => ?_⟩
 ·refine ⟨_, fun j => if j = i then some (h1.next + 1) else os j, g1, by rw [next_set, next_push]; omega, blk_set, by simp [g4], fun j hj => ?_, fun j c hj hc => ?_⟩
  ·rw [List.length_set] at hj
   rw [getD_set (by rw [g4]; exact hj), getD_set hj]
   by_cases hji : j = i
   ·simp only [hji, if_true]
    refine ⟨⟨by simp, by simp⟩, by omega, by rw [next_set, next_push]; omega, ?_⟩
    rw [blk_set_ne (by omega), ← k2, blk_push]
    simp
   ·simp only [if_neg hji]
    have hrj := g5 j hj
    cases hoj : os j with
    | none => rw [hoj] at hrj; exact hrj
    | some d =>
     rw [hoj] at hrj
     refine ⟨hrj.1, hrj.2.1, by rw [next_set, next_push]; have := hrj.2.2.1; omega, ?_⟩
     rw [blk_set_ne (g6 j d hj hoj).1, other d (hlt j d hj hoj) (fun e => hji ((g6 j d hj hoj).2 i hi e)), hl.2 d hrj.2.2.1]
     exact hrj.2.2.2
  ·rw [List.length_set] at hj
   simp only at hc
   by_cases hji : j = i
   ·rw [if_pos hji] at hc
    injection hc with hc
    subst hc
    refine ⟨by omega, fun k hk hkc => ?_⟩
    rw [List.length_set] at hk
    by_cases hki : k = i
    ·rw [hji, hki]
    ·simp only [if_neg hki] at hkc
     have := hlt k _ hk hkc
     omega
   ·rw [if_neg hji] at hc
    refine ⟨(g6 j c hj hc).1, fun k hk hkc => ?_⟩
    rw [List.length_set] at hk
    by_cases hki : k = i
    ·simp only [if_pos hki] at hkc
     injection hkc with hkc
     have := hlt j c hj hc
     omega
    ·simp only [if_neg hki] at hkc
     exact (g6 j c hj hc).2 k hk hkc
 ·rw [next_push] at hy
  rw [blk_push_ne (by omega)]
  rcases k3 with rfl | ⟨c, k4, rfl⟩
  ·exact hyn
  ·by_cases hyc : y = c
   ·rw [hyc, blk_set]
   ·rw [blk_set_ne hyc]; exact hyn
 ·refine Cell.set_ne ⟨by rw [next_push]; have := hc.1; omega, ?_⟩ (hc.ne g3' (by decide))
  rw [other r hc.1 (fun e => ?_)]
  ·exact hc.2
  ·rw [e] at hri1
   exact hc.ne hri1.2.2.2 K.hs rfl
theorem MM.head {i : Nat} (hm : MM K n0 h b R) (hi : i < R.length) : ∃ w, rd1 h b i = some w ∧ QM.seen w = w ∧ b < h.next ∧ (∀ {e' s b0 : Nat} {z : Value}, lenT (some ⟨.slice e', s, b0, z⟩) w = some (.int .i64 ((R.getD i []).length : Int))) := by
 obtain ⟨ws, os, g1, g2, g3, g4, g5, g6⟩ := hm
 have hiw : i < ws.length := by omega
 have hri := g5 i hi
 refine ⟨ws.getD i Un, by rw [rd1_of g3]; simp [hiw], hri.seen, g2, ?_⟩
 intro e' s b0 z
 cases hoi : os i with
 | none => rw [hoi] at hri; rw [hri.1, hri.2]; rfl
 | some d => rw [hoi] at hri; rw [hri.1.1]; rfl
def MO (K : MK α) (n0 : Nat) (h : VH) (v : Value) (R : List (List α)) : Prop := (v = .slice none 0 0 ∧ R = []) ∨ (R ≠ [] ∧ ∃ b, v = .slice (some ⟨b, 0, none⟩) R.length R.length ∧ MM K n0 h b R)
theorem MO.nil : MO K n0 h (.slice none 0 0) [] := .inl ⟨rfl, rfl⟩
theorem MO.mono {v : Value} (hm : MO K n0 h v R) (hl : h.le h') : MO K n0 h' v R := by
 rcases hm with hm | ⟨h0, b, hv, hm⟩
 ·exact .inl hm
 ·exact .inr ⟨h0, b, hv, hm.mono hl⟩
theorem MO.seen {v : Value} (hm : MO K n0 h v R) : QM.seen v = v := by
 rcases hm with ⟨rfl, _⟩ | ⟨h0, b, rfl, hm⟩ <;> rfl
theorem MO.app {t b' bb s' : Nat} {z z' : Value} {kk : TK} {v w : Value} {l : List α} (hm : MO K n0 h1 v R) (hn : n0 ≤ h1.next) (hl : h1.le h) (ho : Own h1.next K.tI K.s h w l.length (l.flatMap K.c)) (h0 : C.base = 0) (ht : C.T t = some ⟨.slice K.tR, s', b', z⟩) (he : C.T K.tR = some ⟨kk, 1, bb, z'⟩) (hbb : bb ≤ 64)
  (hlen : R.length < 1099511627776) :
  ∃ v' h', appV C t v (.slice (some ⟨h.next, 0, none⟩) 1 1) (h.push ⟨K.tR, 1, [w]⟩) = some (v', h') ∧ MO K n0 h' v' (R ++ [l]) ∧ Up n0 h h' ∧ h.next < h'.next := by
 obtain ⟨o, hr⟩ := RowAt.of_own ho
 have hl1 := hl.1
 have hob : ∀ c, o = some c → h1.next ≤ c ∧ c < h.next := by
  rintro c rfl
  exact ⟨hr.2.1, hr.2.2.1⟩
 have hown : Own n0 K.tR 1 h v R.length (match v with | .slice (some a) _ _ => ((h.blk a.block).map Blk.cs).getD [] | _ => []) := by
  rcases hm with ⟨rfl, rfl⟩ | ⟨h00, b, rfl, ws, os, g1, g2, g3, g4, g5, g6⟩
  ·exact Own.nil
  ·have g3' : h.blk b = some ⟨K.tR, 1, ws⟩ := by rw [hl.2 b g2]; exact g3
   simp only [g3', Option.map_some, Option.getD_some]
   exact ⟨by rw [g4, Nat.mul_one], .inr ⟨b, rfl, List.length_pos_iff.2 h00, g1, by omega, g3'⟩⟩
 obtain ⟨g, k1, k2, k3⟩ := (hown.mono (VH.le_push h ⟨K.tR, 1, [w]⟩)).app2 (C := C) (t := t) (m := 1) h0 ht he (rdS_p rfl rfl) (by decide) (by decide) (Nat.le_trans (Nat.mul_le_mul (show _ ≤ 1099511627776 by omega) hbb) (by decide)) (by omega)
 refine ⟨_, _, k1, .inr ⟨by simp, h.next + 1, by rw [next_push]; simp, ?_⟩, ?_, by rw [next_push, k2, next_push]; omega⟩
 ·rcases hm with ⟨rfl, rfl⟩ | ⟨h00, b, rfl, ws, os, g1, g2, g3, g4, g5, g6⟩
  ·rcases k3 with ⟨_, rfl⟩ | ⟨c, hc, _⟩
   ·refine ⟨[w], fun _ => o, by omega, by rw [next_push, next_push]; omega, by rw [← next_push (h := h) (B := ⟨K.tR, 1, [w]⟩), blk_push]; rfl, rfl, fun i hi => ?_, fun i c hi hc => ⟨?_, fun j hj _ => ?_⟩⟩
    ·have : i = 0 := by simpa using hi
     subst this
     exact (hr.down hn).mono ((VH.le_push _ _).trans (VH.le_push _ _))
    ·have := hob c hc
     omega
    ·simp at hi hj
     omega
   ·cases hc
  ·have g3' : h.blk b = some ⟨K.tR, 1, ws⟩ := by rw [hl.2 b g2]; exact g3
   have hlt : ∀ j c, j < R.length → os j = some c → c < h1.next := by
    intro j c hj hc
    have := g5 j hj
    rw [hc] at this
    exact this.2.2.1
   rcases k3 with ⟨hc, _⟩ | ⟨c, hc, rfl, hcb, _, _⟩
   ·cases hc
   ·injection hc with hc
    injection hc with hc
    injection hc with hc
    subst hc
    simp only [g3', Option.map_some, Option.getD_some]
    have hother : ∀ y, y < h.next → y ≠ b → ((((h.push ⟨K.tR, 1, [w]⟩).set b none).push ⟨K.tR, 1, ws ++ [w]⟩).blk y) = h.blk y := by
     intro y hy hyb
     rw [blk_push_ne (by rw [next_set, next_push]; omega), blk_set_ne hyb, blk_push_ne (by omega)]
    have hrow : ∀ {w0 : Value} {o0 : Option Nat} {r0 : List α} {m0 : Nat}, RowAt K m0 h w0 o0 r0 → o0 ≠ some b → RowAt K m0 (((h.push ⟨K.tR, 1, [w]⟩).set b none).push ⟨K.tR, 1, ws ++ [w]⟩) w0 o0 r0 := by
     intro w0 o0 r0 m0 h00 hob
     cases o0 with
     | none => exact h00
     | some d => exact ⟨h00.1, h00.2.1, by rw [next_push, next_set, next_push]; have := h00.2.2.1; omega, by rw [hother d h00.2.2.1 (fun e => hob (by rw [e]))]; exact h00.2.2.2⟩
    refine ⟨ws ++ [w], fun j => if j = R.length then o else os j, by omega, by rw [next_push, next_set, next_push]; omega, by rw [← next_push (h := h) (B := ⟨K.tR, 1, [w]⟩)]; exact blk_push, by simp [g4], fun i hi => ?_, fun i c hi hc => ?_⟩
    ·rw [List.length_append] at hi
     by_cases hiR : i = R.length
     ·subst hiR
      simp only [if_true]
      have e1 : (ws ++ [w]).getD R.length Un = w := by rw [← g4]; simp
      have e2 : (R ++ [l]).getD R.length [] = l := by simp
      rw [e1, e2]
      exact hrow (hr.down hn) (fun e => by have := (hob _ e).1; omega)
     ·simp only [if_neg hiR]
      have hi2 : i < R.length := by simp at hi; omega
      have e1 : (ws ++ [w]).getD i Un = ws.getD i Un := by simp [List.getElem?_append_left (show i < ws.length by omega)]
      have e2 : (R ++ [l]).getD i [] = R.getD i [] := by simp [List.getElem?_append_left hi2]
      rw [e1, e2]
      exact hrow ((g5 i hi2).mono hl) (fun e => (g6 i b hi2 e).1 rfl)
    ·rw [List.length_append] at hi
     simp only at hc
     by_cases hiR : i = R.length
     ·rw [if_pos hiR] at hc
      have := hob c hc
      refine ⟨by omega, fun j hj hjc => ?_⟩
      rw [List.length_append] at hj
      by_cases hjR : j = R.length
      ·omega
      ·simp only [if_neg hjR] at hjc
       have := hlt j c (by simp at hj; omega) hjc
       omega
     ·rw [if_neg hiR] at hc
      have hi2 : i < R.length := by simp at hi; omega
      have := hlt i c hi2 hc
      refine ⟨by omega, fun j hj hjc => ?_⟩
      rw [List.length_append] at hj
      by_cases hjR : j = R.length
      ·simp only [if_pos hjR] at hjc
       have := hob c hjc
       omega
      ·simp only [if_neg hjR] at hjc
       exact (g6 i c hi2 hc).2 j (by simp at hj; omega) hjc
 ·refine ⟨by rw [next_push, k2, next_push]; omega, fun y hy => ?_⟩
  have hyh : y < h.next := by omega
  rw [next_push] at k2
  rw [blk_push_ne (by omega)]
  rcases k3 with ⟨_, rfl⟩ | ⟨c, _, rfl, _, hc, _⟩
  ·rw [blk_push_ne (by omega)]
  ·rw [blk_set_ne (by omega), blk_push_ne (by omega)]
theorem MM.frz (t : Nat) (hbase : C.base = 0) (hm : MM K n0 h b R) (ht : e t = .slice (some ⟨b, 0, none⟩) R.length R.length) :
  ∃ h', Fz C.base e h (e.put (some t) (vlV (slV K.c) R)) h' ∧ Up n0 h h' ∧ h'.next = h.next ∧ ∀ r t cs, Cell h r t cs → Cell h' r t cs := by
 have step : ∀ k, k ≤ R.length → ∃ (h' : VH) (ws : List Value) (os : Nat → Option Nat), Fz C.base e h e h' ∧ Up n0 h h' ∧ h'.next = h.next ∧ n0 ≤ b ∧ h'.blk b = some ⟨K.tR, 1, ws⟩ ∧ ws.length = R.length ∧
   (∀ i, i < k → ws.getD i Un = slV K.c (R.getD i [])) ∧ (∀ i, k ≤ i → i < R.length → RowAt K n0 h' (ws.getD i Un) (os i) (R.getD i [])) ∧
   (∀ i c, k ≤ i → i < R.length → os i = some c → c ≠ b ∧ ∀ j, k ≤ j → j < R.length → os j = some c → i = j) ∧ ∀ r t cs, Cell h r t cs → Cell h' r t cs := by
  intro k
  induction k with
  | zero =>
   intro _
   obtain ⟨ws, os, h1, h2, h3, h4, h5, h6⟩ := hm
   exact ⟨h, ws, os, .refl _ _, .refl, rfl, h1, h3, h4, fun i hi => absurd hi (Nat.not_lt_zero _), fun i _ hi => h5 i hi, fun i c _ hi hc => ⟨(h6 i c hi hc).1, fun j _ hj hjc => (h6 i c hi hc).2 j hj hjc⟩, fun _ _ _ hc => hc⟩
  | succ k ih =>
   intro hk
   obtain ⟨h', ws, os, f1, f2, f3, f4, f5, f6, f7, f8, f9, f10⟩ := ih (by omega)
   have hrk := f8 k (Nat.le_refl _) (by omega)
   have hkw : k < ws.length := by omega
   have hmod : ∀ f : Value → Value, ∀ i, i < R.length → (ws.modify k f).getD i Un = if i = k then f (ws.getD k Un) else ws.getD i Un := by
    intro f i hi
    have hiw : i < ws.length := by omega
    by_cases hik : i = k
    ·subst hik; simp [hiw]
    ·simp [hiw, hik, List.getElem_modify, Ne.symm hik]
   cases hok : os k with
   | none =>
    rw [hok] at hrk
    refine ⟨h'.set b (some ⟨K.tR, 1, ws.modify k nil1⟩), ws.modify k nil1, os, f1.trans (.nilc b k f5 (by omega) (.refl _ _)), f2.trans (.set f4), f3, f4, blk_set, by simp [f6], fun i hi => ?_, fun i hi hi2 => ?_, fun i c hi hi2 hc => ⟨(f9 i c (by omega) hi2 hc).1, fun j hj hj2 hjc => (f9 i c (by omega) hi2 hc).2 j (by omega) hj2 hjc⟩, fun r t cs hc => (f10 r t cs hc).set_ne ((f10 r t cs hc).ne f5 (by decide))⟩
    ·rw [hmod _ i (by omega)]
     by_cases hik : i = k
     ·rw [if_pos hik, hrk.1, hik, hrk.2]
      rfl
     ·rw [if_neg hik]
      exact f7 i (by omega)
    ·rw [hmod _ i hi2, if_neg (by omega)]
     exact (f8 i (by omega) hi2).set (fun e => (f9 i b (by omega) hi2 e).1 rfl)
   | some c =>
    rw [hok] at hrk
    obtain ⟨⟨w1, w0⟩, w2, w3, w4⟩ := hrk
    have hcb := (f9 k c (Nat.le_refl _) (by omega) hok).1
    have hfz : fz1 c ⟨K.tI, K.s, (R.getD k []).flatMap K.c⟩ (ws.getD k Un) = slV K.c (R.getD k []) := by
     rw [w1]
     have hlen := flat_len K.hc (R.getD k [])
     simp only [fz1]
     rw [if_pos ⟨trivial, by rw [hlen, Nat.zero_add]; exact Nat.le_refl _⟩, List.drop_zero, List.take_of_length_le (by rw [hlen]; exact Nat.le_refl _)]
     rfl
    refine ⟨(h'.set c none).set b (some ⟨K.tR, 1, ws.modify k (fz1 c ⟨K.tI, K.s, (R.getD k []).flatMap K.c⟩)⟩), _, os, f1.trans (.cell b k c f5 (by omega) w4 (by omega) (Ne.symm hcb) (.refl _ _)), (f2.trans (.set w2)).trans (.set f4), f3, f4, blk_set, by simp [f6], fun i hi => ?_, fun i hi hi2 => ?_, fun i c' hi hi2 hc => ⟨(f9 i c' (by omega) hi2 hc).1, fun j hj hj2 hjc => (f9 i c' (by omega) hi2 hc).2 j (by omega) hj2 hjc⟩, fun r t cs hc => ((f10 r t cs hc).set_ne ((f10 r t cs hc).ne w4 K.hs)).set_ne ((f10 r t cs hc).ne f5 (by decide))⟩
    ·rw [hmod _ i (by omega)]
     by_cases hik : i = k
     ·rw [if_pos hik, hik, hfz]
     ·rw [if_neg hik]
      exact f7 i (by omega)
    ·rw [hmod _ i hi2, if_neg (by omega)]
     refine ((f8 i (by omega) hi2).set (fun e => ?_)).set (fun e => (f9 i b (by omega) hi2 e).1 rfl)
     have := (f9 i c (by omega) hi2 e).2 k (by omega)
     have h2 := (f9 k c (Nat.le_refl _) (by omega) hok).2 i (by omega) hi2 e
     omega
 obtain ⟨h', ws, os, f1, f2, f3, f4, f5, f6, f7, -, -, f10⟩ := step R.length (Nat.le_refl _)
 have hws : ws = R.map (slV K.c) := by
  refine List.ext_getElem (by simp [f6]) fun i hi hi2 => ?_
  have := f7 i (by omega)
  simpa [hi, show i < R.length by omega] using this
 have he : (fun u => if [t].contains u then fzT b ⟨K.tR, 1, ws⟩ (e u) else e u) = e.put (some t) (vlV (slV K.c) R) := by
  funext u
  by_cases hu : u = t
  ·subst hu
   simp only [List.contains_cons, beq_self_eq_true, Bool.true_or, if_true, ht, Env.put]
   rw [fzT_sl rfl (by simp only; omega)]
   simp only [List.drop_zero]
   rw [List.take_of_length_le (by omega), hws]
   rfl
  ·simp [Env.put, hu]
 exact ⟨h'.set b none, f1.trans (.env [t] b f5 (by omega) (by rw [he]; exact .refl _ _)), f2.trans (.set f4), f3, fun r t cs hc => (f10 r t cs hc).set_ne ((f10 r t cs hc).ne f5 (by decide))⟩
theorem WF.mm {c : Code} {cw : Cw Q} (t : Nat) (h0 : C.base = 0) (hm : MM K n0 h b R) (ht : e t = .slice (some ⟨b, 0, none⟩) R.length R.length)
  (hw : ∀ h', Up n0 h h' → h'.next = h.next → (∀ r t cs, Cell h r t cs → Cell h' r t cs) → WF P C c (e.put (some t) (vlV (slV K.c) R)) h' Q) : WF P C c e h Q cw := by
 obtain ⟨h', h1, h4, h5, h6⟩ := hm.frz t h0 ht
 obtain ⟨e2, h2', hf, hw⟩ := hw h' h4 h5 h6
 exact ⟨e2, h2', h1.trans hf, hw⟩
theorem Fin.mm {fn : Func} {Q : Value → VH → Prop} {c : Cw Q} (t : Nat) (h0 : C.base = 0) (hm : MM K n0 h b R) (ht : e t = .slice (some ⟨b, 0, none⟩) R.length R.length)
  (k : ∀ h', Up n0 h h' → h'.next = h.next → Fin C fn (e.put (some t) (vlV (slV K.c) R)) h' Q) : Fin C fn e h Q c := by
 obtain ⟨h', h1, h4, h5, _⟩ := hm.frz t h0 ht
 obtain ⟨e', h1', v, a, b⟩ := k h' h4 h5
 exact ⟨e', h1', v, h1.trans a, b⟩
theorem Fin.mo {fn : Func} {Q : Value → VH → Prop} {c : Cw Q} (t : Nat) (h0 : C.base = 0) (hm : MO K n0 h (e t) R)
  (k : ∀ h', Up n0 h h' → h'.next = h.next → Fin C fn (e.put (some t) (vlV (slV K.c) R)) h' Q) : Fin C fn e h Q c := by
 rcases hm with ⟨hv, rfl⟩ | ⟨_, b, hv, hm⟩
 ·have := k h .refl rfl
  refine Fin.nil t ?_
  rw [hv]
  exact this
 ·exact Fin.mm t h0 hm hv k
theorem WF.mo {c : Code} {cw : Cw Q} (t : Nat) (h0 : C.base = 0) (hm : MO K n0 h (e t) R)
  (hw : ∀ h', Up n0 h h' → h'.next = h.next → (∀ r t cs, Cell h r t cs → Cell h' r t cs) → WF P C c (e.put (some t) (vlV (slV K.c) R)) h' Q) : WF P C c e h Q cw := by
 rcases hm with ⟨hv, rfl⟩ | ⟨_, b, hv, hm⟩
 ·have := hw h .refl rfl (fun _ _ _ h => h)
  refine WF.nil t ?_
  rw [hv]
  exact this
 ·exact WF.mm t h0 hm hv hw
end Go.QM
end
