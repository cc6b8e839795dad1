/- My own words on slices that are only read, their parts, bytes and texts; laws at the operations. No program in sight. -/
import Derived.Test.YtkdeikiloanllaaGreatDoorV2
import Derived.Laws.IdiomStrings
import Derived.Laws.BytesArg
set_option linter.unusedVariables false
set_option linter.unusedSimpArgs false
namespace Go.V
open Go.RowKit

/-- v is a slice of n elements of sz cells each; its cells read xs; they lie in a block of S -/
structure Rd (S : Nat → Prop) (w : World) (sz : Nat) (v : Value) (n : Nat) (xs : List Value) : Prop where
  len : xs.length = n * sz
  form : ∃ a c, v = .slice a n c ∧ n ≤ c ∧ c ≤ 9223372036854775807 ∧ (0 < n * sz → ∃ g off, a = some ⟨g, off, none⟩ ∧ S g ∧ g < w.heap.size ∧ ∀ j u, xs[j]? = some u → w.cell? ⟨g, off + j, none⟩ = some u) ∧ (∀ ad, a = some ad → ad.spot = none)

section
variable {S S' : Nat → Prop} {w w' : World} {e : TypeId} {sz n : Nat} {v : Value} {xs : List Value}
theorem Row.rd (h : Row S w e sz v n xs) : Rd S w sz v n xs := by
  refine ⟨h.len, ?_⟩
  have hn := h.n_le
  rcases h.form with ⟨h1, h2⟩ | ⟨g, off, cap, cur, hv, hg, hh, h1, h2, _⟩
  · subst h2; exact ⟨none, 0, h1, by omega, by omega, fun hp => absurd hp (by omega), fun _ h => by cases h⟩
  · refine ⟨_, cap, hv, h1, by unfold maxLen at h2; omega, fun hp => ?_, fun ad h => by injection h with h; rw [← h]⟩
    obtain ⟨g', off', cap', hv', hg', hl, hc, hcell, _⟩ := h.cells hp
    rw [hv] at hv'
    injection hv' with e1 e2 e3
    injection e1 with e1
    injection e1 with e1 e4
    subst e1 e4
    exact ⟨g, off, rfl, hg', hl, hcell⟩
theorem Rd.same (h : Rd S w sz v n xs) (hs : ∀ k, S k → k < w.heap.size → w'.heap[k]? = w.heap[k]?) : Rd S w' sz v n xs := by
  refine ⟨h.len, ?_⟩
  obtain ⟨a, c, h1, h2, h2', h3, h4⟩ := h.form
  refine ⟨a, c, h1, h2, h2', fun hp => ?_, h4⟩
  obtain ⟨g, off, r1, r2, r3, r4⟩ := h3 hp
  have hb := hs g r2 r3
  have hlt : g < w'.heap.size := by
    rw [Array.getElem?_eq_getElem r3] at hb
    exact lt_of_heap hb
  exact ⟨g, off, r1, r2, hlt, fun j u hu => by rw [World.cell?_of_block (w := w) (w' := w') (a := ⟨g, off + j, none⟩) hb]; exact r4 j u hu⟩
theorem Rd.frm (h : Rd S w sz v n xs) {F : Nat → Prop} (hf : Frm F w w') (hd : ∀ k, S k → ¬ F k) : Rd S w' sz v n xs := h.same (fun k hk hl => hf.block k hl (hd k hk))
theorem Rd.mono (h : Rd S w sz v n xs) (hs : ∀ k, S k → k < w.heap.size → S' k) : Rd S' w sz v n xs := by
  refine ⟨h.len, ?_⟩
  obtain ⟨a, c, h1, h2, h2', h3, h4⟩ := h.form
  refine ⟨a, c, h1, h2, h2', fun hp => ?_, h4⟩
  obtain ⟨g, off, r1, r2, r3, r4⟩ := h3 hp
  exact ⟨g, off, r1, hs g r2 r3, r3, r4⟩
theorem Rd.slice (h : Rd S w sz v n xs) : ∃ a c, v = .slice a n c ∧ n ≤ c ∧ c ≤ 9223372036854775807 := by
  obtain ⟨a, c, h1, h2, h2', _⟩ := h.form; exact ⟨a, c, h1, h2, h2'⟩
theorem Rd.nil (S : Nat → Prop) (w : World) (sz : Nat) : Rd S w sz (.slice none 0 0) 0 [] := ⟨by simp, none, 0, rfl, by omega, by omega, fun hp => absurd hp (by omega), fun _ h => by cases h⟩
/-- the cells, at an index -/
theorem Rd.cells (h : Rd S w sz v n xs) (hp : 0 < n * sz) : ∃ g off c, v = .slice (some ⟨g, off, none⟩) n c ∧ S g ∧ g < w.heap.size ∧ n ≤ c ∧ ∀ j u, xs[j]? = some u → w.cell? ⟨g, off + j, none⟩ = some u := by
  obtain ⟨a, c, h1, h2, _, h3, _⟩ := h.form
  obtain ⟨g, off, r1, r2, r3, r4⟩ := h3 hp
  subst r1
  exact ⟨g, off, c, h1, r2, r3, h2, r4⟩
theorem Rd.src {P : Program} (h : Rd S w sz v n xs) {tx e' : TypeId} (hk : P.underlying tx = some (.slice e')) (h1 : ∀ u ∈ xs, u.oneCell' = true) : Src P sz tx v n xs w := by
  obtain ⟨a, c, rfl, hc, hc', h3, h4⟩ := h.form
  have hlen := h.len
  by_cases hp : 0 < n * sz
  · obtain ⟨g, off, rfl, _, _, r4⟩ := h3 hp
    exact Src.ofSlice w hk _ n c xs hlen (fun j u hu => by rw [Addr.add_lit]; exact r4 j u hu) h1
  · have hx : xs = [] := List.eq_nil_of_length_eq_zero (by omega)
    subst hx
    cases a with
    | some a => exact Src.ofSlice w hk a n c [] hlen (fun j u hu => by simp at hu) h1
    | none => exact ⟨.inl ⟨e', hk⟩, fun _ => rfl, run_firstCells_none w sz n n c, run_firstCells_none w.drew sz n n c, hlen, fun u hu => by cases hu⟩
/-- a part of it -/
theorem Rd.part (h : Rd S w sz v n xs) (lo hi : Nat) (hl : lo ≤ hi) (hh : hi ≤ n) : ∀ cap a, v = .slice a n cap →
    Rd S w sz (.slice (if cap = lo then a else a.map (·.add (lo * sz))) (hi - lo) (cap - lo)) (hi - lo) ((xs.drop (lo * sz)).take ((hi - lo) * sz)) := by
  intro cap a hv
  have hlen := h.len
  have e1 : hi * sz ≤ n * sz := Nat.mul_le_mul_right _ hh
  have e2 : (hi - lo) * sz = hi * sz - lo * sz := Nat.sub_mul ..
  have e3 : lo * sz ≤ hi * sz := Nat.mul_le_mul_right _ hl
  refine ⟨by rw [List.length_take, List.length_drop, hlen]; omega, ?_⟩
  obtain ⟨a', c', h1, h2, h2', h3, h4⟩ := h.form
  rw [h1] at hv
  injection hv with q1 q2 q3
  subst q1 q3
  refine ⟨_, _, rfl, by omega, by omega, fun hp => ?_, ?_⟩
  · have hp' : 0 < n * sz := by omega
    obtain ⟨g, off, r1, r2, r3, r4⟩ := h3 hp'
    have hcl : c' ≠ lo := by
      intro e
      have : hi - lo = 0 := by omega
      rw [this] at hp
      simp at hp
    refine ⟨g, off + lo * sz, by rw [if_neg hcl, r1]; simp [Addr.add_lit], r2, r3, fun j u hu => ?_⟩
    rw [List.getElem?_take] at hu
    split at hu
    · rw [List.getElem?_drop] at hu
      rw [Nat.add_assoc]
      exact r4 _ u hu
    · cases hu
  · intro ad had
    split at had
    · exact h4 ad had
    · cases a' with
      | none => cases had
      | some x =>
        have hx := h4 x rfl
        obtain ⟨b, o, s⟩ := x
        simp at hx
        subst hx
        simp [Addr.add_lit] at had
        rw [← had]
end

section slicing
variable {P : Program} (w : World) {ops : Array Oper} {rest : List Oper} {o : Oper} {a : Act} {Q : Exit → Act → World → Prop} {S : Nat → Prop} {sz n : Nat} {v : Value} {xs : List Value} {t e : TypeId} {i : TypeInfo}
theorem run_sizeOf (hi : P.info? e = some i) : (sizeOf e).run P w = .ok i.size w := by simp [sizeOf, typeInfo, hi]
theorem elem_of (ht : P.underlying t = some (.slice e)) : P.elem t = e := by simp [Program.elem, ht]
/-- x[lo:hi] -/
theorem wpList_slice_lh (hg : o.guard = none) (x l h : Operand) (hop : o.op = Op.slice t x (some l) (some h) none) (ht : P.underlying t = some (.slice e)) (hi : P.info? e = some i) (hsz : i.size = sz) (hR : Rd S w sz v n xs)
    (kl kh : IntKind) (L H : Int) (h0 : 0 ≤ L) (h1 : L ≤ H) (h2 : H ≤ n) (hx : a.eval x = v) (hl : a.eval l = .int kl L) (hh : a.eval h = .int kh H)
    (hK : ∀ a' c', Rd S w sz (.slice a' (H.toNat - L.toNat) c') (H.toNat - L.toNat) ((xs.drop (L.toNat * sz)).take ((H.toNat - L.toNat) * sz)) → wpList P ops Q rest (a.put o.dst (.slice a' (H.toNat - L.toNat) c')) w) :
    wpList P ops Q (o :: rest) a w := by
  refine wpList_plain hg fun K hK' => ?_
  obtain ⟨a', c', rfl, hc, hc'⟩ := hR.slice
  have hp := hR.part L.toNat H.toNat (by omega) (by omega) c' a' rfl
  have ht' : P.underlying t = some (.slice (P.elem t)) := by rw [elem_of ht]; exact ht
  have hrun := run_slice_lh (P := P) w t a' n c' ht' kl kh L H h0 h1 (by omega)
  rw [elem_of ht, run_sizeOf w hi, hsz] at hrun
  unfold Oper.wp
  simp only [execOp, hop, hx, hl, hh, Option.map_some, Option.map_none, Sem.run_map, Sem.run_bind, run_sliceAt_slice (P := P) w t _ _ _ _ ht', hrun, Result.andThen, Sem.run_pure, Oper.upon_value, sliced, Option.mapM_some, Option.mapM_none]
  first | exact hK' _ _ (hK _ _ hp) | (simp [hrun, Result.andThen, sliced]; exact hK' _ _ (hK _ _ hp))
/-- x[lo:] -/
theorem wpList_slice_l (hg : o.guard = none) (x l : Operand) (hop : o.op = Op.slice t x (some l) none none) (ht : P.underlying t = some (.slice e)) (hi : P.info? e = some i) (hsz : i.size = sz) (hR : Rd S w sz v n xs)
    (kl : IntKind) (L : Int) (h0 : 0 ≤ L) (h1 : L ≤ n) (hx : a.eval x = v) (hl : a.eval l = .int kl L)
    (hK : ∀ a' c', Rd S w sz (.slice a' (n - L.toNat) c') (n - L.toNat) (xs.drop (L.toNat * sz)) → wpList P ops Q rest (a.put o.dst (.slice a' (n - L.toNat) c')) w) :
    wpList P ops Q (o :: rest) a w := by
  refine wpList_plain hg fun K hK' => ?_
  obtain ⟨a', c', rfl, hc, hc'⟩ := hR.slice
  have hp := hR.part L.toNat n (by omega) (by omega) c' a' rfl
  have hlen := hR.len
  rw [List.take_of_length_le (by rw [List.length_drop, hlen, Nat.sub_mul]; omega)] at hp
  have ht' : P.underlying t = some (.slice (P.elem t)) := by rw [elem_of ht]; exact ht
  have hrun := run_slice_l (P := P) w t a' n c' ht' kl L h0 h1
  rw [elem_of ht, run_sizeOf w hi, hsz] at hrun
  unfold Oper.wp
  simp only [execOp, hop, hx, hl, Option.map_some, Option.map_none, Sem.run_map, Sem.run_bind, run_sliceAt_slice (P := P) w t _ _ _ _ ht', hrun, Result.andThen, Sem.run_pure, Oper.upon_value, sliced, Option.mapM_some, Option.mapM_none]
  first | exact hK' _ _ (hK _ _ hp) | (simp [hrun, Result.andThen, sliced]; exact hK' _ _ (hK _ _ hp))
/-- x[:hi] -/
theorem wpList_slice_h (hg : o.guard = none) (x h : Operand) (hop : o.op = Op.slice t x none (some h) none) (ht : P.underlying t = some (.slice e)) (hi : P.info? e = some i) (hsz : i.size = sz) (hR : Rd S w sz v n xs)
    (kh : IntKind) (H : Int) (h0 : 0 ≤ H) (h1 : H ≤ n) (hx : a.eval x = v) (hh : a.eval h = .int kh H)
    (hK : ∀ a' c', Rd S w sz (.slice a' H.toNat c') H.toNat (xs.take (H.toNat * sz)) → wpList P ops Q rest (a.put o.dst (.slice a' H.toNat c')) w) :
    wpList P ops Q (o :: rest) a w := by
  refine wpList_plain hg fun K hK' => ?_
  obtain ⟨a', c', rfl, hc, hc'⟩ := hR.slice
  have hp := hR.part 0 H.toNat (by omega) (by omega) c' a' rfl
  simp only [Nat.zero_mul, List.drop_zero, Nat.sub_zero] at hp
  have ht' : P.underlying t = some (.slice (P.elem t)) := by rw [elem_of ht]; exact ht
  have hrun := run_slice_h (P := P) w t a' n c' ht' kh H h0 (by omega)
  rw [elem_of ht, run_sizeOf w hi, hsz] at hrun
  unfold Oper.wp
  simp only [execOp, hop, hx, hh, Option.map_some, Option.map_none, Sem.run_map, Sem.run_bind, run_sliceAt_slice (P := P) w t _ _ _ _ ht', hrun, Result.andThen, Sem.run_pure, Oper.upon_value, sliced, Option.mapM_some, Option.mapM_none]
  first | (refine hK' _ _ ?_; simpa using hK _ _ hp) | (simp [hrun, Result.andThen, sliced]; refine hK' _ _ ?_; simpa using hK _ _ hp)
end slicing

/-! ### bytes and texts -/
def cells8 (l : List UInt8) : List Value := l.map fun b => .int .u8 b.toNat
theorem cells8_length (l : List UInt8) : (cells8 l).length = l.length := by simp [cells8]
theorem cells8_append (l r : List UInt8) : cells8 (l ++ r) = cells8 l ++ cells8 r := by simp [cells8]
theorem cells8_one (l : List UInt8) : ∀ u ∈ cells8 l, u.oneCell' = true := by
  intro u hu
  obtain ⟨_, _, rfl⟩ := List.mem_map.1 hu
  rfl
theorem cells8_get (l : List UInt8) (j : Nat) (h : j < l.length) : (cells8 l)[j]? = some (.int .u8 (l[j].toNat : Int)) := by simp [cells8, h]
theorem cells8_drop (l : List UInt8) (k : Nat) : (cells8 l).drop k = cells8 (l.drop k) := by simp [cells8]
theorem cells8_take (l : List UInt8) (k : Nat) : (cells8 l).take k = cells8 (l.take k) := by simp [cells8]
/-- bytes that can be read -/
abbrev RdB (S : Nat → Prop) (w : World) (v : Value) (l : List UInt8) : Prop := Rd S w 1 v l.length (cells8 l)
/-- bytes that are owned; E: the type of a byte -/
abbrev RowB (S : Nat → Prop) (w : World) (E : TypeId) (v : Value) (l : List UInt8) : Prop := Row S w E 1 v l.length (cells8 l)
def txt (l : List UInt8) : ByteArray := ⟨l.toArray⟩
theorem txt_toList (s : ByteArray) : txt s.data.toList = s := rfl
theorem toList_txt (l : List UInt8) : (txt l).data.toList = l := rfl
theorem size_txt (l : List UInt8) : (txt l).size = l.length := rfl
theorem RdB.at_ {S : Nat → Prop} {w : World} {v : Value} {l : List UInt8} (h : RdB S w v l) (j : Nat) (hj : j < l.length) : ∃ g off c, v = .slice (some ⟨g, off, none⟩) l.length c ∧ w.cell? ⟨g, off + j, none⟩ = some (.int .u8 (l[j].toNat : Int)) := by
  obtain ⟨g, off, c, h1, _, _, _, h2⟩ := h.cells (by omega)
  exact ⟨g, off, c, h1, h2 j _ (cells8_get l j hj)⟩
/-- []byte to string -/
theorem run_string_of {P : Program} {S : Nat → Prop} {w : World} {v : Value} {l : List UInt8} (h : RdB S w v l) {src dst e : TypeId} (hs : P.underlying src = some (.slice e)) (he : P.underlying e = some (.int .u8)) (hd : P.underlying dst = some .string) :
    (convert src dst v).run P w = .ok (.string (txt l)) w := by
  obtain ⟨a, c, rfl, _⟩ := h.slice
  by_cases hp : 0 < l.length
  · obtain ⟨g, off, c', h1, _, _, _, h2⟩ := h.cells (by omega)
    injection h1 with h1 _ h3
    subst h1
    have := run_convert_bytes_arg (P := P) w src e hs he g off l.length c (l.map fun b => (b.toNat : Int)) (by simp) (fun j hj => by
      rw [h2 j _ (cells8_get l j hj)]; simp [hj]) dst hd
    rw [this]
    congr 2
    unfold strOfNums txt
    congr 1
    apply Array.ext'
    simp [Function.comp_def]
  · have hl : l = [] := List.eq_nil_of_length_eq_zero (by omega)
    subst hl
    obtain ⟨a', c', h1, _, _, _, h4⟩ := h.form
    injection h1 with h1 _ h3
    subst h1 h3
    cases a with
    | none => exact run_convert_bytes_nil (P := P) w src e hs he 0 c dst hd
    | some x =>
      obtain ⟨b, o, s⟩ := x
      have := h4 _ rfl
      simp at this
      subst this
      exact run_convert_bytes_arg (P := P) w src e hs he b o 0 c [] rfl (fun j hj => by omega) dst hd

/-- slices of bytes, in a slice, that can be read -/
def RdBB (S : Nat → Prop) (w : World) (v : Value) (ls : List (List UInt8)) : Prop :=
  ∃ vs : List Value, Rd S w 1 v ls.length vs ∧ ∀ i (h : i < ls.length), ∃ x, vs[i]? = some x ∧ RdB S w x ls[i]
theorem RdBB.frm {S F : Nat → Prop} {w w' : World} {v : Value} {ls : List (List UInt8)} (h : RdBB S w v ls) (hf : Frm F w w') (hd : ∀ k, S k → ¬ F k) : RdBB S w' v ls := by
  obtain ⟨vs, h1, h2⟩ := h
  refine ⟨vs, h1.frm hf hd, fun i hi => ?_⟩
  obtain ⟨x, hx, hr⟩ := h2 i hi
  exact ⟨x, hx, hr.frm hf hd⟩
theorem RdBB.at_ {S : Nat → Prop} {w : World} {v : Value} {ls : List (List UInt8)} (h : RdBB S w v ls) (k : Nat) (hk : k < ls.length) :
    ∃ g off c ax cx, v = .slice (some ⟨g, off, none⟩) ls.length c ∧ w.cell? ⟨g, off + k, none⟩ = some (.slice ax ls[k].length cx) ∧ RdB S w (.slice ax ls[k].length cx) ls[k] := by
  obtain ⟨vs, h1, h2⟩ := h
  obtain ⟨x, hx, hr⟩ := h2 k hk
  obtain ⟨g, off, c, e, _, _, _, hc⟩ := h1.cells (by omega)
  obtain ⟨ax, cx, rfl, _⟩ := hr.slice
  exact ⟨g, off, c, ax, cx, e, hc k _ hx, hr⟩
theorem RdBB.slice {S : Nat → Prop} {w : World} {v : Value} {ls : List (List UInt8)} (h : RdBB S w v ls) : ∃ a c, v = .slice a ls.length c ∧ ls.length ≤ c ∧ c ≤ 9223372036854775807 := by
  obtain ⟨vs, h1, _⟩ := h; exact h1.slice
theorem RdBB.mk3 {S : Nat → Prop} {w : World} {B : Nat} {x y z : Value} {T : TypeId} {l1 l2 l3 : List UInt8} (h : w.heap[B]? = some (.cells #[x, y, z] T (0, 0))) (hB : S B) (hx : RdB S w x l1) (hy : RdB S w y l2) (hz : RdB S w z l3) :
    RdBB S w (.slice (some ⟨B, 0, none⟩) 3 3) [l1, l2, l3] := by
  refine ⟨[x, y, z], ⟨rfl, some ⟨B, 0, none⟩, 3, rfl, by simp, by omega, fun _ => ⟨B, 0, rfl, hB, lt_of_heap h, fun j u hu => ?_⟩, fun ad h => by injection h with h; rw [← h]⟩, ?_⟩
  · rw [Nat.zero_add, cell_of h]
    simpa using hu
  · intro i hi
    match i, hi with
    | 0, _ => exact ⟨x, rfl, hx⟩
    | 1, _ => exact ⟨y, rfl, hy⟩
    | 2, _ => exact ⟨z, rfl, hz⟩
theorem RdB.of_block {S : Nat → Prop} {w : World} {B n : Nat} {cs : Array Value} {T : TypeId} {l : List UInt8} (h : w.heap[B]? = some (.cells cs T (0, 0))) (hB : S B) (hcs : cs.toList = cells8 l) (hn : n = l.length) (hm : n ≤ 9223372036854775807) : RdB S w (.slice (some ⟨B, 0, none⟩) n n) l := by
  subst hn
  refine ⟨by rw [cells8_length, Nat.mul_one], some ⟨B, 0, none⟩, l.length, rfl, Nat.le_refl _, hm, fun _ => ⟨B, 0, rfl, hB, lt_of_heap h, fun j u hu => ?_⟩, fun ad h => by injection h with h; rw [← h]⟩
  rw [Nat.zero_add, cell_of h, ← Array.getElem?_toList, hcs]
  exact hu
end Go.V
