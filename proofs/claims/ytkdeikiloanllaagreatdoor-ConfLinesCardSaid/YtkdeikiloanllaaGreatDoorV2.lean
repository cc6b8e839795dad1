/- My own words on slices that a structure owns: their cells, append, a part of them. No program in sight. -/
import Derived.Test.YtkdeikiloanllaaGreatDoorV1
set_option linter.unusedVariables false
set_option linter.unusedSimpArgs false
namespace Go.V
open Go.RowKit

/-- v is a slice of n elements of sz cells each; its cells are xs; its block is of S and may be written as far as the capacity goes -/
structure Row (S : Nat → Prop) (w : World) (e : TypeId) (sz : Nat) (v : Value) (n : Nat) (xs : List Value) : Prop where
  len : xs.length = n * sz
  form : (v = .slice none 0 0 ∧ n = 0) ∨ ∃ g off cap cur, v = .slice (some ⟨g, off, none⟩) n cap ∧ S g ∧ w.heap[g]? = some (.cells cur e (0, 0)) ∧ n ≤ cap ∧ cap ≤ maxLen ∧ off + cap * sz ≤ cur.size ∧ (cur.toList.drop off).take (n * sz) = xs

section
variable {S S' : Nat → Prop} {w w' : World} {e : TypeId} {sz n : Nat} {v : Value} {xs : List Value}
theorem Row.nil (S : Nat → Prop) (w : World) (e : TypeId) (sz : Nat) : Row S w e sz (.slice none 0 0) 0 [] := ⟨by simp, .inl ⟨rfl, rfl⟩⟩
theorem Row.slice (h : Row S w e sz v n xs) : ∃ a c, v = .slice a n c := by
  rcases h.form with ⟨rfl, rfl⟩ | ⟨g, off, cap, cur, rfl, _⟩
  · exact ⟨none, 0, rfl⟩
  · exact ⟨_, cap, rfl⟩
theorem Row.n_le (h : Row S w e sz v n xs) : n ≤ 9223372036854775807 := by
  rcases h.form with ⟨_, rfl⟩ | ⟨g, off, cap, cur, _, _, _, h1, h2, _⟩
  · omega
  · unfold maxLen at h2; omega
theorem Row.own (h : Row S w e sz v n xs) {k : Nat} (hk : v.ownBlock = some k) : S k ∧ k < w.heap.size := by
  rcases h.form with ⟨rfl, _⟩ | ⟨g, off, cap, cur, rfl, hs, hh, _⟩
  · simp [Value.ownBlock] at hk
  · have : g = k := by simpa [Value.ownBlock] using hk
    subst this
    exact ⟨hs, lt_of_heap hh⟩
theorem Row.same (h : Row S w e sz v n xs) (hs : ∀ k, S k → w'.heap[k]? = w.heap[k]?) : Row S w' e sz v n xs := by
  refine ⟨h.len, ?_⟩
  rcases h.form with h1 | ⟨g, off, cap, cur, hv, hg, hh, r⟩
  · exact .inl h1
  · exact .inr ⟨g, off, cap, cur, hv, hg, (hs g hg).trans hh, r⟩
theorem Row.same' (h : Row S w e sz v n xs) (hs : ∀ k, v.ownBlock = some k → w'.heap[k]? = w.heap[k]?) : Row S w' e sz v n xs := by
  refine ⟨h.len, ?_⟩
  rcases h.form with h1 | ⟨g, off, cap, cur, hv, hg, hh, r⟩
  · exact .inl h1
  · exact .inr ⟨g, off, cap, cur, hv, hg, (hs g (by rw [hv]; rfl)).trans hh, r⟩
theorem Row.mono (h : Row S w e sz v n xs) (hs : ∀ k, v.ownBlock = some k → S k → S' k) : Row S' w e sz v n xs := by
  refine ⟨h.len, ?_⟩
  rcases h.form with h1 | ⟨g, off, cap, cur, hv, hg, r⟩
  · exact .inl h1
  · exact .inr ⟨g, off, cap, cur, hv, hs g (by rw [hv]; rfl) hg, r⟩
/-- the cells behind the slice's address -/
theorem Row.cells (h : Row S w e sz v n xs) (hp : 0 < n * sz) : ∃ g off cap, v = .slice (some ⟨g, off, none⟩) n cap ∧ S g ∧ g < w.heap.size ∧ n ≤ cap ∧ (∀ j u, xs[j]? = some u → w.cell? ⟨g, off + j, none⟩ = some u) ∧ (∀ i, w.frozen? ⟨g, i, none⟩ = false) := by
  rcases h.form with ⟨_, h1⟩ | ⟨g, off, cap, cur, hv, hg, hh, h1, h2, h3, h4⟩
  · subst h1; simp at hp
  · refine ⟨g, off, cap, hv, hg, lt_of_heap hh, h1, fun j u hu => ?_, fun i => free_of hh i⟩
    rw [cell_of hh]
    rw [← h4] at hu
    rw [List.getElem?_take] at hu
    split at hu
    · rw [List.getElem?_drop] at hu; simpa using hu
    · cases hu
/-- a part of it -/
theorem Row.part (h : Row S w e sz v n xs) (lo hi : Nat) (hl : lo ≤ hi) (hh : hi ≤ n) : ∀ cap a, v = .slice a n cap →
    Row S w e sz (.slice (if cap = lo then a else a.map (·.add (lo * sz))) (hi - lo) (cap - lo)) (hi - lo) ((xs.drop (lo * sz)).take ((hi - lo) * sz)) := by
  intro cap a hv
  have hlen := h.len
  have e1 : hi * sz ≤ n * sz := Nat.mul_le_mul_right _ hh
  have e2 : (hi - lo) * sz = hi * sz - lo * sz := Nat.sub_mul ..
  have e3 : lo * sz ≤ hi * sz := Nat.mul_le_mul_right _ hl
  refine ⟨by rw [List.length_take, List.length_drop, hlen]; omega, ?_⟩
  rcases h.form with ⟨hv', h1⟩ | ⟨g, off, cap', cur, hv', hg, hb, h1, h2, h3, h4⟩
  · rw [hv'] at hv
    injection hv with ha hn hc
    subst h1
    have : lo = 0 ∧ hi = 0 := by omega
    obtain ⟨rfl, rfl⟩ := this
    subst ha hc
    exact .inl ⟨by simp, rfl⟩
  · rw [hv'] at hv
    injection hv with ha hn hc
    subst ha hc
    have e4 : n * sz ≤ cap' * sz := Nat.mul_le_mul_right _ h1
    have e5 : (cap' - lo) * sz = cap' * sz - lo * sz := Nat.sub_mul ..
    by_cases hcl : cap' = lo
    · subst hcl
      have : hi = cap' := by omega
      subst this
      refine .inr ⟨g, off, 0, cur, by simp, hg, hb, by omega, by omega, by omega, ?_⟩
      simp
    · refine .inr ⟨g, off + lo * sz, cap' - lo, cur, by simp [hcl, Addr.add_lit], hg, hb, by omega, by omega, by omega, ?_⟩
      rw [← h4, List.drop_take, List.take_take, List.drop_drop, Nat.min_eq_left (by omega)]
end

/-- what 'append' asks of its second argument, of a slice that is owned -/
theorem Row.src {P : Program} {S : Nat → Prop} {w : World} {e : TypeId} {sz n : Nat} {v : Value} {xs : List Value} (h : Row S w e sz v n xs) {tx e' : TypeId} (hk : P.underlying tx = some (.slice e')) (h1 : ∀ u ∈ xs, u.oneCell' = true) : Src P sz tx v n xs w := by
  by_cases hp : 0 < n * sz
  · obtain ⟨g, off, cap, rfl, _, _, _, hc, _⟩ := h.cells hp
    exact Src.ofSlice w hk _ n cap xs h.len (fun j u hu => by rw [Addr.add_lit]; exact hc j u hu) h1
  · have hx : xs = [] := List.eq_nil_of_length_eq_zero (by rw [h.len]; omega)
    subst hx
    obtain ⟨a, c, rfl⟩ := h.slice
    have h0 : n * sz = 0 := by omega
    cases a with
    | some a => exact Src.ofSlice w hk a n c [] h.len (fun j u hu => by simp at hu) h1
    | none =>
      rcases h.form with ⟨h2, rfl⟩ | ⟨g, off, cap, cur, h2, _⟩
      · injection h2 with _ _ h3; subst h3; exact Src.ofNil w hk 0
      · injection h2 with h3; cases h3

def setAll : Array Value → Nat → List Value → Array Value
  | c, _, [] => c
  | c, o, v :: r => setAll (c.setIfInBounds o v) (o + 1) r
theorem setAll_list : ∀ (vs : List Value) (c : Array Value) (o : Nat), o + vs.length ≤ c.size → (setAll c o vs).toList = c.toList.take o ++ vs ++ c.toList.drop (o + vs.length)
  | [], c, o, h => by simp [setAll]
  | v :: r, c, o, h => by
    simp only [List.length_cons] at h
    unfold setAll
    rw [setAll_list r _ _ (by simp; omega)]
    have hl : c.toList.length = c.size := by simp
    rw [Array.toList_setIfInBounds]
    apply List.ext_getElem?
    intro j
    simp only [List.getElem?_append, List.length_append, List.length_take, List.length_set, List.length_cons, List.getElem?_take, List.getElem?_drop, List.getElem?_set, hl]
    by_cases h1 : j < o
    · rw [if_pos (by omega), if_pos (by omega), if_pos (by omega), if_neg (by omega), if_pos (by omega), if_pos (by omega), if_pos (by omega)]
    · by_cases h2 : j = o
      · subst h2
        rw [if_pos (by omega), if_pos (by omega), if_pos (by omega), if_pos rfl, if_pos (by omega), if_pos (by omega), if_neg (by omega)]
        simp [Nat.min_eq_left (show j ≤ c.size by omega)]
      · by_cases h3 : j < o + 1 + r.length
        · rw [if_pos (by omega), if_neg (by omega), if_pos (by omega), if_neg (by omega)]
          rw [Nat.min_eq_left (show o ≤ c.size by omega), Nat.min_eq_left (show o + 1 ≤ c.size by omega)]
          rw [show j - o = (j - (o + 1)) + 1 by omega]; simp
        · rw [if_neg (by omega), if_neg (by omega)]
          rw [Nat.min_eq_left (show o ≤ c.size by omega), Nat.min_eq_left (show o + 1 ≤ c.size by omega), if_neg (by omega)]
          congr 1; omega
theorem setAll_size : ∀ (vs : List Value) (c : Array Value) (o : Nat), (setAll c o vs).size = c.size
  | [], _, _ => rfl
  | v :: r, c, o => by unfold setAll; rw [setAll_size]; simp
theorem heap_setCells_at {g : Nat} {e : TypeId} {f : Nat × Nat} : ∀ (vs : List Value) (o : Nat) (w : World) (c : Array Value), w.heap[g]? = some (.cells c e f) → (w.setCells g o vs).heap[g]? = some (.cells (setAll c o vs) e f)
  | [], _, _, _, h => h
  | v :: r, o, w, c, h => heap_setCells_at r (o + 1) _ _ (heap_setCell_at h o v)
theorem heap_setCells_ne {g k : Nat} (hk : k ≠ g) : ∀ (vs : List Value) (o : Nat) (w : World), (w.setCells g o vs).heap[k]? = w.heap[k]?
  | [], _, _ => rfl
  | v :: r, o, w => (heap_setCells_ne hk r (o + 1) _).trans (heap_setCell_ne hk)
theorem rest_setCells (g : Nat) : ∀ (vs : List Value) (o : Nat) (w : World), (w.setCells g o vs).os = w.os ∧ (w.setCells g o vs).tape = w.tape ∧ (w.setCells g o vs).output = w.output ∧ (w.setCells g o vs).heap.size = w.heap.size
  | [], _, _ => ⟨rfl, rfl, rfl, rfl⟩
  | v :: r, o, w => by
    obtain ⟨h1, h2, h3, h4⟩ := rest_setCells g r (o + 1) (w.setCell ⟨g, o, none⟩ v)
    exact ⟨h1, h2, h3, h4.trans (by simp)⟩
theorem zeroCells_size (z : Array Value) (n : Nat) : (Builtin.zeroCells z n).size = n * z.size := by simp [Builtin.zeroCells]

/-- append(s, x..): SOME slice and world -/
theorem run_append_row {P : Program} {S : Nat → Prop} {w : World} {t tx ty e : TypeId} {i : TypeInfo} {z : Value} {sz n m : Nat} {v x : Value} {xs news : List Value} (ht : P.underlying t = some (.slice e)) (hi : P.info? e = some i) (hz : i.zero = some z) (hsz : i.size = sz) (hzc : z.cells.size = sz)
    (h : Row S w e sz v n xs) (hs : Src P sz tx x m news w) (hb : (n + m) * i.bytes ≤ 140737488355328) (hm : n + m ≤ 4611686018427387904) :
    ∃ a' c' w', (Builtin.append_ #[t, tx] ty #[v, x]).run P w = .ok (.slice a' (n + m) c') w' ∧ Row (fun k => v.ownBlock = some k ∨ k = w.heap.size) w' e sz (.slice a' (n + m) c') (n + m) (xs ++ news) ∧ Frm (fun k => v.ownBlock = some k) w w' ∧ w'.heap.size ≤ w.heap.size + 1 := by
  subst hsz
  have hlen := h.len
  have hnl := hs.newsLen
  have hadd : (n + m) * i.size = n * i.size + m * i.size := Nat.add_mul ..
  obtain ⟨a, cap, hv⟩ := h.slice
  by_cases hroom : n + m ≤ cap
  · rcases h.form with ⟨hv', hn⟩ | ⟨g, off, cap', cur, hv', hg, hh, h1, h2, h3, h4⟩
    · rw [hv'] at hv
      injection hv with ha hb' hc
      subst ha hc hn
      have hm0 : m = 0 := by omega
      subst hm0
      have hx : xs = [] := List.eq_nil_of_length_eq_zero (by simpa using hlen)
      have hy : news = [] := List.eq_nil_of_length_eq_zero (by simpa using hnl)
      subst hx hy
      refine ⟨none, 0, w, ?_, ⟨by simp, .inl ⟨rfl, rfl⟩⟩, Frm.refl _ _, by omega⟩
      rw [hv']
      rcases hs.kind with ⟨e', hk⟩ | hk <;> simp [Builtin.append_, run_underlying ht, run_underlying hk, sizeOf, typeInfo, hi, hs.len, hs.cells]
    · rw [hv'] at hv
      injection hv with ha hb' hc
      subst ha hc
      have e1 : n * i.size ≤ cap' * i.size := Nat.mul_le_mul_right _ h1
      have e2 : (n + m) * i.size ≤ cap' * i.size := Nat.mul_le_mul_right _ hroom
      have hsz2 : off + n * i.size + news.length ≤ cur.size := by omega
      refine ⟨some ⟨g, off, none⟩, cap', w.setCells g (off + n * i.size) news, ?_, ?_, ?_, by rw [(rest_setCells g news _ w).2.2.2]; omega⟩
      · rw [hv']
        exact run_append_room_src w t tx ty e i ht hi g off n cap' x m news hs hroom (fun j hj => by rw [cell_of hh]; simp; omega) (fun j hj => free_of hh _)
      · refine ⟨by rw [List.length_append, hlen, hnl, hadd], .inr ⟨g, off, cap', _, rfl, .inl (by rw [hv']; rfl), heap_setCells_at news _ w cur hh, hroom, h2, by rw [setAll_size]; exact h3, ?_⟩⟩
        rw [setAll_list _ _ _ hsz2, ← h4]
        apply List.ext_getElem?
        intro j
        have hcl : cur.toList.length = cur.size := by simp
        simp only [List.getElem?_take, List.getElem?_drop, List.getElem?_append, List.length_append, List.length_take, List.length_drop, hcl]
        by_cases j1 : j < n * i.size
        · rw [if_pos (by omega), if_pos (by omega), if_pos (by omega), if_pos (by omega), if_pos (by omega), if_pos (by omega)]
        · by_cases j2 : j < n * i.size + m * i.size
          · rw [if_pos (by omega), if_pos (by omega), if_neg (by omega), if_neg (by omega)]
            congr 1; omega
          · rw [if_neg (by omega), if_neg (by omega), List.getElem?_eq_none (by omega)]
      · obtain ⟨r1, r2, r3, r4⟩ := rest_setCells g news (off + n * i.size) w
        exact ⟨r1, r2, r3, by rw [r4]; exact Nat.le_refl _, fun k hk hn => heap_setCells_ne (fun e => hn (by rw [hv', e]; rfl)) news _ w⟩
  · have hold : (Builtin.firstCells i.size n (.slice a n cap)).run P w.drew = .ok xs.toArray w.drew := by
      rcases h.form with ⟨hv', hn⟩ | ⟨g, off, cap', cur, hv', hg, hh, h1, h2, h3, h4⟩
      · rw [hv'] at hv
        injection hv with ha hb' hc
        subst ha hc hn
        have hx : xs = [] := List.eq_nil_of_length_eq_zero (by simpa using hlen)
        subst hx
        exact run_firstCells_none w.drew i.size 0 0 0
      · rw [hv'] at hv
        injection hv with ha hb' hc
        subst ha hc
        refine run_firstCells_some w.drew i.size n _ n cap' xs hlen (fun j u hu => ?_)
        rw [Addr.add_lit, World.cell?_drew, cell_of hh]
        rw [← h4, List.getElem?_take] at hu
        split at hu
        · rw [List.getElem?_drop] at hu; simpa using hu
        · cases hu
    have hg : cap < n + m := by omega
    have hfit : Builtin.nextslicecap (n + m) cap * i.bytes ≤ 281474976710656 := by
      have := Nat.mul_le_mul_right i.bytes (nextslicecap_le hg)
      rw [Nat.mul_assoc] at this
      omega
    have hgc : n + m ≤ grownCap w (n + m) cap e ∧ grownCap w (n + m) cap e ≤ 9223372036854775807 := by
      have eq0 : grownCap w (n + m) cap e = (n + m) + w.tape w.drawn (.appendCap (n + m) cap e) % (2 ^ 63 - (n + m)) := rfl
      rw [eq0]
      have := Nat.mod_lt (w.tape w.drawn (.appendCap (n + m) cap e)) (show 0 < 2 ^ 63 - (n + m) by omega)
      omega
    have hgrow := run_append_grow_src w t tx ty e i z ht hi hz a n cap xs hold x m news hs hg (by omega) hfit
    refine ⟨_, _, _, by rw [hv]; exact hgrow, ⟨by rw [List.length_append, hlen, hnl, hadd], .inr ⟨w.heap.size, 0, _, _, rfl, .inr rfl, heap_alloc_at (w := w.drew), hgc.1, by unfold maxLen; omega, ?_, ?_⟩⟩, (Frm.refl _ _).drew.alloc _, by simp⟩
    · simp only [Array.size_append, List.size_toArray, List.length_append, hlen, hnl, zeroCells_size, hzc, Nat.sub_mul, hadd]
      have : (n + m) * i.size ≤ grownCap w (n + m) cap e * i.size := Nat.mul_le_mul_right _ hgc.1
      omega
    · simp only [Array.toList_append, List.drop_zero]
      rw [List.take_append_of_le_length (by simp [hlen, hnl, hadd]), List.take_of_length_le (by simp [hlen, hnl, hadd])]

/-- 'append' at the operation -/
theorem wpList_append_v {P : Program} (w : World) {ops : Array Oper} {rest : List Oper} {o : Oper} {a : Act} {Q : Exit → Act → World → Prop}
    (hg : o.guard = none) (s x : Operand) (t tx : TypeId) (hop : o.op = Op.call { callee := Callee.builtin Builtin.append, args := #[s, x], argTypes := #[t, tx] })
    {S : Nat → Prop} {e : TypeId} {i : TypeInfo} {z : Value} {sz n m : Nat} {v y : Value} {xs news : List Value} (ht : P.underlying t = some (.slice e)) (hi : P.info? e = some i) (hz : i.zero = some z) (hsz : i.size = sz) (hzc : z.cells.size = sz)
    (h : Row S w e sz v n xs) (hs : Src P sz tx y m news w) (hv : a.eval s = v) (hy : a.eval x = y) (hb : (n + m) * i.bytes ≤ 140737488355328) (hm : n + m ≤ 4611686018427387904)
    (hK : ∀ a' c' w', Row (fun k => v.ownBlock = some k ∨ k = w.heap.size) w' e sz (.slice a' (n + m) c') (n + m) (xs ++ news) → Frm (fun k => v.ownBlock = some k) w w' → w'.heap.size ≤ w.heap.size + 1 → wpList P ops Q rest (a.put o.dst (.slice a' (n + m) c')) w') :
    wpList P ops Q (o :: rest) a w := by
  refine wpList_plain hg fun K hK' => ?_
  obtain ⟨a', c', w', hrun, h1, h2, h3⟩ := run_append_row (ty := o.type) ht hi hz hsz hzc h hs hb hm
  unfold Oper.wp
  simp [execOp, hop, resolve, invoke, builtin, hv, hy, hrun, Result.andThen]
  exact hK' _ _ (hK a' c' w' h1 h2 h3)
end Go.V
