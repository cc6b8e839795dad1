/- Rows of rules that are made: memory. -/
import Derived.Test.YtkdeikiloanllaaGreatDoorDA
import Derived.Deep.RegionHeld3
import Derived.RegionTactic
set_option linter.unusedVariables false
set_option linter.unusedSimpArgs false
namespace Go.V
open Go.RowKit Go.Proofs

/-- append at a step of a region that draws its order -/
theorem step_append_v {P : Program} (w : World) {ops : Array Oper} {o : Oper} {a : Act} {K : Act → World → Prop} {Q : Exit → Act → World → Prop} {E : Prop}
    (hg : o.guard = none) (s x : Operand) (t tx : TypeId) (hop : o.op = Op.call { callee := Callee.builtin Builtin.append, args := #[s, x], argTypes := #[t, tx] })
    {S : Nat → Prop} {e : TypeId} {i : TypeInfo} {z : Value} {sz n m : Nat} {v y : Value} {xs news : List Value} (ht : P.underlying t = some (.slice e)) (hi : P.info? e = some i) (hz : i.zero = some z) (hsz : i.size = sz) (hzc : z.cells.size = sz)
    (h : Row S w e sz v n xs) (hs : Src P sz tx y m news w) (hv : a.eval s = v) (hy : a.eval x = y) (hb : (n + m) * i.bytes ≤ 140737488355328) (hm : n + m ≤ 4611686018427387904)
    (hK : ∀ a' c' w', Row (fun k => v.ownBlock = some k ∨ k = w.heap.size) w' e sz (.slice a' (n + m) c') (n + m) (xs ++ news) → Frm (fun k => v.ownBlock = some k) w w' → w'.heap.size ≤ w.heap.size + 1 → K (a.put o.dst (.slice a' (n + m) c')) w') :
    if Region.wanted o (yielded ops a.tmps) = true then Oper.wp P o a w K Q else E := by
  have hw : Region.wanted o (yielded ops a.tmps) = true := by simp [Region.wanted, hg]
  rw [if_pos hw]
  obtain ⟨a', c', w', hrun, h1, h2, h3⟩ := run_append_row (ty := o.type) ht hi hz hsz hzc h hs hb hm
  unfold Oper.wp
  simp [execOp, hop, resolve, invoke, builtin, hv, hy, hrun, Result.andThen]
  exact hK a' c' w' h1 h2 h3
theorem Row.put {S : Nat → Prop} {w : World} {e : TypeId} {g o n c : Nat} {xs : List Value} (h : Row S w e 1 (.slice (some ⟨g, o, none⟩) n c) n xs) {m : Nat} (hm : m < n) (u : Value) :
    Row S (w.setCell ⟨g, o + m, none⟩ u) e 1 (.slice (some ⟨g, o, none⟩) n c) n (xs.set m u) := by
  refine ⟨by rw [List.length_set]; exact h.len, ?_⟩
  rcases h.form with ⟨h1, h2⟩ | ⟨g', o', cap, cur, hv, hg, hh, h1, h2, h3, h4⟩
  · omega
  · injection hv with e1 _ e3
    injection e1 with e1
    injection e1 with e1 e2
    subst e1 e2 e3
    refine .inr ⟨g, o, c, cur.setIfInBounds (o + m) u, rfl, hg, heap_setCell_at hh _ _, h1, h2, by rw [Array.size_setIfInBounds]; exact h3, ?_⟩
    rw [← h4, Array.toList_setIfInBounds, List.drop_set, if_neg (by omega), Nat.add_sub_cancel_left, List.take_set]
theorem Row.cell {S : Nat → Prop} {w : World} {e : TypeId} {v : Value} {n : Nat} {xs : List Value} (h : Row S w e 1 v n xs) (hn : 0 < n) :
    ∃ g o c, v = .slice (some ⟨g, o, none⟩) n c ∧ g < w.heap.size ∧ (∀ j u, xs[j]? = some u → w.cell? ⟨g, o + j, none⟩ = some u) ∧ (∀ i, w.frozen? ⟨g, i, none⟩ = false) := by
  obtain ⟨g, o, c, h1, _, h3, _, h5, h6⟩ := h.cells (by omega)
  exact ⟨g, o, c, h1, h3, h5, h6⟩
/-- rows of rules, each with a block of its own -/
structure ROwn (S : Nat → Prop) (w : World) (v : Value) (vs : List Value) (rows : List (List PR)) : Prop where
  row : Row S w 51 1 v rows.length vs
  at_ : ∀ (i : Nat) (h : i < rows.length), ∃ u k, vs[i]? = some u ∧ u.ownBlock = some k ∧ Row (fun k => S k ∧ v.ownBlock ≠ some k) w 53 4 u rows[i].length (flat rows[i])
  inj : ∀ (i j : Nat) (u x : Value), i ≠ j → vs[i]? = some u → vs[j]? = some x → u.ownBlock ≠ x.ownBlock
theorem ROwn.nil (S : Nat → Prop) (w : World) : ROwn S w (.slice none 0 0) [] [] := ⟨Row.nil _ _ _ _, fun i hi => absurd hi (by simp), fun i j u x _ h => by simp at h⟩
theorem ROwn.frm0 {S : Nat → Prop} {w w' : World} {v : Value} {vs : List Value} {rows : List (List PR)} (h : ROwn S w v vs rows) (hf : Frm None' w w') : ROwn S w' v vs rows :=
  ⟨h.row.frm0 hf, fun i hi => by obtain ⟨u, k, h1, h2, h3⟩ := h.at_ i hi; exact ⟨u, k, h1, h2, h3.frm0 hf⟩, h.inj⟩
theorem ROwn.rd {S : Nat → Prop} {w : World} {v : Value} {vs : List Value} {rows : List (List PR)} (h : ROwn S w v vs rows) : RulesRd S w v rows :=
  ⟨vs, h.row.rd, fun i hi => by obtain ⟨u, k, h1, _, h3⟩ := h.at_ i hi; exact ⟨u, h1, h3.rd.mono (fun _ hk _ => hk.1)⟩⟩
theorem Row.slice_own {S : Nat → Prop} {w : World} {e : TypeId} {sz n : Nat} {v : Value} {xs : List Value} (h : Row S w e sz v n xs) (hn : 0 < n) : ∃ k, v.ownBlock = some k := by
  rcases h.form with ⟨_, h0⟩ | ⟨g, off, cap, cur, hv, _⟩
  · omega
  · exact ⟨g, by rw [hv]; rfl⟩
theorem ROwn.lt {S : Nat → Prop} {w : World} {v : Value} {vs : List Value} {rows : List (List PR)} (h : ROwn S w v vs rows) {i : Nat} {u : Value} {k : Nat} (hu : vs[i]? = some u) (hk : u.ownBlock = some k) : k < w.heap.size := by
  have hi : i < rows.length := by
    have := (List.getElem?_eq_some_iff.1 hu).1
    have := h.row.len
    omega
  obtain ⟨u', k', h1, h2, h3⟩ := h.at_ i hi
  rw [hu] at h1
  injection h1 with h1
  subst h1
  exact (h3.own hk).2
/-- a row more -/
theorem ROwn.push {S : Nat → Prop} {w w' : World} {v u : Value} {vs : List Value} {rows : List (List PR)} {r : PR} {a : Option Addr} {c b : Nat} (h : ROwn S w v vs rows)
    (hu : Row (fun k => k = b) w 53 4 u 1 r.cells) (hub : u.ownBlock = some b) (hSb : S b) (hvb : v.ownBlock ≠ some b) (hnew : ∀ (i : Nat) (x : Value), vs[i]? = some x → x.ownBlock ≠ some b) (hS : S w.heap.size)
    (hv : Row (fun k => v.ownBlock = some k ∨ k = w.heap.size) w' 51 1 (.slice a (rows.length + 1) c) (rows.length + 1) (vs ++ [u])) (hf : Frm (fun k => v.ownBlock = some k) w w') : ROwn S w' (.slice a (rows.length + 1) c) (vs ++ [u]) (rows ++ [[r]]) := by
  have hlen : vs.length = rows.length := by have := h.row.len; omega
  have hbl : b < w.heap.size := (hu.own hub).2
  have key : ∀ k, k < w.heap.size → v.ownBlock ≠ some k → (Value.slice a (rows.length + 1) c).ownBlock ≠ some k := by
    intro k hk h4 e
    rcases (hv.own e).1 with q | q
    · exact h4 q
    · omega
  refine ⟨?_, fun i hi => ?_, ?_⟩
  · have := hv.mono (S' := S) (fun k hk q => by
      rcases q with q | q
      · exact (h.row.own q).1
      · rw [q]; exact hS)
    simpa using this
  · rw [List.length_append] at hi
    by_cases hl : i < rows.length
    · obtain ⟨u', k, q1, q2, q3⟩ := h.at_ i hl
      refine ⟨u', k, by rw [List.getElem?_append_left (by omega)]; exact q1, q2, ?_⟩
      rw [List.getElem_append_left hl]
      have q4 : Row (fun k => S k ∧ v.ownBlock ≠ some k) w' 53 4 u' rows[i].length (flat rows[i]) := q3.same' (fun k hk => hf.block k (q3.own hk).2 (q3.own hk).1.2)
      exact q4.mono (fun k hk q => ⟨q.1, key k (q3.own hk).2 q.2⟩)
    · have e : i = rows.length := by simp at hi; omega
      subst e
      refine ⟨u, b, by rw [List.getElem?_append_right (by omega), hlen]; simp, hub, ?_⟩
      rw [List.getElem_append_right (Nat.le_refl _)]
      simp only [Nat.sub_self, List.getElem_cons_zero]
      have q4 : Row (fun k => k = b) w' 53 4 u 1 r.cells := hu.same' (fun k hk => hf.block k (hu.own hk).2 (by rw [(hu.own hk).1]; exact hvb))
      have q5 := q4.mono (S' := fun k => S k ∧ (Value.slice a (rows.length + 1) c).ownBlock ≠ some k) (fun k _ q => by rw [q]; exact ⟨hSb, key b hbl hvb⟩)
      have e1 : flat [r] = r.cells := by simp [flat]
      rw [e1]
      exact q5
  · intro i j x y hij hx hy
    by_cases h1 : i < rows.length
    · rw [List.getElem?_append_left (by omega)] at hx
      by_cases h2 : j < rows.length
      · rw [List.getElem?_append_left (by omega)] at hy
        exact h.inj i j x y hij hx hy
      · rw [List.getElem?_append_right (by omega)] at hy
        have : y = u := by
          have hj := (List.getElem?_eq_some_iff.1 hy).1
          simp at hj
          have e : j - vs.length = 0 := by omega
          rw [e] at hy; simpa using hy.symm
        rw [this, hub]
        exact hnew i x hx
    · rw [List.getElem?_append_right (by omega)] at hx
      have hi := (List.getElem?_eq_some_iff.1 hx).1
      simp at hi
      have e : i - vs.length = 0 := by omega
      rw [e] at hx
      have : x = u := by simpa using hx.symm
      have h2 : j < rows.length := by
        by_cases q : j < rows.length
        · exact q
        · rw [List.getElem?_append_right (by omega)] at hy
          have hj := (List.getElem?_eq_some_iff.1 hy).1
          simp at hj
          omega
      rw [List.getElem?_append_left (by omega)] at hy
      rw [this, hub]
      exact fun q => hnew j y hy q.symm
/-- the last row has a rule more -/
theorem ROwn.last {S : Nat → Prop} {w w' : World} {g o n c : Nat} {u : Value} {vs : List Value} {rows : List (List PR)} {r : PR} {a' : Option Addr} {c' : Nat} (h : ROwn S w (.slice (some ⟨g, o, none⟩) n c) vs rows) (hn : n = rows.length) (hpos : 0 < rows.length)
    (hu : vs[rows.length - 1]? = some u) (hS : S w.heap.size)
    (hv : Row (fun k => u.ownBlock = some k ∨ k = w.heap.size) w' 53 4 (.slice a' ((rows.getLastD []).length + 1) c') ((rows.getLastD []).length + 1) (flat (rows.getLastD []) ++ r.cells)) (hf : Frm (fun k => u.ownBlock = some k) w w') :
    ROwn S (w'.setCell ⟨g, o + (rows.length - 1), none⟩ (.slice a' ((rows.getLastD []).length + 1) c')) (.slice (some ⟨g, o, none⟩) n c) (vs.set (rows.length - 1) (.slice a' ((rows.getLastD []).length + 1) c')) (rows.dropLast ++ [rows.getLastD [] ++ [r]]) := by
  subst hn
  obtain ⟨m, hm⟩ : ∃ m, rows.length = m + 1 := ⟨rows.length - 1, by omega⟩
  have hlen : vs.length = rows.length := by have := h.row.len; omega
  have hml : (rows.dropLast ++ [rows.getLastD [] ++ [r]]).length = rows.length := by simp; omega
  obtain ⟨u0, k0, p1, p2, p3⟩ := h.at_ (rows.length - 1) (by omega)
  rw [hu] at p1
  injection p1 with p1
  subst p1
  obtain ⟨k', hk'⟩ := hv.slice_own (by omega)
  have hgo : (Value.slice (some ⟨g, o, Option.none⟩) rows.length c).ownBlock = some g := rfl
  have hgl := (h.row.own hgo).2
  have hug : u.ownBlock ≠ some g := fun e => (p3.own e).1.2 rfl
  have hk'2 : k' = k0 ∨ k' = w.heap.size := by
    rcases (hv.own hk').1 with q | q
    · rw [p2] at q; injection q with q; exact .inl q.symm
    · exact .inr q
  have hk'g : k' ≠ g := by
    rcases hk'2 with q | q
    · rw [q]; intro e; exact hug (by rw [p2, e])
    · omega
  have hSk : S k' := by
    rcases hk'2 with q | q
    · rw [q]; exact (p3.own p2).1.1
    · rw [q]; exact hS
  refine ⟨?_, fun i hi => ?_, ?_⟩
  · rw [hml]
    refine (Row.put (h.row.same' (fun k hk => ?_)) (by omega) _)
    rw [hgo] at hk
    injection hk with hk
    subst hk
    exact hf.block g hgl hug
  · rw [hml] at hi
    by_cases hl : i = rows.length - 1
    · refine ⟨_, k', by rw [List.getElem?_set, if_pos hl.symm, if_pos (by omega)], hk', ?_⟩
      have e1 : (rows.dropLast ++ [rows.getLastD [] ++ [r]])[i]'(by rw [hml]; exact hi) = rows.getLastD [] ++ [r] := by
        subst hl
        rw [List.getElem_append_right (by simp)]
        simp
      rw [e1]
      have e2 : flat (rows.getLastD [] ++ [r]) = flat (rows.getLastD []) ++ r.cells := by rw [flat_append]; simp [flat]
      rw [e2, List.length_append, List.length_singleton]
      refine Row.mono (S := fun k => u.ownBlock = some k ∨ k = w.heap.size) (hv.same' (fun k hk => heap_setCell_ne ?_)) (fun k hk _ => ?_)
      · rw [hk'] at hk; injection hk with hk; rw [← hk]; exact hk'g
      · rw [hk'] at hk; injection hk with hk; subst hk
        exact ⟨hSk, fun e => by rw [hgo] at e; injection e with e; exact hk'g e.symm⟩
    · have hl2 : i < rows.length - 1 := by omega
      obtain ⟨x, k, q1, q2, q3⟩ := h.at_ i hi
      refine ⟨x, k, by rw [List.getElem?_set, if_neg (fun e => hl e.symm)]; exact q1, q2, ?_⟩
      have e1 : (rows.dropLast ++ [rows.getLastD [] ++ [r]])[i]'(by rw [hml]; exact hi) = rows[i] := by
        rw [List.getElem_append_left (by rw [List.length_dropLast]; omega), List.getElem_dropLast]
      rw [e1]
      refine q3.same' (fun k hk => ?_)
      have hkg : k ≠ g := fun e => (q3.own hk).1.2 (by rw [e]; rfl)
      rw [heap_setCell_ne hkg]
      exact hf.block k (q3.own hk).2 (fun e => h.inj i (rows.length - 1) x u (by omega) q1 hu (by rw [hk, e]))
  · intro i j x y hij hx hy
    rw [List.getElem?_set] at hx hy
    have hx' : ∀ (i : Nat) (x : Value), (if rows.length - 1 = i then if rows.length - 1 < vs.length then some (Value.slice a' ((rows.getLastD []).length + 1) c') else Option.none else vs[i]?) = some x → (i = rows.length - 1 ∧ x.ownBlock = some k') ∨ (i ≠ rows.length - 1 ∧ vs[i]? = some x) := by
      intro i x h
      by_cases e : rows.length - 1 = i
      · rw [if_pos e, if_pos (by omega)] at h
        injection h with h
        exact .inl ⟨e.symm, by rw [← h]; exact hk'⟩
      · rw [if_neg e] at h
        exact .inr ⟨fun q => e q.symm, h⟩
    have hne : ∀ (i : Nat) (x : Value), i ≠ rows.length - 1 → vs[i]? = some x → x.ownBlock ≠ some k' := by
      intro i x hi hx e
      rcases hk'2 with q | q
      · exact h.inj i (rows.length - 1) x u hi hx hu (by rw [e, p2, q])
      · have := h.lt hx e; omega
    rcases hx' i x hx with ⟨q1, q2⟩ | ⟨q1, q2⟩
    · rcases hx' j y hy with ⟨r1, r2⟩ | ⟨r1, r2⟩
      · exact absurd (q1.trans r1.symm) hij
      · rw [q2]; exact fun e => hne j y r1 r2 e.symm
    · rcases hx' j y hy with ⟨r1, r2⟩ | ⟨r1, r2⟩
      · rw [r2]; exact hne i x q1 q2
      · exact h.inj i j x y hij q2 r2
end Go.V
