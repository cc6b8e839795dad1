/- A configuration's reader in memory; reading any rule; where "&" stands. -/
import Derived.Test.YtkdeikiloanllaaGreatDoorCD
import Derived.Test.YtkdeikiloanllaaGreatDoorCP
import Derived.Laws.StructEq
set_option linter.unusedVariables false
set_option linter.unusedSimpArgs false
namespace Go.V
open Go.RowKit Go.Proofs

/-! ### maps with words as keys -/
theorem txt_beq (a b : List UInt8) : (txt a == txt b) = (a == b) := by rw [beq_toListBytes, toList_txt', toList_txt']
theorem sb_string (s : ByteArray) (n : Nat) : Instr.sameBits (n + 1) (.string s) (.string s) = true := by simp [Instr.sameBits, beq_toListBytes]
def mkStr : MKey (List UInt8) := ⟨fun x => .string (txt x), fun a b h => by injection h with h; exact txt_inj.1 h, fun k => sb_string _ 9999⟩
theorem findNow_str (x : List UInt8) : ∀ (es : List (List UInt8 × Value)) (l : List MapEntry) (i : Nat), l.map (fun e => (e.key, e.val)) = es.map (fun p => (Value.string (txt p.1), p.2)) →
    Instr.findNow .string (.string (txt x)) l i = some ((es.findIdx? (fun p => p.1 = x)).bind fun j => (es[j]?).map fun p => (i + j, p.2))
  | [], [], i, _ => rfl
  | [], e :: l, i, h => by simp at h
  | p :: es, [], i, h => by simp at h
  | p :: es, e :: l, i, h => by
    simp only [List.map_cons, List.cons.injEq, Prod.mk.injEq] at h
    obtain ⟨⟨h1, h2⟩, h3⟩ := h
    have ih := findNow_str x es l (i + 1) h3
    rw [List.findIdx?_cons]
    by_cases hxy : p.1 = x
    · subst hxy; simp [Instr.findNow, Instr.sameNow, h1, h2, txt_beq]
    · have hb : (txt x == txt p.1) = false := by rw [txt_beq]; simp; exact fun e => hxy e.symm
      simp only [Instr.findNow, Instr.sameNow, h1, hb, ih, decide_eq_true_eq, hxy, if_false]
      cases es.findIdx? (fun p => p.1 = x) with
      | none => simp
      | some j => simp; congr; funext p; congr 1; omega
theorem run_checkKey_str {P : Program} {w : World} {k : TypeId} (hk : P.underlying k = some .string) (em : Bool) (x : ByteArray) (n : Nat) : (Instr.checkKey em (n + 1) k (.string x)).run P w = .ok () w := by
  simp [Instr.checkKey, run_underlying hk]
theorem finds_str {P : Program} {k : TypeId} (hk : P.underlying k = some .string) : Finds P k mkStr where
  check em x w := run_checkKey_str hk em _ 9999
  find x es w l h := by
    have := findNow_str x es l 0 h
    simp only [mkStr, Instr.findKey, Sem.run_bind, run_underlying hk, Result.andThen_ok, this, Sem.run_pure, Nat.zero_add]
def seenMap (l : List (List UInt8)) : List (List UInt8 × Value) := l.map fun x => (x, Value.bool true)
theorem mget_seen {l : List (List UInt8)} {x : List UInt8} (h : x ∈ l) : mget (seenMap l) x = some (.bool true) := by
  unfold mget seenMap
  induction l with
  | nil => cases h
  | cons y l ih =>
    rw [List.map_cons, List.find?_cons]
    by_cases e : y = x
    · simp [e]
    · simp only [e, decide_false]
      rcases List.mem_cons.1 h with q | q
      · exact absurd q.symm e
      · exact ih q
theorem mget_unseen {l : List (List UInt8)} {x : List UInt8} (h : x ∉ l) : mget (seenMap l) x = none := by
  unfold mget seenMap
  rw [Option.map_eq_none_iff, List.find?_eq_none]
  intro p hp
  obtain ⟨y, hy, rfl⟩ := List.mem_map.1 hp
  simp only [decide_eq_true_eq]
  rintro rfl
  exact h hy
theorem mset_unseen {l : List (List UInt8)} {x : List UInt8} (h : x ∉ l) : mset (seenMap l) x (.bool true) = seenMap (l ++ [x]) := by
  unfold mset
  rw [mget_unseen h]
  simp [seenMap]

/-! ### rows of rules that are owned -/
def RulesOwn (S : Nat → Prop) (w : World) (v : Value) (rows : List (List PR)) : Prop :=
  ∃ vs : List Value, Row S w 51 1 v rows.length vs ∧ ∀ (i : Nat) (h : i < rows.length), ∃ u, vs[i]? = some u ∧ Rd (fun k => S k ∧ v.ownBlock ≠ some k) w 4 u rows[i].length (flat rows[i])
theorem RulesOwn.rd {S : Nat → Prop} {w : World} {v : Value} {rows : List (List PR)} (h : RulesOwn S w v rows) : RulesRd S w v rows := by
  obtain ⟨vs, h1, h2⟩ := h
  exact ⟨vs, h1.rd, fun i hi => by obtain ⟨u, q1, q2⟩ := h2 i hi; exact ⟨u, q1, q2.mono (fun k hk _ => hk.1)⟩⟩
theorem RulesOwn.same {S : Nat → Prop} {w w' : World} {v : Value} {rows : List (List PR)} (h : RulesOwn S w v rows) (hs : ∀ k, S k → k < w.heap.size → w'.heap[k]? = w.heap[k]?) : RulesOwn S w' v rows := by
  obtain ⟨vs, h1, h2⟩ := h
  refine ⟨vs, h1.same' (fun k hk => hs k (h1.own hk).1 (h1.own hk).2), fun i hi => ?_⟩
  obtain ⟨u, q1, q2⟩ := h2 i hi
  exact ⟨u, q1, q2.same (fun k hk hl => hs k hk.1 hl)⟩
theorem RulesOwn.nil (S : Nat → Prop) (w : World) : RulesOwn S w (.slice none 0 0) [] := ⟨[], Row.nil _ _ _ _, fun i hi => absurd hi (by simp)⟩
theorem RulesOwn.push {S : Nat → Prop} {w w' : World} {v u : Value} {rows : List (List PR)} {r : List PR} {a : Option Addr} {c : Nat} {vs : List Value} (h1 : Row S w 51 1 v rows.length vs) (h2 : ∀ (i : Nat) (h : i < rows.length), ∃ u, vs[i]? = some u ∧ Rd (fun k => S k ∧ v.ownBlock ≠ some k) w 4 u rows[i].length (flat rows[i]))
    (hu : Rd (fun k => S k ∧ v.ownBlock ≠ some k) w 4 u r.length (flat r)) (hS : S w.heap.size)
    (hv : Row (fun k => v.ownBlock = some k ∨ k = w.heap.size) w' 51 1 (.slice a (rows.length + 1) c) (rows.length + 1) (vs ++ [u])) (hf : Frm (fun k => v.ownBlock = some k) w w') : RulesOwn S w' (.slice a (rows.length + 1) c) (rows ++ [r]) := by
  have hlen := h1.len
  have key : ∀ k, k < w.heap.size → (S k ∧ v.ownBlock ≠ some k) → (S k ∧ (Value.slice a (rows.length + 1) c).ownBlock ≠ some k) := by
    intro k hk ⟨h3, h4⟩
    refine ⟨h3, fun e => ?_⟩
    rcases (hv.own e).1 with q | q
    · exact h4 q
    · omega
  refine ⟨vs ++ [u], ?_, fun i hi => ?_⟩
  · have := hv.mono (S' := S) (fun k hk q => by
      rcases q with q | q
      · exact (h1.own q).1
      · rw [q]; exact hS)
    simpa using this
  · rw [List.length_append] at hi
    by_cases hl : i < rows.length
    · obtain ⟨u', q1, q2⟩ := h2 i hl
      refine ⟨u', by rw [List.getElem?_append_left (by rw [hlen]; omega)]; exact q1, ?_⟩
      rw [List.getElem_append_left hl]
      exact ((q2.mono (S' := fun k => (S k ∧ v.ownBlock ≠ some k) ∧ k < w.heap.size) (fun k hk hl => ⟨hk, hl⟩)).frm hf (fun k hk => hk.1.2)).mono (fun k hk _ => key k hk.2 hk.1)
    · have e : i = rows.length := by simp at hi; omega
      subst e
      refine ⟨u, by rw [List.getElem?_append_right (by rw [hlen]; omega), hlen]; simp, ?_⟩
      rw [List.getElem_append_right (Nat.le_refl _)]
      simp only [Nat.sub_self, List.getElem_cons_zero]
      exact ((hu.mono (S' := fun k => (S k ∧ v.ownBlock ≠ some k) ∧ k < w.heap.size) (fun k hk hl => ⟨hk, hl⟩)).frm hf (fun k hk => hk.1.2)).mono (fun k hk _ => key k hk.2 hk.1)

/-! ### the reader -/
def rdrCells (s : St) (v : Value) (mb : Nat) : List Value := confCells s.ns s.T v ++ [.map (some mb)]
/-- what reading a line may touch -/
def Tch (B rb mb : Nat) (k : Nat) : Prop := B ≤ k ∨ k = rb ∨ k = mb
structure Rdr (B rb mb : Nat) (s : St) (w : World) : Prop where
  at_ : rb < B ∧ mb < B ∧ rb ≠ mb ∧ s.ns.length = 12
  own : ∃ v, w.heap[rb]? = some (.cells (rdrCells s v mb).toArray 67 (0, 0)) ∧ RulesOwn (fun k => B ≤ k ∧ k ≠ rb ∧ k ≠ mb) w v s.rows
  mp : MapAt mkStr w mb (seenMap s.seen)
theorem Rdr.same {B rb mb : Nat} {s : St} {w w' : World} (h : Rdr B rb mb s w) (hs : ∀ k, Tch B rb mb k → k < w.heap.size → w'.heap[k]? = w.heap[k]?) : Rdr B rb mb s w' := by
  obtain ⟨v, hb, ho⟩ := h.own
  refine ⟨h.at_, ⟨v, (hs rb (.inr (.inl rfl)) (lt_of_heap hb)).trans hb, ho.same (fun k hk hl => hs k (.inl hk.1) hl)⟩, h.mp.same (hs mb (.inr (.inr rfl)) h.mp.lt)⟩
theorem Rdr.frm0 {B rb mb : Nat} {s : St} {w w' : World} (h : Rdr B rb mb s w) (hf : Frm None' w w') : Rdr B rb mb s w' := h.same (fun k _ hl => hf.block k hl (fun q => q))

/-! ### any rule -/
set_option maxRecDepth 20000 in
theorem rule_any {B : Nat} {w : World} {S : Nat → Prop} {v : Value} {r : PR} (hE : EnvB B w) (hr : ruleOk2 r) (hR : RdW S w v (ruleWords r)) :
    Calls Tryz.prog 65 #[v] w fun e w' => e = .returned (.tuple #[.agg r.cells.toArray, .bool true]) ∧ Frm None' w w' := by
  obtain ⟨k, a, key, val⟩ := r
  obtain ⟨h, h5⟩ := hr
  unfold ruleOk at h
  unfold ruleWords at hR
  simp only at h h5 hR
  by_cases h1 : k = 1
  · subst h1
    simp at h
    obtain ⟨⟨ha, rfl⟩, rfl⟩ := h
    rw [if_pos rfl] at hR
    exact rule_slow hE ha hR
  by_cases h2 : k = 2
  · subst h2
    simp at h
    obtain ⟨⟨rfl, rfl⟩, rfl⟩ := h
    rw [if_neg h1, if_pos rfl] at hR
    exact rule_bad hR
  by_cases h3 : k = 3
  · subst h3
    simp at h
    obtain ⟨⟨rfl, hk⟩, hl⟩ := h
    rw [if_neg h1, if_neg h2, if_pos rfl] at hR
    exact rule_has hk hl hR
  by_cases h4 : k = 4
  · subst h4
    simp at h
    obtain ⟨⟨ha, rfl⟩, rfl⟩ := h
    rw [if_neg h1, if_neg h2, if_neg h3, if_pos rfl] at hR
    exact rule_many hE ha hR
  · rw [if_neg h1, if_neg h2, if_neg h3, if_neg h4] at hR
    rw [if_neg (by omega), if_neg h2, if_neg h3] at h
    simp at h
    obtain ⟨⟨⟨rfl, ha⟩, rfl⟩, rfl⟩ := h
    obtain ⟨b, hb, rfl⟩ := h5 rfl
    obtain ⟨g1, g2, g3, g4, g5, g6⟩ := hex_facts ⟨b, hb⟩
    exact rule_share g4 g2 g6 g1 ha hR
theorem words_noAnd {r : PR} (hr : ruleOk2 r) : ∀ x ∈ ruleWords r, x ≠ [38] := by
  obtain ⟨k, a, key, val⟩ := r
  obtain ⟨h, h5⟩ := hr
  unfold ruleOk at h
  simp only at h h5
  unfold ruleWords
  have hw : ∀ l, isWord l = true → l ≠ [38] := by
    intro l hl
    simp only [isWord, Bool.and_eq_true, bne_iff_ne] at hl
    exact hl.1.1.2
  by_cases h1 : k = 1
  · subst h1
    simp at h
    have := (dec_facts ⟨a, h.1.1⟩).2.2.2.2
    intro x hx
    simp at hx
    rcases hx with rfl | rfl
    · decide
    · exact this
  by_cases h2 : k = 2
  · subst h2
    intro x hx
    simp at hx
    subst hx; decide
  by_cases h3 : k = 3
  · subst h3
    simp at h
    intro x hx
    simp at hx
    rcases hx with rfl | rfl | rfl
    · decide
    · exact hw _ h.1.2
    · exact hw _ h.2
  by_cases h4 : k = 4
  · subst h4
    simp at h
    have := (dec_facts ⟨a, h.1.1⟩).2.2.2.2
    intro x hx
    simp at hx
    rcases hx with rfl | rfl
    · decide
    · exact this
  · rw [if_neg (by omega), if_neg h2, if_neg h3] at h
    simp at h
    obtain ⟨⟨⟨rfl, ha⟩, rfl⟩, rfl⟩ := h
    obtain ⟨b, hb, rfl⟩ := h5 rfl
    have := (hex_facts ⟨b, hb⟩).2.2.2.2.1
    intro x hx
    simp at hx
    rcases hx with rfl | rfl
    · decide
    · exact this
theorem idx_and {ws rest : List (List UInt8)} (h : ∀ x ∈ ws, x ≠ [38]) : Lib.idxOfS ((ws ++ [38] :: rest).map txt) (txt [38]) = (ws.length : Int) := by
  have := Lib.idxOfS_hit ((ws ++ [38] :: rest).map txt) ((ws ++ [38] :: rest).map txt).length ws.length (txt [38]) (by simp) (Nat.le_refl _) (by simp [List.getD]) (fun j hj => by
    have e : ((ws ++ [38] :: rest).map txt).getD j ByteArray.empty = txt ws[j] := by rw [List.getD, List.getElem?_map, List.getElem?_append_left hj]; simp [hj]
    rw [e]
    exact fun q => h _ (List.getElem_mem hj) (txt_inj.1 q))
  rw [List.take_of_length_le (Nat.le_refl _)] at this
  exact this
theorem idx_none {ws : List (List UInt8)} (h : ∀ x ∈ ws, x ≠ [38]) : Lib.idxOfS (ws.map txt) (txt [38]) = -1 := by
  have := Lib.idxOfS_miss (ws.map txt) (ws.map txt).length (txt [38]) (fun j hj => by
    have hj' : j < ws.length := by simpa using hj
    have e : (ws.map txt).getD j ByteArray.empty = txt ws[j] := by simp [List.getD, hj']
    rw [e]
    exact fun q => h _ (List.getElem_mem hj') (txt_inj.1 q))
  rw [List.take_of_length_le (Nat.le_refl _)] at this
  exact this
theorem Index_any {S : Nat → Prop} {w : World} {v : Value} {ws : List (List UInt8)} (h : RdW S w v ws) (h0 : ws ≠ []) (x : List UInt8) :
    Calls Tryz.prog 64 #[v, .string (txt x)] w fun e w' => e = .returned (.int .i64 (Lib.idxOfS (ws.map txt) (txt x))) ∧ w' = w := by
  have hp : 0 < ws.length := List.length_pos_iff.2 h0
  have hs := h.slice
  obtain ⟨g, o, cap, rfl, _, hlt, hc, hcell⟩ := h.cells (by omega)
  have hbig : ws.length ≤ 9223372036854775807 := by obtain ⟨_, _, e, h1, h2⟩ := hs; injection e with _ _ e3; omega
  have := Tryz.slices_Index_string g o ws.length cap (ws.map txt) (txt x) w (by simp) hbig (fun j hj => by
    have hj' : j < ws.length := by simpa using hj
    have e : (ws.map txt).getD j ByteArray.empty = txt ws[j] := by simp [List.getD, hj']
    rw [e]
    exact hcell j _ (by simp [hj']))
  rw [List.take_of_length_le (by simp)] at this
  exact this
end Go.V
