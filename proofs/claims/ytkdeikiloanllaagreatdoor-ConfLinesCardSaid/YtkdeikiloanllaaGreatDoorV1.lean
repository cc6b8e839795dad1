/- My own words on worlds: what a call may have touched, blocks of cells, maps with keys that are compared by value. No program in sight. -/
import Derived.WalkKit
import Derived.KernelRfl
import Derived.Deep.AppendSrc
import Derived.Deep.Draws
set_option linter.unusedVariables false
set_option linter.unusedSimpArgs false
set_option linter.unusedSectionVars false
namespace Go.V
open Go.RowKit

/-- a fact that the walk must not see -/
structure Hid (p : Prop) : Prop where
  out : p
theorem hid {p : Prop} (h : p) : Hid p := ⟨h⟩
/-! ### what a call may have touched -/
/-- what a call may have touched: blocks of S, and new ones -/
structure Frm (S : Nat → Prop) (w w' : World) : Prop where
  os : w'.os = w.os
  tape : w'.tape = w.tape
  output : w'.output = w.output
  size : w.heap.size ≤ w'.heap.size
  block : ∀ k, k < w.heap.size → ¬ S k → w'.heap[k]? = w.heap[k]?
def None' : Nat → Prop := fun _ => False
theorem Frm.refl (S : Nat → Prop) (w : World) : Frm S w w := ⟨rfl, rfl, rfl, Nat.le_refl _, fun _ _ _ => rfl⟩
theorem Frm.trans {S S' : Nat → Prop} {a b c : World} (h : Frm S a b) (k : Frm S' b c) (hs : ∀ i, i < a.heap.size → S' i → S i) : Frm S a c :=
  ⟨k.os.trans h.os, k.tape.trans h.tape, k.output.trans h.output, Nat.le_trans h.size k.size, fun i hi hn =>
    (k.block i (Nat.lt_of_lt_of_le hi h.size) (fun q => hn (hs i hi q))).trans (h.block i hi hn)⟩
theorem Frm.mono {S S' : Nat → Prop} {a b : World} (h : Frm S a b) (hs : ∀ i, i < a.heap.size → S i → S' i) : Frm S' a b :=
  ⟨h.os, h.tape, h.output, h.size, fun i hi hn => h.block i hi (fun q => hn (hs i hi q))⟩
theorem Frm.of_below {S : Nat → Prop} {w w' : World} (h : Below w.heap.size w w') : Frm S w w' := ⟨h.os, h.tape, h.output, h.size, fun k hk _ => h.block k hk⟩
theorem Frm.below {w w' : World} (h : Frm None' w w') : Below w.heap.size w w' := ⟨h.os, h.tape, h.output, h.size, fun k hk => h.block k hk (fun q => q)⟩
theorem Frm.drew {S : Nat → Prop} {a w : World} (h : Frm S a w) : Frm S a w.drew := ⟨h.os, h.tape, h.output, h.size, h.block⟩
theorem Frm.drewN {S : Nat → Prop} {a w : World} (h : Frm S a w) (n : Nat) : Frm S a (w.drewN n) := ⟨h.os, h.tape, h.output, h.size, h.block⟩
theorem Frm.alloc {S : Nat → Prop} {a w : World} (h : Frm S a w) (o : Obj) : Frm S a (w.alloc o) :=
  h.trans (S' := None') (Frm.of_below ((Below.refl _ _).alloc (Nat.le_refl _) o)) (fun _ _ q => q.elim)
theorem heap_alloc (w : World) (o : Obj) (k : Nat) : (w.alloc o).heap[k]? = if k = w.heap.size then some o else w.heap[k]? := by
  show (w.heap.push o)[k]? = _
  rw [Array.getElem?_push]
theorem heap_setCell_ne {w : World} {k : Nat} {a : Addr} {v : Value} (h : k ≠ a.block) : (w.setCell a v).heap[k]? = w.heap[k]? := by
  simp only [World.setCell, Array.getElem?_modify]
  rw [if_neg (fun e => h e.symm)]
theorem heap_setCell_at {w : World} {b : Nat} {cs : Array Value} {T : TypeId} {f : Nat × Nat} (h : w.heap[b]? = some (.cells cs T f)) (i : Nat) (v : Value) : (w.setCell ⟨b, i, none⟩ v).heap[b]? = some (.cells (cs.setIfInBounds i v) T f) := by
  simp only [World.setCell, Array.getElem?_modify, if_true, h, Option.map_some]
  rfl
theorem Frm.setCell {S : Nat → Prop} {a w : World} (h : Frm S a w) (p : Addr) (v : Value) (hp : p.block < a.heap.size → S p.block) : Frm S a (w.setCell p v) :=
  h.trans (S' := fun k => k = p.block) ⟨rfl, rfl, rfl, by simp, fun k hk hn => heap_setCell_ne hn⟩ (fun i hi e => by subst e; exact hp hi)
theorem Frm.grown {S : Nat → Prop} {a w w' : World} {row : Option Nat} (h : Frm S a w) (hg : w.grownBy w' row) (hr : ∀ k, row = some k → k < a.heap.size → S k) : Frm S a w' :=
  h.trans (S' := fun k => some k = row) ⟨hg.os, hg.tape, hg.output, hg.size, fun k hk hn => hg.block k hk hn⟩ (fun i hi e => hr i e.symm hi)
theorem Frm.heap {S : Nat → Prop} {w w' : World} (h : Frm S w w') {k : Nat} {o : Obj} (ho : w.heap[k]? = some o) (hn : ¬ S k) : w'.heap[k]? = some o :=
  (h.block k (Array.getElem?_eq_some_iff.1 ho).1 hn).trans ho
theorem lt_of_heap {w : World} {k : Nat} {o : Obj} (ho : w.heap[k]? = some o) : k < w.heap.size := (Array.getElem?_eq_some_iff.1 ho).1

/-! ### a block of cells that is known whole -/
theorem cell_of {w : World} {b : Nat} {cs : Array Value} {T : TypeId} {f : Nat × Nat} (h : w.heap[b]? = some (.cells cs T f)) (i : Nat) : w.cell? ⟨b, i, none⟩ = cs[i]? := by
  simp [World.cell?, h]
theorem free_of {w : World} {b : Nat} {cs : Array Value} {T : TypeId} (h : w.heap[b]? = some (.cells cs T (0, 0))) (i : Nat) : w.frozen? ⟨b, i, none⟩ = false := by
  simp [World.frozen?, h]
theorem heap_alloc_ne {w : World} {k : Nat} {o : Obj} (h : k ≠ w.heap.size) : (w.alloc o).heap[k]? = w.heap[k]? := by rw [heap_alloc, if_neg h]
theorem heap_alloc_lt {w : World} {k : Nat} {o : Obj} (h : k < w.heap.size) : (w.alloc o).heap[k]? = w.heap[k]? := heap_alloc_ne (by omega)
theorem heap_alloc_at {w : World} {o : Obj} : (w.alloc o).heap[w.heap.size]? = some o := by rw [heap_alloc, if_pos rfl]

/-! ### maps -/
def mp (w : World) (b : Nat) : Option (Array MapEntry × Nat) :=
  match w.heap[b]? with
  | some (.map es c) => some (es, c)
  | _ => none
theorem mp_some {w : World} {b : Nat} {es : Array MapEntry} {c : Nat} : mp w b = some (es, c) ↔ w.heap[b]? = some (.map es c) := by
  unfold mp
  constructor
  · intro h; split at h
    · rename_i es' c' hh; cases h; exact hh
    · cases h
  · intro h; rw [h]
theorem mp_lt {w : World} {b : Nat} {x : Array MapEntry × Nat} (h : mp w b = some x) : b < w.heap.size := by
  obtain ⟨es, c⟩ := x
  exact lt_of_heap (mp_some.1 h)

/-- how keys of a Lean type lie in a map -/
structure MKey (K : Type) where
  enc : K → Value
  inj : ∀ a b, enc a = enc b → a = b
  same : ∀ k, Instr.sameBits 10000 (enc k) (enc k) = true
def mkInt : MKey Int := ⟨fun x => .int .i64 x, fun a b h => by injection h, fun k => by simp [Instr.sameBits]⟩
def Keys {K : Type} (m : MKey K) (es : List MapEntry) : Prop := ∀ e ∈ es, ∃ y, e.key = m.enc y
/-- 'the model's search answers as the Lean search does' -/
structure Finds {K : Type} [DecidableEq K] (P : Program) (k : TypeId) (m : MKey K) : Prop where
  check : ∀ (em : Bool) (x : K) (w : World), (Instr.checkKey em 10000 k (m.enc x)).run P w = .ok () w
  find : ∀ (x : K) (es : List (K × Value)) (w : World) (l : List MapEntry), l.map (fun e => (e.key, e.val)) = es.map (fun p => (m.enc p.1, p.2)) →
    (Instr.findKey k (m.enc x) l).run P w = .ok ((es.findIdx? (fun p => p.1 = x)).bind fun i => (es[i]?).map fun p => (i, p.2)) w

theorem findNow_int (x : Int) : ∀ (es : List (Int × Value)) (l : List MapEntry) (i : Nat), l.map (fun e => (e.key, e.val)) = es.map (fun p => (Value.int .i64 p.1, p.2)) →
    Instr.findNow (.int .i64) (.int .i64 x) l i = some ((es.findIdx? (fun p => p.1 = x)).bind fun j => (es[j]?).map fun p => (i + j, p.2))
  | [], [], i, _ => rfl
  | [], e :: l, i, h => by simp at h
  | p :: es, [], i, h => by simp at h
  | p :: es, e :: l, i, h => by
    simp only [List.map_cons, List.cons.injEq, Prod.mk.injEq] at h
    obtain ⟨⟨h1, h2⟩, h3⟩ := h
    have ih := findNow_int x es l (i + 1) h3
    rw [List.findIdx?_cons]
    by_cases hxy : p.1 = x
    · subst hxy; simp [Instr.findNow, Instr.sameNow, h1, h2]
    · have hb : (x == p.1) = false := by simp; exact fun e => hxy e.symm
      simp only [Instr.findNow, Instr.sameNow, h1, hb, if_true, ih, decide_eq_true_eq, hxy, if_false]
      cases es.findIdx? (fun p => p.1 = x) with
      | none => simp
      | some j => simp; congr; funext p; congr 1; omega

theorem run_checkKey_int' {P : Program} {w : World} {k : TypeId} (hk : P.underlying k = some (.int .i64)) (em : Bool) (x : Int) (n : Nat) : (Instr.checkKey em (n + 1) k (.int .i64 x)).run P w = .ok () w := by
  simp [Instr.checkKey, run_underlying hk]
theorem finds_int {P : Program} {k : TypeId} (hk : P.underlying k = some (.int .i64)) : Finds P k mkInt where
  check em x w := run_checkKey_int' hk em x 9999
  find x es w l h := by
    have := findNow_int x es l 0 h
    simp only [mkInt, Instr.findKey, Sem.run_bind, run_underlying hk, Result.andThen_ok, this, Sem.run_pure, Nat.zero_add]

/-- block b is a map whose entries, in their order, are es -/
structure MapAt {K : Type} (m : MKey K) (w : World) (b : Nat) (es : List (K × Value)) : Prop where
  nodup : (es.map (·.1)).Nodup
  there : ∃ l c, w.heap[b]? = some (.map l c) ∧ l.toList.map (fun e => (e.key, e.val)) = es.map (fun p => (m.enc p.1, p.2)) ∧ (l.toList.map (·.born)).Nodup ∧ ∀ e ∈ l, e.born < c

def mget {K : Type} [DecidableEq K] (es : List (K × Value)) (x : K) : Option Value := (es.find? (fun p => p.1 = x)).map (·.2)
def mset {K : Type} [DecidableEq K] (es : List (K × Value)) (x : K) (v : Value) : List (K × Value) :=
  if (mget es x).isSome then es.map (fun p => if p.1 = x then (x, v) else p) else es ++ [(x, v)]
def mdel {K : Type} [DecidableEq K] (es : List (K × Value)) (x : K) : List (K × Value) := es.filter (fun p => p.1 ≠ x)

section maps
variable {K : Type} [DecidableEq K] {m : MKey K} {P : Program}
theorem MapAt.lt {w : World} {b : Nat} {es : List (K × Value)} (h : MapAt m w b es) : b < w.heap.size := by
  obtain ⟨l, c, hb, _⟩ := h.there; exact lt_of_heap hb
theorem MapAt.same {w w' : World} {b : Nat} {es : List (K × Value)} (h : MapAt m w b es) (hs : w'.heap[b]? = w.heap[b]?) : MapAt m w' b es := by
  obtain ⟨l, c, hb, r⟩ := h.there; exact ⟨h.nodup, l, c, hs.trans hb, r⟩
theorem findIdx_mget (es : List (K × Value)) (x : K) : ((es.findIdx? (fun p => p.1 = x)).bind fun i => (es[i]?).map fun p => (i, p.2)).map (·.2) = mget es x := by
  unfold mget
  induction es with
  | nil => rfl
  | cons p es ih =>
    rw [List.findIdx?_cons, List.find?_cons]
    by_cases h : p.1 = x
    · simp [h]
    · simp only [h, decide_false, Bool.false_eq_true, if_false]
      rw [← ih]
      cases es.findIdx? (fun p => p.1 = x) with
      | none => simp
      | some j => simp; rfl
theorem run_lookup {w : World} {t k e : TypeId} {b : Nat} {es : List (K × Value)} {z : Value} (ht : P.underlying t = some (.map k e)) (hk : Finds P k m)
    (hz : ∀ w, (zeroValue e).run P w = .ok z w) (h : MapAt m w b es) (x : K) (ok : Bool) :
    (Instr.lookup t (.map (some b)) (m.enc x) ok).run P w = .ok (if ok then .tuple #[(mget es x).getD z, .bool (mget es x).isSome] else (mget es x).getD z) w := by
  obtain ⟨l, c, hb, hl, _⟩ := h.there
  have hg : (getObj b).run P w = .ok (.map l c) w := by simp [getObj, Sem.run, hb]
  simp only [Instr.lookup, Sem.run_bind, run_underlying ht, Result.andThen_ok, hg, Sem.run_pure, hk.check, hk.find x es w _ hl]
  rw [← findIdx_mget es x]
  cases ((es.findIdx? (fun p => p.1 = x)).bind fun i => (es[i]?).map fun p => (i, p.2)) with
  | none => cases ok <;> simp [hz]
  | some q => cases ok <;> simp
theorem run_lookup_nil {w : World} {t k e : TypeId} {z : Value} (ht : P.underlying t = some (.map k e)) (hk : Finds P k m)
    (hz : ∀ w, (zeroValue e).run P w = .ok z w) (x : K) (ok : Bool) :
    (Instr.lookup t (.map none) (m.enc x) ok).run P w = .ok (if ok then .tuple #[z, .bool false] else z) w := by
  have := hk.find x [] w [] rfl
  simp only [Instr.lookup, Sem.run_bind, run_underlying ht, Result.andThen_ok, Sem.run_pure, hk.check, this]
  cases ok <;> simp [hz]

/-! m[x] = v and delete(m, x), as worlds -/
open Classical in
noncomputable def mput (m : MKey K) (w : World) (b : Nat) (x : K) (v : Value) : World :=
  match w.heap[b]? with
  | some (.map l c) =>
    match l.findIdx? (fun e => decide (e.key = m.enc x)) with
    | some i => { w with heap := w.heap.setIfInBounds b (.map (l.modify i fun e => { e with key := m.enc x, val := v }) c) }
    | none => { w with heap := w.heap.setIfInBounds b (.map (l.push { key := m.enc x, val := v, born := c }) (c + 1)) }
  | _ => w
open Classical in
noncomputable def mdrop (m : MKey K) (w : World) (b : Nat) (x : K) : World :=
  match w.heap[b]? with
  | some (.map l c) =>
    match l.findIdx? (fun e => decide (e.key = m.enc x)) with
    | some i => { w with heap := w.heap.setIfInBounds b (.map (l.eraseIdxIfInBounds i) c) }
    | none => { w with heap := w.heap.setIfInBounds b (.map l c) }
  | _ => w
/-- a map's block put anew -/
theorem shown_putMap {w : World} {b : Nat} {l l' : Array MapEntry} {c c' : Nat} (h : w.heap[b]? = some (.map l c)) (a : Addr) :
    ({ w with heap := w.heap.setIfInBounds b (.map l' c') } : World).cell? a = w.cell? a ∧ ({ w with heap := w.heap.setIfInBounds b (.map l' c') } : World).frozen? a = w.frozen? a := by
  have hb := lt_of_heap h
  by_cases e : a.block = b
  · have h2 : (w.heap.setIfInBounds b (.map l' c'))[b]? = some (.map l' c') := by simp [Array.getElem?_setIfInBounds, hb]
    constructor
    · simp only [World.cell?, e, h2, h]
    · simp only [World.frozen?, e, h2, h]
  · have e' : ¬ b = a.block := fun q => e q.symm
    simp [World.cell?, World.frozen?, Array.getElem?_setIfInBounds, e']
@[go_sem] theorem cell?_mput (m : MKey K) (w : World) (b : Nat) (x : K) (v : Value) (a : Addr) : (mput m w b x v).cell? a = w.cell? a := by
  unfold mput
  split
  · rename_i l c h
    split
    · exact (shown_putMap h a).1
    · exact (shown_putMap h a).1
  · rfl
@[go_sem] theorem frozen?_mput (m : MKey K) (w : World) (b : Nat) (x : K) (v : Value) (a : Addr) : (mput m w b x v).frozen? a = w.frozen? a := by
  unfold mput
  split
  · rename_i l c h
    split
    · exact (shown_putMap h a).2
    · exact (shown_putMap h a).2
  · rfl
@[go_sem] theorem cell?_mdrop (m : MKey K) (w : World) (b : Nat) (x : K) (a : Addr) : (mdrop m w b x).cell? a = w.cell? a := by
  unfold mdrop
  split
  · rename_i l c h
    split
    · exact (shown_putMap h a).1
    · exact (shown_putMap h a).1
  · rfl
@[go_sem] theorem frozen?_mdrop (m : MKey K) (w : World) (b : Nat) (x : K) (a : Addr) : (mdrop m w b x).frozen? a = w.frozen? a := by
  unfold mdrop
  split
  · rename_i l c h
    split
    · exact (shown_putMap h a).2
    · exact (shown_putMap h a).2
  · rfl
@[go_sem] theorem size_mput (m : MKey K) (w : World) (b : Nat) (x : K) (v : Value) : (mput m w b x v).heap.size = w.heap.size := by
  unfold mput
  split
  · split <;> simp
  · rfl
@[go_sem] theorem size_mdrop (m : MKey K) (w : World) (b : Nat) (x : K) : (mdrop m w b x).heap.size = w.heap.size := by
  unfold mdrop
  split
  · split <;> simp
  · rfl
theorem heap_mput_ne (m : MKey K) (w : World) (b : Nat) (x : K) (v : Value) {k : Nat} (h : k ≠ b) : (mput m w b x v).heap[k]? = w.heap[k]? := by
  have h' : ¬ b = k := fun e => h e.symm
  unfold mput
  split
  · split <;> simp [Array.getElem?_setIfInBounds, h']
  · rfl
theorem heap_mdrop_ne (m : MKey K) (w : World) (b : Nat) (x : K) {k : Nat} (h : k ≠ b) : (mdrop m w b x).heap[k]? = w.heap[k]? := by
  have h' : ¬ b = k := fun e => h e.symm
  unfold mdrop
  split
  · split <;> simp [Array.getElem?_setIfInBounds, h']
  · rfl
theorem rest_mput (m : MKey K) (w : World) (b : Nat) (x : K) (v : Value) : (mput m w b x v).os = w.os ∧ (mput m w b x v).tape = w.tape ∧ (mput m w b x v).output = w.output := by
  unfold mput
  split
  · split <;> exact ⟨rfl, rfl, rfl⟩
  · exact ⟨rfl, rfl, rfl⟩
theorem rest_mdrop (m : MKey K) (w : World) (b : Nat) (x : K) : (mdrop m w b x).os = w.os ∧ (mdrop m w b x).tape = w.tape ∧ (mdrop m w b x).output = w.output := by
  unfold mdrop
  split
  · split <;> exact ⟨rfl, rfl, rfl⟩
  · exact ⟨rfl, rfl, rfl⟩
theorem Frm.mput {S : Nat → Prop} {a w : World} (h : Frm S a w) (m : MKey K) (b : Nat) (x : K) (v : Value) (hb : b < a.heap.size → S b) : Frm S a (mput m w b x v) :=
  h.trans (S' := fun k => k = b) ⟨(rest_mput m w b x v).1, (rest_mput m w b x v).2.1, (rest_mput m w b x v).2.2, by rw [size_mput]; exact Nat.le_refl _, fun k hk hn => heap_mput_ne m w b x v hn⟩ (fun i hi e => by subst e; exact hb hi)
theorem Frm.mdrop {S : Nat → Prop} {a w : World} (h : Frm S a w) (m : MKey K) (b : Nat) (x : K) (hb : b < a.heap.size → S b) : Frm S a (mdrop m w b x) :=
  h.trans (S' := fun k => k = b) ⟨(rest_mdrop m w b x).1, (rest_mdrop m w b x).2.1, (rest_mdrop m w b x).2.2, by rw [size_mdrop]; exact Nat.le_refl _, fun k hk hn => heap_mdrop_ne m w b x hn⟩ (fun i hi e => by subst e; exact hb hi)


/-! the laws at the operations -/
theorem findIdx_l (x : K) : ∀ (l : List MapEntry) (es : List (K × Value)), l.map (fun e => (e.key, e.val)) = es.map (fun p => (m.enc p.1, p.2)) →
    (haveI := Classical.propDecidable; l.findIdx? (fun e => decide (e.key = m.enc x))) = es.findIdx? (fun p => decide (p.1 = x))
  | [], [], _ => rfl
  | [], p :: es, h => by simp at h
  | e :: l, [], h => by simp at h
  | e :: l, p :: es, h => by
    simp only [List.map_cons, List.cons.injEq, Prod.mk.injEq] at h
    obtain ⟨⟨h1, h2⟩, h3⟩ := h
    have ih := findIdx_l x l es h3
    rw [List.findIdx?_cons, List.findIdx?_cons, ih]
    by_cases hx : p.1 = x
    · subst hx; simp [h1]
    · have : ¬ m.enc p.1 = m.enc x := fun q => hx (m.inj _ _ q)
      simp [h1, this, hx]
theorem findIdx_arr (x : K) (l : Array MapEntry) (es : List (K × Value)) (h : l.toList.map (fun e => (e.key, e.val)) = es.map (fun p => (m.enc p.1, p.2))) :
    (haveI := Classical.propDecidable; l.findIdx? (fun e => decide (e.key = m.enc x))) = es.findIdx? (fun p => decide (p.1 = x)) := by
  rw [← findIdx_l x l.toList es h]
  cases l
  simp
theorem run_mapUpdate {w : World} {t k e : TypeId} {b : Nat} {es : List (K × Value)} (ht : P.underlying t = some (.map k e)) (hk : Finds P k m) (h : MapAt m w b es) (x : K) (v : Value) :
    (Instr.mapUpdate t (.map (some b)) (m.enc x) v).run P w = .ok () (mput m w b x v) := by
  obtain ⟨l, c, hb, hl, _⟩ := h.there
  have hg : (getObj b).run P w = .ok (.map l c) w := by simp [getObj, Sem.run, hb]
  have hs : ∀ o, (setObj b o).run P w = .ok () { w with heap := w.heap.setIfInBounds b o } := fun o => by simp [setObj, Sem.run, hb]
  simp only [Instr.mapUpdate, Sem.run_bind, run_underlying ht, Result.andThen_ok, hg, hk.check, hk.find x es w _ hl]
  have hf := findIdx_arr x l es hl
  unfold mput
  simp only [hb]
  cases hi : es.findIdx? (fun p => decide (p.1 = x)) with
  | none =>
    rw [hi] at hf
    simp only [Option.bind_none, hf, hs]
  | some i =>
    rw [hi] at hf
    obtain ⟨hlt, hpi, _⟩ := List.findIdx?_eq_some_iff_getElem.1 hi
    have hpx : es[i].1 = x := by simpa using hpi
    have hlen : l.toList.length = es.length := by have := congrArg List.length hl; simpa using this
    have hli : i < l.size := by rw [Array.length_toList] at hlen; omega
    have hkey : l[i].key = m.enc x := by
      have := congrArg (fun q => q[i]?) hl
      simp [hlt, hli] at this
      rw [this.1, hpx]
    simp only [Option.bind_some, List.getElem?_eq_getElem hlt, Option.map_some, hf]
    have e1 : (Option.map (fun x => x.key) l[i]?).getD (m.enc x) = m.enc x := by simp [hli, hkey]
    simp only [e1, Instr.keyThatStays, m.same x, if_true, Sem.run_bind, Sem.run_pure, Result.andThen_ok, hs]
theorem run_delete {w : World} {t k e ty : TypeId} {b : Nat} {es : List (K × Value)} (ht : P.underlying t = some (.map k e)) (hk : Finds P k m) (h : MapAt m w b es) (x : K) (ts : Array TypeId) (hts : ts[0]? = some t) :
    (Builtin.delete_ ts ty #[.map (some b), m.enc x]).run P w = .ok (.tuple #[]) (mdrop m w b x) := by
  obtain ⟨l, c, hb, hl, _⟩ := h.there
  have hg : (getObj b).run P w = .ok (.map l c) w := by simp [getObj, Sem.run, hb]
  have hs : ∀ o, (setObj b o).run P w = .ok () { w with heap := w.heap.setIfInBounds b o } := fun o => by simp [setObj, Sem.run, hb]
  have hf := findIdx_arr x l es hl
  simp only [Builtin.delete_, hts, List.getElem?_toArray, List.getElem?_cons_zero, List.getElem?_cons_succ, Sem.run_bind, run_underlying ht, Result.andThen_ok, hg, hk.check, hk.find x es w _ hl]
  unfold mdrop
  simp only [hb]
  cases hi : es.findIdx? (fun p => decide (p.1 = x)) with
  | none =>
    rw [hi] at hf
    simp only [Option.bind_none, hf, hs, Sem.run_bind, Result.andThen_ok, Sem.run_pure]
  | some i =>
    rw [hi] at hf
    obtain ⟨hlt, hpi, _⟩ := List.findIdx?_eq_some_iff_getElem.1 hi
    simp only [Option.bind_some, List.getElem?_eq_getElem hlt, Option.map_some, hf, hs, Sem.run_bind, Result.andThen_ok, Sem.run_pure]

theorem mget_some_iff {es : List (K × Value)} {x : K} : (mget es x).isSome = (es.findIdx? (fun p => decide (p.1 = x))).isSome := by
  unfold mget
  rw [Option.isSome_map]
  induction es with
  | nil => rfl
  | cons p es ih =>
    rw [List.find?_cons, List.findIdx?_cons]
    by_cases h : p.1 = x
    · simp [h]
    · simp only [h, decide_false, Bool.false_eq_true, if_false, ih, Option.isSome_map]
theorem mset_keys {es : List (K × Value)} {x : K} {v : Value} (hn : (es.map (·.1)).Nodup) : ((mset es x v).map (·.1)).Nodup := by
  unfold mset
  split
  · have e : (es.map (fun p => if p.1 = x then (x, v) else p)).map (·.1) = es.map (·.1) := by
      rw [List.map_map]
      apply List.map_congr_left
      intro p _
      by_cases h : p.1 = x <;> simp [h]
    rw [e]; exact hn
  · rename_i h
    have hx : x ∉ es.map (·.1) := by
      intro hm
      obtain ⟨p, hp, rfl⟩ := List.mem_map.1 hm
      exact h (by rw [mget, Option.isSome_map, List.find?_isSome]; exact ⟨p, hp, by simp⟩)
    rw [List.map_append]
    refine List.nodup_append.2 ⟨hn, by simp, ?_⟩
    intro a ha b hb e
    simp at hb
    subst e hb
    exact hx ha
theorem MapAt.put {w : World} {b : Nat} {es : List (K × Value)} (h : MapAt m w b es) (x : K) (v : Value) : MapAt m (mput m w b x v) b (mset es x v) := by
  refine ⟨mset_keys h.nodup, ?_⟩
  obtain ⟨l, c, hb, hl, hbn, hbc⟩ := h.there
  have hlt := lt_of_heap hb
  have hf := findIdx_arr x l es hl
  have hlen : l.size = es.length := by have := congrArg List.length hl; simpa using this
  unfold mput mset
  rw [mget_some_iff]
  simp only [hb]
  cases hi : es.findIdx? (fun p => decide (p.1 = x)) with
  | none =>
    rw [hi] at hf
    simp only [hf, Option.isSome_none, Bool.false_eq_true, if_false]
    refine ⟨_, _, by simp [Array.getElem?_setIfInBounds, hlt]; exact ⟨rfl, rfl⟩, by simp [hl], ?_, ?_⟩
    · simp only [Array.toList_push, List.map_append, List.map_cons, List.map_nil]
      refine List.nodup_append.2 ⟨hbn, by simp, ?_⟩
      intro a ha a' ha' e
      simp at ha'
      subst e ha'
      obtain ⟨q, hq, hq'⟩ := List.mem_map.1 ha
      have := hbc q (Array.mem_toList_iff.1 hq)
      omega
    · intro e he
      rcases Array.mem_push.1 he with he | he
      · have := hbc e he; omega
      · subst he; exact Nat.lt_succ_self _
  | some i =>
    rw [hi] at hf
    obtain ⟨hil, hpi, _⟩ := List.findIdx?_eq_some_iff_getElem.1 hi
    have hpx : es[i].1 = x := by simpa using hpi
    simp only [hf, Option.isSome_some, if_true]
    refine ⟨_, _, by simp [Array.getElem?_setIfInBounds, hlt]; exact ⟨rfl, rfl⟩, ?_, ?_, ?_⟩
    · apply List.ext_getElem?
      intro j
      have hj : (l.toList.map (fun e => (e.key, e.val)))[j]? = (es.map (fun p => (m.enc p.1, p.2)))[j]? := by rw [hl]
      simp only [List.getElem?_map, Array.getElem?_toList, Array.getElem?_modify] at hj ⊢
      by_cases hji : i = j
      · subst hji
        have h1 : l[i]? = some (l[i]'(by omega)) := Array.getElem?_eq_getElem (by omega)
        simp [h1, hil, hpx]
      · rw [if_neg hji, hj]
        cases hq : es[j]? with
        | none => rfl
        | some p =>
          have hpj : ¬ p.1 = x := by
            intro e
            obtain ⟨hjl, hjp⟩ := List.getElem?_eq_some_iff.1 hq
            apply hji
            have hp := List.pairwise_iff_getElem.1 h.nodup
            rcases Nat.lt_or_gt_of_ne hji with hlt' | hlt'
            · exact absurd (by rw [List.getElem_map, List.getElem_map, hpx, hjp, e]) (hp i j (by simpa using hil) (by simpa using hjl) hlt')
            · exact absurd (by rw [List.getElem_map, List.getElem_map, hpx, hjp, e]) (hp j i (by simpa using hjl) (by simpa using hil) hlt')
          simp [hpj]
    · have e : ((l.modify i fun e => { e with key := m.enc x, val := v }).toList.map (·.born)) = l.toList.map (·.born) := by
        apply List.ext_getElem?
        intro j
        simp only [List.getElem?_map, Array.getElem?_toList, Array.getElem?_modify]
        split <;> cases l[j]? <;> rfl
      rw [e]; exact hbn
    · intro e he
      obtain ⟨j, hj, rfl⟩ := Array.mem_iff_getElem.1 he
      have hj' : j < l.size := by simpa using hj
      rw [Array.getElem_modify]
      have := hbc _ (Array.getElem_mem hj')
      split <;> exact this
theorem MapAt.drop {w : World} {b : Nat} {es : List (K × Value)} (h : MapAt m w b es) (x : K) : MapAt m (mdrop m w b x) b (mdel es x) := by
  have hnd : ((mdel es x).map (·.1)).Nodup := List.Nodup.sublist (List.Sublist.map _ List.filter_sublist) h.nodup
  refine ⟨hnd, ?_⟩
  obtain ⟨l, c, hb, hl, hbn, hbc⟩ := h.there
  have hlt := lt_of_heap hb
  have hf := findIdx_arr x l es hl
  have hlen : l.size = es.length := by have := congrArg List.length hl; simpa using this
  unfold mdrop
  simp only [hb]
  cases hi : es.findIdx? (fun p => decide (p.1 = x)) with
  | none =>
    rw [hi] at hf
    simp only [hf]
    have hd : mdel es x = es := List.filter_eq_self.2 (fun p hp => by have := List.findIdx?_eq_none_iff.1 hi p hp; simpa using this)
    exact ⟨l, c, by simp [Array.getElem?_setIfInBounds, hlt], by rw [hd]; exact hl, hbn, hbc⟩
  | some i =>
    rw [hi] at hf
    obtain ⟨hil, hpi, hpo⟩ := List.findIdx?_eq_some_iff_getElem.1 hi
    have hpx : es[i].1 = x := by simpa using hpi
    have hd : mdel es x = es.eraseIdx i := by
      have hp := List.pairwise_iff_getElem.1 h.nodup
      have e1 : es = es.take i ++ es[i] :: es.drop (i + 1) := by simp
      rw [List.eraseIdx_eq_take_drop_succ]
      conv => lhs; rw [e1]
      unfold mdel
      rw [List.filter_append, List.filter_cons, if_neg (by simp [hpx])]
      congr 1
      · refine List.filter_eq_self.2 (fun p hp' => ?_)
        obtain ⟨j, hj, rfl⟩ := List.mem_iff_getElem.1 hp'
        have hj' : j < i := by have : j < min i es.length := by simpa using hj
                               omega
        have := hpo j hj'
        simpa using this
      · refine List.filter_eq_self.2 (fun p hp' => ?_)
        obtain ⟨j, hj, rfl⟩ := List.mem_iff_getElem.1 hp'
        have hj' : i + 1 + j < es.length := by have : j < es.length - (i + 1) := by simpa using hj
                                               omega
        have := hp i (i + 1 + j) (by simpa using hil) (by simpa using hj') (by omega)
        simp only [List.getElem_map, hpx] at this
        simp only [List.getElem_drop, ne_eq, decide_not, Bool.not_eq_eq_eq_not, Bool.not_true, decide_eq_false_iff_not]
        exact fun e => this e.symm
    simp only [hf]
    refine ⟨_, _, by simp [Array.getElem?_setIfInBounds, hlt]; exact ⟨rfl, rfl⟩, ?_, ?_, ?_⟩
    · have e : (l.eraseIdxIfInBounds i).toList = l.toList.eraseIdx i := by simp [Array.eraseIdxIfInBounds, show i < l.size by omega]
      rw [hd, e]
      apply List.ext_getElem?
      intro j
      have hj := fun j : Nat => congrArg (fun q => q[j]?) hl
      simp only [List.getElem?_map] at hj
      simp only [List.getElem?_map, List.getElem?_eraseIdx]
      split <;> exact hj _
    · have e : (l.eraseIdxIfInBounds i).toList = l.toList.eraseIdx i := by simp [Array.eraseIdxIfInBounds, show i < l.size by omega]
      rw [e]
      exact List.Nodup.sublist (List.Sublist.map _ (List.eraseIdx_sublist _ _)) hbn
    · intro e he
      have e' : (l.eraseIdxIfInBounds i).toList = l.toList.eraseIdx i := by simp [Array.eraseIdxIfInBounds, show i < l.size by omega]
      have he' := Array.mem_toList_iff.2 he
      rw [e'] at he'
      exact hbc e (Array.mem_toList_iff.1 (List.mem_of_mem_eraseIdx he'))
end maps
end Go.V
