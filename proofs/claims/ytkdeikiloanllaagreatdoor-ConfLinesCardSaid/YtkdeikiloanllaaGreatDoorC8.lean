/- A line written. -/
import Derived.Test.YtkdeikiloanllaaGreatDoorC7
set_option linter.unusedVariables false
set_option linter.unusedSimpArgs false
namespace Go.V
open Go.RowKit Go.Proofs

/-- words that can be read -/
abbrev RdW (S : Nat → Prop) (w : World) (v : Value) (ws : List (List UInt8)) : Prop := Rd S w 1 v ws.length (ws.map fun x => Value.string (txt x))
theorem Join_any {S : Nat → Prop} {w : World} {v : Value} {ws : List (List UInt8)} (c : UInt8) (h : RdW S w v ws) (h0 : ws ≠ []) (hN : ws.length ≤ 1000000) (hl : (joinc c ws).length ≤ 1000000) :
    Calls Tryz.prog 13 #[v, .string ⟨#[c]⟩] w fun e w' => e = .returned (.string (txt (joinc c ws))) ∧ Frm None' w w' := by
  have hp : 0 < ws.length := List.length_pos_iff.2 h0
  obtain ⟨g, o, cap, rfl, _, hlt, hc, hcell⟩ := h.cells (by omega)
  have e1 : ((ws.map txt).map (·.data.toList)) = ws := by rw [List.map_map]; exact List.map_id ws
  have e2 : (ws.map txt).length = ws.length := by simp
  have := Tryz.strings_Join g o cap (ws.map txt) ⟨#[c]⟩ w (fun j x hx => hcell j _ (by
    rw [List.getElem?_map] at hx ⊢
    obtain ⟨y, hy, rfl⟩ := Option.map_eq_some_iff.1 hx
    rw [hy]; rfl)) hlt (by rw [e2]; omega) (by rw [e2]; exact hc) (by rw [e1]; show (Lib.join ws [c]).length ≤ _; rw [join_joinc]; omega)
  rw [e1, e2] at this
  refine this.mono ?_
  rintro e w' ⟨rfl, hb⟩
  exact ⟨by show Ending.returned (.string (txt (Lib.join ws [c]))) = _; rw [join_joinc], Frm.of_below hb⟩
theorem Kp.frm {b : Nat} {w w' : World} (hb : b ≤ w.heap.size) (h : Frm None' w w') : Kp b w w' :=
  ⟨h.below.mono hb, fun k o ho _ _ => h.heap ho (fun q => q)⟩
theorem Wr.kept {b : Nat} {l : List UInt8} {w w' : World} (h : Wr b l w) (hf : Frm None' w w') : Wr b l w' := by
  have key : ∀ p, WrAt b p l w → WrAt b p l w' := by
    rintro p ⟨hB, v, hbk, hown, hne⟩
    refine ⟨hB, v, hf.heap hbk (fun q => q), ?_, hne⟩
    obtain ⟨h1, h2⟩ := hown
    refine ⟨h1, ?_⟩
    rcases h2 with h2 | ⟨g, cap, cur, fz, e1, e2, e3, r⟩
    · exact .inl h2
    · exact .inr ⟨g, cap, cur, fz, e1, e2, hf.heap e3 (fun q => q), r⟩
  exact h.elim (fun x => .inl (key _ x)) (fun x => .inr (key _ x))
set_option maxHeartbeats 2000000 in
theorem line_any {S : Nat → Prop} {b : Nat} {l : List UInt8} {w : World} {v : Value} {ws : List (List UInt8)} (h : Wr b l w) (hw : RdW S w v ws) (h0 : ws ≠ []) (hN : ws.length ≤ 1000) (hl : l.length + (joinc 32 ws).length + 1 ≤ 1000000) :
    Calls Tryz.prog 11 #[.pointer (some ⟨b, 0, none⟩), v] w fun e w' => e = .returned (.tuple #[]) ∧ Wr b (l ++ (joinc 32 ws ++ [10])) w' ∧ Kp b w w' := by
  have hbw : b < w.heap.size := h.elim (·.lt) (·.lt)
  have HJ := fun (W : World) (f : Frm None' w W) => hid (Join_any 32 (hw.frm f (fun _ _ q => q)) h0 (by omega) (by omega))
  have HW := fun (W : World) (f : Frm None' w W) => hid (WriteString_b (s := joinc 32 ws) (h.kept f) (by omega))
  have HB : ∀ (W : World), WrAt b (.pointer (some ⟨b, 0, none⟩)) (l ++ joinc 32 ws) W → Hid (Calls Tryz.prog 39 #[.pointer (some ⟨b, 0, none⟩), .int .u8 10] W fun e w' => e = .returned .nilIface ∧ WrAt b (.pointer (some ⟨b, 0, none⟩)) (l ++ joinc 32 ws ++ [10]) w' ∧ Kp b W w') :=
    fun W x => hid (WriteByte_b (c := 10) (.inr x) (by rw [List.length_append]; omega))
  obtain ⟨a, c, rfl, _⟩ := hw.slice
  have mixed : Tryz.prog.follows .mixedOrders = true := by kernel_rfl
  have hd := (Frm.refl None' w).drew
  clear hw h
  go_enter Tryz.func11, Tryz.ntmps11
  go_wp2
  go_region_with (first
    | (go_at_call 13; with_reducible refine (HJ _ hd).out.mono ?_; rintro e w1 ⟨rfl, f1⟩; have HW1 := HW _ (hd.trans f1 (fun _ _ q => q)); have F1 := hid f1; clear f1 HJ HW)
    | (go_at_call 38; with_reducible refine HW1.out.mono ?_; rintro e w2 ⟨rfl, x2, k2⟩; have HB2 := HB _ x2; have K2 := hid k2; clear x2 k2 HB))
  have hF1 := Kp.frm (b := b) (Nat.le_of_lt hbw) (((Frm.refl None' w).drew).trans F1.out (fun _ _ q => q))
  have HF1 := hid hF1
  clear hF1 hd
  go_wp2_with (first | (go_at_call 39; with_reducible refine HB2.out.mono ?_; rintro e w3 ⟨rfl, x3, k3⟩))
  have X := hid (And.intro x3 k3)
  clear x3 k3
  go_end0
  exact ⟨rfl, by rw [← List.append_assoc]; exact .inr X.out.1, HF1.out.trans (K2.out.trans X.out.2)⟩
/-- the words of a row of rules -/
def rowWords : List PR → List (List UInt8)
  | [] => []
  | [r] => ruleWords r
  | r :: r' :: l => ruleWords r ++ [38] :: rowWords (r' :: l)
/-- a row's line -/
def rowLine (row : List PR) : List UInt8 := joinc 32 ([114, 117, 108, 101] :: rowWords row)
def setLine (ns : List Nat) (i : Nat) : List UInt8 := joinc 32 [setNm.getD i [], dec (ns.getD i 0)]
def thrLine (T : Nat) : List UInt8 := joinc 32 [[116, 104, 114, 101, 115, 104, 111, 108, 100], digitsT T]
/-- the lines of a configuration -/
def confLines (ns : List Nat) (T : Nat) (rows : List (List PR)) : List (List UInt8) :=
  (List.range 3).map (setLine ns) ++ thrLine T :: rows.map rowLine ++ (List.range 9).map (fun i => setLine ns (i + 3))
end Go.V
