/- The law's known example. -/
import Derived.Test.YtkdeikiloanllaaGreatDoorDD
import Derived.Test.YtkdeikiloanllaaGreatDoorDE
import Derived.Laws.StructEq
set_option linter.unusedVariables false
set_option linter.unusedSimpArgs false
namespace Go.V
open Go.RowKit Go.Proofs
attribute [local go_sem ↓] Go.wp_at_zero Go.wp_at_succ

theorem RdB_nil (w : World) : RdB (fun _ => True) w (.slice none 0 0) [] := Rd.nil _ _ _
def exConf (a : Option Addr) (n c : Nat) : Array Value := #[.int .i64 1, .int .i64 1, .int .i64 1, .int .u64 0, .slice a n c, .int .i64 1, .int .i64 1, .int .i64 1, .int .i64 0, .int .i64 1, .int .i64 1, .int .i64 1, .int .i64 1, .int .i64 1]
theorem exConf_eq (a : Option Addr) (n c : Nat) : (confCells (nsOf []) (top (dAt [] 3)) (.slice a n c)).toArray = #[.int .i64 1, .int .i64 1, .int .i64 1, .int .u64 0, .slice a n c, .int .i64 1, .int .i64 1, .int .i64 1, .int .i64 0, .int .i64 1, .int .i64 1, .int .i64 1, .int .i64 1, .int .i64 1] := rfl
def NilOut (w : World) (e : Ending) (w' : World) : Prop := ∃ a c, e = .returned (.agg #[.int .i64 1, .int .i64 1, .int .i64 1, .int .u64 0, .slice a 0 c, .int .i64 1, .int .i64 1, .int .i64 1, .int .i64 0, .int .i64 1, .int .i64 1, .int .i64 1, .int .i64 1, .int .i64 1]) ∧ RulesRd (fun _ => True) w' (.slice a 0 c) [] ∧ Frm None' w w'
theorem Conf_nil {w : World} : Calls Tryz.prog 5 #[.slice none 0 0, .slice none 0 0] w (NilOut w) := by
  refine (Conf_any (RdB_nil w) (RdB_nil w)).mono ?_
  rintro e w' ⟨v, rfl, hr, hf⟩
  have hr' : RulesRd (fun k => w.heap.size ≤ k) w' v [] := hr
  obtain ⟨a, c, rfl, _⟩ := hr'.slice
  exact ⟨a, c, by show Ending.returned (.agg _) = _; rw [List.length_nil, exConf_eq], hr'.any, hf⟩
theorem Print_nil {B : Nat} {w : World} {S : Nat → Prop} {a : Option Addr} {c : Nat} (hE : EnvB B w) (hR : RulesRd S w (.slice a 0 c) []) :
    Calls Tryz.prog 4 #[.agg #[.int .i64 1, .int .i64 1, .int .i64 1, .int .u64 0, .slice a 0 c, .int .i64 1, .int .i64 1, .int .i64 1, .int .i64 0, .int .i64 1, .int .i64 1, .int .i64 1, .int .i64 1, .int .i64 1]] w fun e w' => e = .returned (.tuple #[.string (txt (cfgText [] [])), .int .u16 0]) ∧ Frm None' w w' := by
  have h := Print_any (ns := nsOf []) (T := top (dAt [] 3)) hE hR (confOk_of [] []) (fun i hi => by have := nsOf_lt [] i hi; omega) (by have := cfgText_len [] []; rw [← cfgText_pre] at this; exact Nat.le_trans this (by omega))
  rw [exConf_eq, show pre (nsOf []) (top (dAt [] 3)) [] 12 = pre (nsOf []) (top (dAt [] 3)) (rowsOf []) 12 from rfl, cfgText_pre] at h
  exact h
theorem Right_ex {w : World} {S : Nat → Prop} {a : Option Addr} {c : Nat} (hR : RulesRd S w (.slice a 0 c) []) :
    Calls Tryz.prog 8 #[.agg #[.int .i64 1, .int .i64 1, .int .i64 1, .int .u64 0, .slice a 0 c, .int .i64 1, .int .i64 1, .int .i64 1, .int .i64 0, .int .i64 1, .int .i64 1, .int .i64 1, .int .i64 1, .int .i64 1]] w fun e w' => e = .returned (.bool true) ∧ Frm None' w w' := by
  have h := Right_any (ns := nsOf []) (T := top (dAt [] 3)) hR (confOk_of [] [])
  rw [exConf_eq] at h
  exact h
/-- the example's one row, as the law looks at it -/
structure ExRow (w : World) (g o g2 o2 c2 : Nat) : Prop where
  row : w.cell? ⟨g, o, none⟩ = some (.slice (some ⟨g2, o2, none⟩) 2 c2)
  a0 : w.cell? ⟨g2, o2, none⟩ = some (.int .u8 1)
  a1 : w.cell? ⟨g2, o2 + 1, none⟩ = some (.int .i64 5)
  a2 : w.cell? ⟨g2, o2 + 2, none⟩ = some (.string ⟨#[]⟩)
  a3 : w.cell? ⟨g2, o2 + 3, none⟩ = some (.string ⟨#[]⟩)
  b0 : w.cell? ⟨g2, o2 + 4, none⟩ = some (.int .u8 2)
  b1 : w.cell? ⟨g2, o2 + 4 + 1, none⟩ = some (.int .i64 0)
  b2 : w.cell? ⟨g2, o2 + 4 + 2, none⟩ = some (.string ⟨#[]⟩)
  b3 : w.cell? ⟨g2, o2 + 4 + 3, none⟩ = some (.string ⟨#[]⟩)
  lt : g < w.heap.size ∧ g2 < w.heap.size
theorem ExRow.frm0 {w w' : World} {g o g2 o2 c2 : Nat} (h : ExRow w g o g2 o2 c2) (f : Frm None' w w') : ExRow w' g o g2 o2 c2 := by
  obtain ⟨p1, _⟩ := f.at_ h.lt.1
  obtain ⟨p2, _⟩ := f.at_ h.lt.2
  exact ⟨(p1 _).trans h.row, (p2 _).trans h.a0, (p2 _).trans h.a1, (p2 _).trans h.a2, (p2 _).trans h.a3, (p2 _).trans h.b0, (p2 _).trans h.b1, (p2 _).trans h.b2, (p2 _).trans h.b3, ⟨Nat.lt_of_lt_of_le h.lt.1 f.size, Nat.lt_of_lt_of_le h.lt.2 f.size⟩⟩
def ExOut2 (w : World) (e : Ending) (w' : World) : Prop := ∃ g o c g2 o2 c2, e = .returned (.tuple #[.agg #[.int .i64 1, .int .i64 1, .int .i64 1, .int .u64 0, .slice (some ⟨g, o, none⟩) 1 c, .int .i64 1, .int .i64 1, .int .i64 1, .int .i64 0, .int .i64 1, .int .i64 1, .int .i64 1, .int .i64 1, .int .i64 1], .int .u16 0, .int .i64 0]) ∧ ExRow w' g o g2 o2 c2 ∧ Frm None' w w'
theorem Parse_ex2 {B0 : Nat} {w : World} {s : ByteArray} (hE : EnvB B0 w) (hs : s = txt (cfgText [] [])) : Calls Tryz.prog 7 #[.string (s ++ ⟨#[114, 117, 108, 101, 32, 115, 108, 111, 119, 32, 53, 32, 38, 32, 98, 97, 100, 10]⟩)] w (ExOut2 w) := by
  have e : s ++ ⟨#[114, 117, 108, 101, 32, 115, 108, 111, 119, 32, 53, 32, 38, 32, 98, 97, 100, 10]⟩ = txt (cfgText [] [] ++ (exText ++ [10])) := by rw [hs]; exact txt_append _ (exText ++ [10])
  rw [e]
  refine (Parse_ex hE).mono ?_
  rintro e w' ⟨v, rfl, hr, hf⟩
  obtain ⟨g, o, c, a', c', rfl, hc, hrd⟩ := hr.at_ 0 (by simp)
  obtain ⟨g2, o2, c2, e2, _, hlt, _, hc2⟩ := hrd.cells (by simp [exRow])
  injection e2 with e2 e3 e4
  subst e2
  have hlt1 : g < w'.heap.size := by
    by_cases hg : g < w'.heap.size
    · exact hg
    · exact absurd (Array.getElem?_eq_none (Nat.not_lt.1 hg)) (by intro q; simp [World.cell?, q] at hc)
  exact ⟨g, o, c, g2, o2, c', by rw [List.length_singleton, exConf_eq], ⟨hc, hc2 0 _ rfl, hc2 1 _ rfl, hc2 2 _ rfl, hc2 3 _ rfl, hc2 4 _ rfl, hc2 5 _ rfl, hc2 6 _ rfl, hc2 7 _ rfl, hlt1, hlt⟩, hf⟩
end Go.V
