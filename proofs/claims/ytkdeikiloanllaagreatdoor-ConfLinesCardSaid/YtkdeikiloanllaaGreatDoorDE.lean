/- What the law and its known example need of Parse and Print. -/
import Derived.Test.YtkdeikiloanllaaGreatDoorCZ
import Derived.Test.YtkdeikiloanllaaGreatDoorC9
import Derived.Test.YtkdeikiloanllaaGreatDoorCP
set_option linter.unusedVariables false
set_option linter.unusedSimpArgs false
namespace Go.V
open Go.RowKit Go.Proofs

def cfgLines (c r : List UInt8) : List Ln := linesOf (nsOf c) (top (dAt c 3)) (rowsOf r)
def cfgText (c r : List UInt8) : List UInt8 := lns 10 ((cfgLines c r).map Ln.text)
theorem cfgText_pre (c r : List UInt8) : lns 10 (pre (nsOf c) (top (dAt c 3)) (rowsOf r) 12) = cfgText c r := by rw [pre_lines]; rfl
theorem cfgText_len (c r : List UInt8) : (cfgText c r).length ≤ 1000 := by rw [← cfgText_pre]; exact text_len c r
theorem nsOf_len (c : List UInt8) : (nsOf c).length = 12 := rfl
theorem row_le {rows : List (List PR)} {x : List PR} (h : x ∈ rows) : x.length ≤ sumRows rows := by
  obtain ⟨i, hi, rfl⟩ := List.getElem_of_mem h
  have h1 := sumRows_take rows i hi
  have h2 := sumRows_take_le rows (i + 1)
  omega
theorem cfg_runs (c r : List UInt8) : Runs St.zero (cfgLines c r) := by
  obtain ⟨h1, h2, h3⟩ := rowsOf_ok r
  exact runs_lines (nsOf_lt c) (dAt_lt c 3) (fun x hx => ⟨h1 x hx, by have := row_le hx; omega⟩)
theorem cfg_fin (c r : List UInt8) : fin St.zero (cfgLines c r) = ⟨nsOf c, top (dAt c 3), rowsOf r, allSeen⟩ := fin_lines (nsOf_len c) _ _
theorem cfg_len (c r : List UInt8) : (cfgLines c r).length ≤ 20 := by
  have := (rowsOf_ok r).2.2
  simp [cfgLines, linesOf]
  omega
theorem cfg_count (c r : List UInt8) : (cfgText c r).count 10 = (cfgLines c r).length := by
  unfold cfgText
  rw [count_lns, List.length_map]
  intro x hx
  obtain ⟨l, hl, rfl⟩ := List.mem_map.1 hx
  obtain ⟨i, hi, rfl⟩ := List.getElem_of_mem hl
  exact (okLine_text (runs_at (cfgLines c r) St.zero (cfg_runs c r) i hi)).1
/-- what Parse hands back of a configuration's text with a bad line behind it -/
def BadOut (w : World) (code nl : Nat) (e : Ending) (w' : World) : Prop :=
  e = .returned (.tuple #[.agg #[.int .i64 0, .int .i64 0, .int .i64 0, .int .u64 0, .slice none 0 0, .int .i64 0, .int .i64 0, .int .i64 0, .int .i64 0, .int .i64 0, .int .i64 0, .int .i64 0, .int .i64 0, .int .i64 0], .int .u16 (code : Int), .int .i64 ((nl + 1 : Nat) : Int)]) ∧ Frm None' w w'
theorem Parse_bad {B0 : Nat} {w : World} (hE : EnvB B0 w) (c r tail : List UInt8) {code : Nat} (hc : 0 < code ∧ code < 60000) (hok : okLine tail) (hl : tail.length ≤ 1000) (hf : Fails B0 (fin St.zero (cfgLines c r)) tail code) :
    Calls Tryz.prog 7 #[.string (txt (cfgText c r ++ tail))] w (BadOut w code (cfgLines c r).length) := by
  have hne : tail ≠ [] := by obtain ⟨x, y, e, _⟩ := hok.2; rw [e]; simp
  have h := Parse_any hE (lines := cfgLines c r) (tail := tail) (code := code) (cfg_runs c r) (by have := cfg_len c r; omega) (.inr ⟨hok, hc.1, hc.2, hf⟩) (fun e => absurd e hne) (by have := cfgText_len c r; unfold cfgText at this; rw [List.length_append]; omega)
  refine h.mono ?_
  rintro e w' ⟨f, h | h | h⟩
  · exact ⟨h.2, f⟩
  · exact absurd h.1 hne
  · exact absurd h.1 hne
theorem joinc_mem : True := trivial
/-- the four names of the law -/
theorem four_seen : ∀ i : Fin 12, setNm.getD i.val [] ∈ allSeen := by decide +kernel
theorem thr_seen : thrNm ∈ allSeen := by decide +kernel
theorem fails_set (B0 : Nat) (c r : List UInt8) {i : Nat} (hi : i < 12) {x : List UInt8} (hx : x.length ≤ 1000) : Fails B0 (fin St.zero (cfgLines c r)) (setNm.getD i [] ++ 32 :: x) 1 := by
  intro B rb mb W hE hr
  exact line_twice hE hr hi (by rw [cfg_fin]; exact four_seen ⟨i, hi⟩) (by omega)
theorem fails_thr (B0 : Nat) (c r : List UInt8) {x : List UInt8} (hx : x.length ≤ 1000) : Fails B0 (fin St.zero (cfgLines c r)) (thrNm ++ 32 :: x) 1 := by
  intro B rb mb W hE hr
  exact line_twice_thr hE hr (by rw [cfg_fin]; exact thr_seen) (by omega)
theorem fails_rule (B0 : Nat) (s : St) {x : List UInt8} (hx : x.length ≤ 1000) : Fails B0 s ([114, 117, 108, 101, 32, 110, 111, 116, 104, 105, 110, 103, 32] ++ x) 31 := by
  intro B rb mb W hE hr
  exact line_norule hE (by omega)
theorem fails_at (B0 : Nat) (s : St) {x : List UInt8} (hx : x.length ≤ 1000) : Fails B0 s (64 :: x) 50 := by
  intro B rb mb W hE hr
  exact line_at hE (by omega)
/-- the law's example -/
def exRow : List PR := [⟨1, 5, [], []⟩, ⟨2, 0, [], []⟩]
theorem exRow_ok : rowOk2 exRow ∧ exRow.length ≤ 6 := by
  refine ⟨⟨by simp [exRow], fun r hr => ?_⟩, by simp [exRow]⟩
  simp [exRow] at hr
  rcases hr with rfl | rfl
  · exact ⟨by decide, fun h => by simp at h⟩
  · exact ⟨by decide, fun h => by simp at h⟩
def exText : List UInt8 := [114, 117, 108, 101, 32, 115, 108, 111, 119, 32, 53, 32, 38, 32, 98, 97, 100]
theorem exRow_text : rowLine exRow = exText := by decide +kernel
theorem exRow_ok3 : rowsOk [exRow] ∧ sumRows [exRow] ≤ 20 := ⟨rowsOk_of (fun x hx => by simp at hx; subst hx; exact exRow_ok.1) (by simp), by simp [sumRows, exRow]⟩
/-- what Parse hands back of the example's text -/
def ExOut (w : World) (e : Ending) (w' : World) : Prop := ∃ v, e = .returned (.tuple #[.agg (confCells (nsOf []) (top (dAt [] 3)) v).toArray, .int .u16 0, .int .i64 0]) ∧ RulesRd (fun _ => True) w' v [exRow] ∧ Frm None' w w'
theorem Parse_ex {B0 : Nat} {w : World} (hE : EnvB B0 w) : Calls Tryz.prog 7 #[.string (txt (cfgText [] [] ++ (exText ++ [10])))] w (ExOut w) := by
  have hfin : fin St.zero (cfgLines [] [] ++ [Ln.row exRow]) = ⟨nsOf [], top (dAt [] 3), [exRow], allSeen⟩ := by rw [fin_append, cfg_fin]; rfl
  have htext : lns 10 ((cfgLines [] [] ++ [Ln.row exRow]).map Ln.text) ++ [] = cfgText [] [] ++ (exText ++ [10]) := by
    rw [List.append_nil, List.map_append, lns_append]
    unfold cfgText
    rw [List.map_cons, List.map_nil, lns_one]
    show _ ++ (rowLine exRow ++ [10]) = _
    rw [exRow_text]
  have h := Parse_any hE (lines := cfgLines [] [] ++ [Ln.row exRow]) (tail := []) (code := 1) (runs_append _ _ _ (cfg_runs [] []) ⟨exRow_ok, trivial⟩) (by rw [List.length_append]; have := cfg_len [] []; simp; omega) (.inl rfl)
    (fun _ _ => by rw [hfin]; have h := confOk_of [] []; exact ⟨h.1, h.2.1, h.2.2.1, exRow_ok3.1, exRow_ok3.2⟩)
    (by rw [htext, List.length_append]; have := cfgText_len [] []; simp [exText]; omega)
  rw [htext, hfin] at h
  refine h.mono ?_
  rintro e w' ⟨f, h | h | ⟨_, _, v, e1, e2⟩⟩
  · exact absurd rfl h.1
  · exact absurd h.2.1 (by show ¬ allSeen.length ≤ 12; decide)
  · exact ⟨v, e1, e2, f⟩
theorem Parse_none {B0 : Nat} {w : World} (hE : EnvB B0 w) : Calls Tryz.prog 7 #[.string ⟨#[]⟩] w fun e w' => e = .returned (.tuple #[.agg #[.int .i64 0, .int .i64 0, .int .i64 0, .int .u64 0, .slice none 0 0, .int .i64 0, .int .i64 0, .int .i64 0, .int .i64 0, .int .i64 0, .int .i64 0, .int .i64 0, .int .i64 0, .int .i64 0], .int .u16 71, .int .i64 0]) ∧ Frm None' w w' := by
  have h := Parse_any hE (lines := []) (tail := []) (code := 1) trivial (by simp) (.inl rfl) (fun _ h => absurd h (by simp [fin, St.zero])) (by simp [lns])
  refine Calls.mono h ?_
  rintro e w' ⟨f, h | h | h⟩
  · exact absurd rfl h.1
  · exact ⟨h.2.2, f⟩
  · exact absurd h.2.1 (by simp [fin, St.zero])
theorem Parse_x {B0 : Nat} {w : World} (hE : EnvB B0 w) : Calls Tryz.prog 7 #[.string ⟨#[120, 32, 49]⟩] w fun e w' => e = .returned (.tuple #[.agg #[.int .i64 0, .int .i64 0, .int .i64 0, .int .u64 0, .slice none 0 0, .int .i64 0, .int .i64 0, .int .i64 0, .int .i64 0, .int .i64 0, .int .i64 0, .int .i64 0, .int .i64 0, .int .i64 0], .int .u16 50, .int .i64 1]) ∧ Frm None' w w' := by
  have h := Parse_any hE (lines := []) (tail := [120, 32, 49]) (code := 50) trivial (by simp) (.inr ⟨⟨by decide, 120, _, rfl, by decide⟩, by omega, by omega, fun B rb mb W hE hr => line_x hE⟩) (fun h => by simp at h) (by simp [lns])
  refine Calls.mono h ?_
  rintro e w' ⟨f, h | h | h⟩
  · exact ⟨h.2, f⟩
  · exact absurd h.1 (by simp)
  · exact absurd h.1 (by simp)
end Go.V
