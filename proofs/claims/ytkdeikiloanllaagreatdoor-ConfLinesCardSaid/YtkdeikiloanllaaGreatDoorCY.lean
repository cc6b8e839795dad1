/- conf.Parse: what it reads. -/
import Derived.Test.YtkdeikiloanllaaGreatDoorCX
set_option linter.unusedVariables false
set_option linter.unusedSimpArgs false
namespace Go.V
open Go.RowKit Go.Proofs
attribute [local go_sem ↓] Go.wp_at_zero Go.wp_at_succ

/-- any line that tells something new -/
theorem line_any' {B0 B rb mb : Nat} {w : World} {s : St} {l : Ln} (hE : EnvB B0 w) (hBB : B0 ≤ mb) (hB : B ≤ w.heap.size) (hr : Rdr B rb mb s w) (hl : s.rows.length ≤ 1000) (hok : l.ok s) :
    Calls Tryz.prog 19 #[.pointer (some ⟨rb, 0, none⟩), .string (txt l.text)] w fun e w' => e = .returned (.int .u16 0) ∧ Rdr B rb mb (s.step l) w' ∧ Frm (Tch B rb mb) w w' := by
  match l, hok with
  | .set i n, hok => exact line_set hE hBB hB hr hok.1 hok.2.1 hok.2.2
  | .thr T, hok => exact line_thr hE hB hr hok.1 hok.2
  | .row r, hok => exact line_row hE hB hr hok.1 hok.2 hl

/-! ### a line's bytes -/
theorem joinc_free {c d : UInt8} (hcd : c ≠ d) : ∀ (ws : List (List UInt8)), (∀ x ∈ ws, c ∉ x) → c ∉ joinc d ws
  | [], _ => by simp [joinc]
  | [x], h => h x (by simp)
  | x :: y :: l, h => by
    intro hx
    unfold joinc at hx
    rcases List.mem_append.1 hx with q | q
    · exact h x (by simp) q
    · rcases List.mem_cons.1 q with q | q
      · exact hcd q
      · exact joinc_free hcd (y :: l) (fun z hz => h z (List.mem_cons_of_mem _ hz)) q
/-- one line, that tells something -/
def okLine (t : List UInt8) : Prop := (10 : UInt8) ∉ t ∧ ∃ c r, t = c :: r ∧ c ≠ 35
theorem setNm_first : ∀ i : Fin 12, ∃ c r, setNm.getD i.val [] = c :: r ∧ c ≠ 35 := by
  intro i
  match i with
  | 0 => exact ⟨_, _, rfl, by decide⟩
  | 1 => exact ⟨_, _, rfl, by decide⟩
  | 2 => exact ⟨_, _, rfl, by decide⟩
  | 3 => exact ⟨_, _, rfl, by decide⟩
  | 4 => exact ⟨_, _, rfl, by decide⟩
  | 5 => exact ⟨_, _, rfl, by decide⟩
  | 6 => exact ⟨_, _, rfl, by decide⟩
  | 7 => exact ⟨_, _, rfl, by decide⟩
  | 8 => exact ⟨_, _, rfl, by decide⟩
  | 9 => exact ⟨_, _, rfl, by decide⟩
  | 10 => exact ⟨_, _, rfl, by decide⟩
  | 11 => exact ⟨_, _, rfl, by decide⟩
theorem okLine_text {s : St} {l : Ln} (hok : l.ok s) : okLine l.text := by
  match l, hok with
  | .set i n, hok =>
    refine ⟨joinc_free (by decide) _ (fun x hx => ?_), ?_⟩
    · simp at hx
      rcases hx with rfl | rfl
      · exact plain_nonl (setNm_nosp ⟨i, hok.1⟩)
      · exact plain_nonl (dec_plain hok.2.1)
    · obtain ⟨c, r, h1, h2⟩ := setNm_first ⟨i, hok.1⟩
      exact ⟨c, r ++ 32 :: dec n, by show setNm.getD i [] ++ 32 :: dec n = _; simp only at h1; rw [h1]; rfl, h2⟩
  | .thr T, hok =>
    obtain ⟨⟨b, hb, rfl⟩, _⟩ := hok
    have g := (hex_facts ⟨b, hb⟩).2.2.1
    refine ⟨joinc_free (by decide) _ (fun x hx => ?_), ⟨116, _, rfl, by decide⟩⟩
    simp at hx
    rcases hx with rfl | rfl
    · decide
    · exact plain_nonl g
  | .row r, hok =>
    refine ⟨joinc_free (by decide) _ (fun x hx => ?_), ?_⟩
    · rcases List.mem_cons.1 hx with q | q
      · subst q; decide
      · exact plain_nonl (rowWords_plain r hok.1.2 x q)
    · have := rowWords_ne r hok.1.1
      obtain ⟨y, m, hy⟩ := List.exists_cons_of_ne_nil this
      exact ⟨114, [117, 108, 101] ++ 32 :: joinc 32 (rowWords r), by show joinc 32 (_ :: rowWords r) = _; rw [hy]; rfl, by decide⟩
theorem runs_at : ∀ (ls : List Ln) (s : St), Runs s ls → ∀ k (h : k < ls.length), (ls[k]).ok (fin s (ls.take k))
  | l :: ls, s, hr, 0, _ => hr.1
  | l :: ls, s, hr, k + 1, h => runs_at ls (s.step l) hr.2 k (by simpa using h)
theorem fin_take (ls : List Ln) (s : St) (k : Nat) (h : k < ls.length) : fin s (ls.take (k + 1)) = (fin s (ls.take k)).step ls[k] := by
  rw [List.take_succ_eq_append_getElem h, fin_append]
  rfl
theorem step_rows (s : St) (l : Ln) : (s.step l).rows.length ≤ s.rows.length + 1 := by
  cases l <;> simp [St.step]
theorem fin_rows_le : ∀ (ls : List Ln) (s : St), (fin s ls).rows.length ≤ s.rows.length + ls.length
  | [], s => by simp [fin]
  | l :: ls, s => by
    have h1 := fin_rows_le ls (s.step l)
    have h2 := step_rows s l
    simp only [fin, List.length_cons]
    omega
theorem Split_c {B : Nat} {w : World} (hE : EnvB B w) (c : UInt8) (l : List UInt8) (hl : l.length < 4294967281) :
    Calls Tryz.prog 18 #[.string (txt l), .string ⟨#[c]⟩] w fun e w' => e = .returned (.slice (some ⟨w.heap.size, 0, none⟩) (pieces c l).length (pieces c l).length) ∧ Words w w' (pieces c l) := by
  refine (Split_any hE c l hl).mono ?_
  rintro e w' ⟨rfl, rfl⟩
  exact ⟨rfl, heap_alloc_at, (Frm.refl _ _).alloc _⟩
theorem Rdr.len {B rb mb : Nat} {s : St} {w : World} (h : Rdr B rb mb s w) (ty : TypeId) :
    (Builtin.len_ #[65] ty #[.map (some mb)]).run Tryz.prog w = .ok (.int .i64 (s.seen.length : Int)) w := by
  obtain ⟨l, c, hb, hl, _⟩ := h.mp.there
  have hg : (getObj mb).run Tryz.prog w = .ok (.map l c) w := by simp [getObj, Sem.run, hb]
  have hs : l.size = s.seen.length := by have := congrArg List.length hl; simpa [seenMap] using this
  simp [Builtin.len_, run_underlying Tryz.underlying65, hg, hs, goInt]
def zeros : List Value := confCells [] 0 (.slice none 0 0)
/-- what Parse hands back -/
def POut (w : World) (st : St) (tail : List UInt8) (code nl : Nat) (e : Ending) (w' : World) : Prop :=
  Frm None' w w' ∧
  ((tail ≠ [] ∧ e = .returned (.tuple #[.agg zeros.toArray, .int .u16 (code : Int), .int .i64 ((nl + 1 : Nat) : Int)])) ∨
   (tail = [] ∧ st.seen.length ≤ 12 ∧ e = .returned (.tuple #[.agg zeros.toArray, .int .u16 71, .int .i64 0])) ∨
   (tail = [] ∧ 12 < st.seen.length ∧ ∃ v, e = .returned (.tuple #[.agg (confCells st.ns st.T v).toArray, .int .u16 0, .int .i64 0]) ∧ RulesRd (fun _ => True) w' v st.rows))
/-- a last line that fails -/
def Fails (B0 : Nat) (st : St) (tail : List UInt8) (code : Nat) : Prop :=
  ∀ (B rb mb : Nat) (W : World), EnvB B0 W → Rdr B rb mb st W → Calls Tryz.prog 19 #[.pointer (some ⟨rb, 0, none⟩), .string (txt tail)] W fun e w' => e = .returned (.int .u16 (code : Int)) ∧ Frm None' W w'
end Go.V
