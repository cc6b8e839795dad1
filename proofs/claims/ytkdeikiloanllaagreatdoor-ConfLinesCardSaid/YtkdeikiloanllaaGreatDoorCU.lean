/- A line: rows of rules. -/
import Derived.Test.YtkdeikiloanllaaGreatDoorCT
set_option linter.unusedVariables false
set_option linter.unusedSimpArgs false
namespace Go.V
open Go.RowKit Go.Proofs
attribute [local go_sem ↓] Go.wp_at_zero Go.wp_at_succ

def ruleW : List UInt8 := [114, 117, 108, 101]
theorem plain_nosp {l : List UInt8} (h : l.all plain = true) : (32 : UInt8) ∉ l := by
  intro hx
  have := List.all_eq_true.1 h _ hx
  exact absurd this (by decide)
theorem plain_nonl {l : List UInt8} (h : l.all plain = true) : (10 : UInt8) ∉ l := by
  intro hx
  have := List.all_eq_true.1 h _ hx
  exact absurd this (by decide)
theorem word_plain {l : List UInt8} (h : isWord l = true) : l.all plain = true := by
  simp only [isWord, Bool.and_eq_true] at h
  exact h.2
theorem words_plain {r : PR} (hr : ruleOk2 r) : ∀ x ∈ ruleWords r, x.all plain = true := by
  obtain ⟨k, a, key, val⟩ := r
  obtain ⟨h, h5⟩ := hr
  unfold ruleOk at h
  simp only at h h5
  unfold ruleWords
  by_cases h1 : k = 1
  · subst h1
    simp at h
    have := (dec_facts ⟨a, h.1.1⟩).2.2.1
    intro x hx
    simp at hx
    rcases hx with rfl | rfl
    · decide
    · exact this
  by_cases h2 : k = 2
  · subst h2
    intro x hx
    simp at hx
    subst hx; decide
  by_cases h3 : k = 3
  · subst h3
    simp at h
    intro x hx
    simp at hx
    rcases hx with rfl | rfl | rfl
    · decide
    · exact word_plain h.1.2
    · exact word_plain h.2
  by_cases h4 : k = 4
  · subst h4
    simp at h
    have := (dec_facts ⟨a, h.1.1⟩).2.2.1
    intro x hx
    simp at hx
    rcases hx with rfl | rfl
    · decide
    · exact this
  · rw [if_neg (by omega), if_neg h2, if_neg h3] at h
    simp at h
    obtain ⟨⟨⟨rfl, ha⟩, rfl⟩, rfl⟩ := h
    obtain ⟨b, hb, rfl⟩ := h5 rfl
    have := (hex_facts ⟨b, hb⟩).2.2.1
    intro x hx
    simp at hx
    rcases hx with rfl | rfl
    · decide
    · exact this
theorem rowWords_plain : ∀ (row : List PR), (∀ r ∈ row, ruleOk2 r) → ∀ x ∈ rowWords row, x.all plain = true
  | [], _ => fun x hx => by cases hx
  | [r], h => words_plain (h r (by simp))
  | r :: r' :: l, h => by
    intro x hx
    rw [rowWords_cons] at hx
    rcases List.mem_append.1 hx with q | q
    · exact words_plain (h r (by simp)) x q
    · rcases List.mem_cons.1 q with q | q
      · subst q; decide
      · exact rowWords_plain (r' :: l) (fun y hy => h y (List.mem_cons_of_mem _ hy)) x q
theorem pieces_row {row : List PR} (h : rowOk2 row) : pieces 32 (rowLine row) = ruleW :: rowWords row := by
  unfold rowLine
  refine pieces_joinc (by simp) (fun x hx => ?_)
  rcases List.mem_cons.1 hx with q | q
  · subst q; decide
  · exact plain_nosp (rowWords_plain row h.2 x q)
theorem RdW_block1 {w : World} {B : Nat} {a : List UInt8} {ws : List (List UInt8)} (h : w.heap[B]? = some (.cells ((a :: ws).map fun p => Value.string (txt p)).toArray 9 (0, 0))) (hb : ws.length ≤ 9223372036854775807) {n : Nat} (hn : n = ws.length) : RdW (fun _ => True) w (.slice (some ⟨B, 1, none⟩) n n) ws := by
  subst hn
  refine ⟨by simp, some ⟨B, 1, none⟩, ws.length, rfl, Nat.le_refl _, hb, fun _ => ⟨B, 1, rfl, trivial, lt_of_heap h, fun j u hu => ?_⟩, fun ad h => by injection h with h; rw [← h]⟩
  rw [cell_of h, List.getElem?_toArray, Nat.add_comm]
  exact hu
theorem nameIdx_rule : nameIdx ruleW = -1 := by decide +kernel
set_option maxRecDepth 20000 in
set_option maxHeartbeats 2000000 in
/-- "rule nothing .." -/
theorem line_norule {B0 rb : Nat} {w : World} {l : List UInt8} (hE : EnvB B0 w) (hl : l.length < 4000) :
    Calls Tryz.prog 19 #[.pointer (some ⟨rb, 0, none⟩), .string (txt ([114, 117, 108, 101, 32, 110, 111, 116, 104, 105, 110, 103, 32] ++ l))] w fun e w' => e = .returned (.int .u16 31) ∧ Frm None' w w' := by
  have hSp := hid (Split_w hE ([114, 117, 108, 101, 32, 110, 111, 116, 104, 105, 110, 103, 32] ++ l) (by simp; omega))
  obtain ⟨rest, hp⟩ : ∃ rest, pieces 32 ([114, 117, 108, 101, 32, 110, 111, 116, 104, 105, 110, 103, 32] ++ l) = ruleW :: nothingW :: rest :=
    ⟨pieces 32 l, by
      have e : [114, 117, 108, 101, 32, 110, 111, 116, 104, 105, 110, 103, 32] ++ l = ruleW ++ (32 : UInt8) :: (nothingW ++ (32 : UInt8) :: l) := rfl
      rw [e, pieces_append (by decide), pieces_append (by decide)]⟩
  have hlen : (pieces 32 ([114, 117, 108, 101, 32, 110, 111, 116, 104, 105, 110, 103, 32] ++ l)).length ≤ 9223372036854775807 := by
    rw [pieces_length]
    have := List.count_le_length (a := (32 : UInt8)) (l := [114, 117, 108, 101, 32, 110, 111, 116, 104, 105, 110, 103, 32] ++ l)
    rw [List.length_append] at this
    simp at this ⊢
    omega
  rw [hp] at hSp hlen
  obtain ⟨n, hn⟩ : ∃ n, n = rest.length := ⟨_, rfl⟩
  rw [show (ruleW :: nothingW :: rest).length = n + 2 from by rw [hn]; rfl] at hSp hlen
  have hI := fun (W : World) (sb nb : Nat) h1 h2 h3 => hid (IndexSet (w := W) (sb := sb) (nb := nb) (name := ruleW) h1 h2 h3)
  rw [nameIdx_rule] at hI
  clear hE hl
  have Hp := hid hp
  have Hn := hid hn
  clear hp hn
  generalize txt ([114, 117, 108, 101, 32, 110, 111, 116, 104, 105, 110, 103, 32] ++ l) = s at *
  have hW := fun (w1 : World) (h : Words w w1 (ruleW :: nothingW :: rest)) => (cell_of h.blk 0).trans (show _ = some (Value.string ⟨#[114, 117, 108, 101]⟩) from rfl)
  have HW := hid hW
  clear hW
  change ∀ W sb nb _ _ _, Hid (Calls _ _ _ _ _) at hI
  go_enter Tryz.func19, Tryz.ntmps19
  go_wp2_with (first
    | (go_at_call 18; ((with_reducible refine hSp.out.mono ?_); rintro e w1 ⟨rfl, h1⟩; have c0 := HW.out _ h1; have z0 := lt_of_heap h1.blk; have H1 := hid h1; clear h1))
    | (go_at_call 9; ((with_reducible refine (settings_w _).mono ?_); rintro e w2 ⟨rfl, h2⟩; have M2 := hid (Mid.start H1.out h2); clear h2))
    | (go_at_call 44; ((with_reducible refine (hI _ _ _ M2.out.st M2.out.name (lt_of_heap M2.out.nm)).out.mono ?_); rintro e w3 ⟨rfl, f3⟩; have M3 := hid (M2.out.frm0 f3); have c3 := M3.out.name; have z3 := lt_of_heap M3.out.nm; clear f3))
    | (go_at_call 46; ((with_reducible refine (rules_bad (RdW_block1 M3.out.ws (by rw [List.length_cons, ← Hn.out]; omega) (by rw [List.length_cons, ← Hn.out]))).mono ?_); rintro e w4 ⟨rfl, f4⟩; have F4 := hid (M3.out.frm.trans f4 (fun _ _ q => q)); clear f4)))
  go_ret
  exact ⟨rfl, F4.out⟩
theorem count_le8 (c : UInt8) (l : List UInt8) : (pieces c l).length ≤ l.length + 1 := by
  rw [pieces_length]
  have := List.count_le_length (a := c) (l := l)
  omega
set_option maxRecDepth 20000 in
set_option maxHeartbeats 2000000 in
/-- a row's line -/
theorem line_row {B0 B rb mb : Nat} {w : World} {s : St} {row : List PR} (hE : EnvB B0 w) (hB : B ≤ w.heap.size) (hr : Rdr B rb mb s w) (hok : rowOk2 row) (hl6 : row.length ≤ 6) (hl : s.rows.length ≤ 1000) :
    Calls Tryz.prog 19 #[.pointer (some ⟨rb, 0, none⟩), .string (txt (rowLine row))] w fun e w' => e = .returned (.int .u16 0) ∧ Rdr B rb mb (s.step (.row row)) w' ∧ Frm (Tch B rb mb) w w' := by
  have hrl : (rowLine row).length ≤ 5 + row.length * 128 := rowLine_len hok.1 (fun r hx => (hok.2 r hx).1)
  have hSp := hid (Split_w hE (rowLine row) (by omega))
  have hlen : (pieces 32 (rowLine row)).length ≤ 9223372036854775807 := by have := count_le8 32 (rowLine row); omega
  rw [pieces_row hok] at hSp hlen
  obtain ⟨ws, hws⟩ : ∃ ws, ws = rowWords row := ⟨_, rfl⟩
  have hne : ws ≠ [] := by rw [hws]; exact rowWords_ne row hok.1
  rw [← hws] at hSp hlen
  obtain ⟨n, hn⟩ : ∃ n, ws.length = n + 1 := ⟨ws.length - 1, by have := List.length_pos_iff.2 hne; omega⟩
  rw [show (ruleW :: ws).length = n + 2 from by rw [List.length_cons, hn]] at hSp hlen
  have hI := fun (W : World) (sb nb : Nat) h1 h2 h3 => hid (IndexSet (w := W) (sb := sb) (nb := nb) (name := ruleW) h1 h2 h3)
  rw [nameIdx_rule] at hI
  have HE := hid hE
  have HR := hid hr
  have Hok := hid hok
  have Hl6 := hid hl6
  have Hl := hid hl
  have HB := hid hB
  have Hws := hid hws
  have Hn := hid hn
  clear hE hr hok hl6 hl hB hws hn hne hrl
  generalize txt (rowLine row) = sx at *
  have hW := fun (w1 : World) (h : Words w w1 (ruleW :: ws)) => (cell_of h.blk 0).trans (show _ = some (Value.string ⟨#[114, 117, 108, 101]⟩) from rfl)
  have HW := hid hW
  clear hW
  change ∀ W sb nb _ _ _, Hid (Calls _ _ _ _ _) at hI
  go_enter Tryz.func19, Tryz.ntmps19
  go_wp2_with (first
    | (go_at_call 18; ((with_reducible refine hSp.out.mono ?_); rintro e w1 ⟨rfl, h1⟩; have c0 := HW.out _ h1; have z0 := lt_of_heap h1.blk; have H1 := hid h1; clear h1))
    | (go_at_call 9; ((with_reducible refine (settings_w _).mono ?_); rintro e w2 ⟨rfl, h2⟩; have M2 := hid (Mid.start H1.out h2); clear h2))
    | (go_at_call 44; ((with_reducible refine (hI _ _ _ M2.out.st M2.out.name (lt_of_heap M2.out.nm)).out.mono ?_); rintro e w3 ⟨rfl, f3⟩; have M3 := hid (M2.out.frm0 f3); have c3 := M3.out.name; have z3 := lt_of_heap M3.out.nm; clear f3))
    | (go_at_call 46; ((with_reducible refine (rules_any (HE.out.none M3.out.frm) (Nat.le_trans HB.out M3.out.frm.size) (HR.out.frm0 M3.out.frm) Hok.out Hl6.out Hl.out (by rw [← Hws.out]; exact RdW_block1 M3.out.ws (by rw [Hn.out]; omega) Hn.out.symm)).mono ?_); rintro e w4 ⟨rfl, r4, f4⟩; have R4 := hid r4; have F4 := hid f4; clear r4 f4)))
  go_ret
  exact ⟨rfl, R4.out, (M3.out.frm.mono (fun _ _ q => q.elim)).trans F4.out (fun _ _ q => q)⟩
end Go.V
