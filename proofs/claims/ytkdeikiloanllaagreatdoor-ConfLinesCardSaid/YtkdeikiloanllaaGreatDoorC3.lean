/- Rows of rules in memory; whether they may be. -/
import Derived.Test.YtkdeikiloanllaaGreatDoorC2
set_option linter.unusedVariables false
set_option linter.unusedSimpArgs false
namespace Go.V
open Go.RowKit Go.Proofs

def flat (row : List PR) : List Value := row.flatMap PR.cells
theorem PR.cells_len (r : PR) : r.cells.length = 4 := rfl
theorem flat_len (row : List PR) : (flat row).length = row.length * 4 := by
  induction row with
  | nil => rfl
  | cons r row ih => show (r.cells ++ flat row).length = _; rw [List.length_append, ih, PR.cells_len, List.length_cons]; omega
theorem flat_get : ∀ (row : List PR) (j i : Nat) (hj : j < row.length), i < 4 → (flat row)[j * 4 + i]? = row[j].cells[i]?
  | r :: row, 0, i, _, hi => by
    show (r.cells ++ flat row)[0 * 4 + i]? = _
    rw [List.getElem?_append_left (by rw [PR.cells_len]; omega)]
    simp
  | r :: row, j + 1, i, hj, hi => by
    show (r.cells ++ flat row)[(j + 1) * 4 + i]? = _
    rw [List.getElem?_append_right (by rw [PR.cells_len]; omega), PR.cells_len]
    have := flat_get row j i (by simpa using hj) hi
    rw [show (j + 1) * 4 + i - 4 = j * 4 + i from by omega, this]
    rfl
theorem flat_append (a b : List PR) : flat (a ++ b) = flat a ++ flat b := by simp [flat]
theorem cells_one (r : PR) : ∀ u ∈ r.cells, u.oneCell' = true := by
  intro u hu
  simp [PR.cells] at hu
  rcases hu with rfl | rfl | rfl | rfl <;> rfl
/-- rows of rules that can be read -/
def RulesRd (S : Nat → Prop) (w : World) (v : Value) (rows : List (List PR)) : Prop :=
  ∃ vs : List Value, Rd S w 1 v rows.length vs ∧ ∀ (i : Nat) (h : i < rows.length), ∃ u, vs[i]? = some u ∧ Rd S w 4 u rows[i].length (flat rows[i])
theorem RulesRd.frm {S F : Nat → Prop} {w w' : World} {v : Value} {rows : List (List PR)} (h : RulesRd S w v rows) (hf : Frm F w w') (hd : ∀ k, S k → ¬ F k) : RulesRd S w' v rows := by
  obtain ⟨vs, h1, h2⟩ := h
  exact ⟨vs, h1.frm hf hd, fun i hi => by obtain ⟨u, q1, q2⟩ := h2 i hi; exact ⟨u, q1, q2.frm hf hd⟩⟩
theorem RulesRd.slice {S : Nat → Prop} {w : World} {v : Value} {rows : List (List PR)} (h : RulesRd S w v rows) : ∃ a c, v = .slice a rows.length c ∧ rows.length ≤ c ∧ c ≤ 9223372036854775807 := by
  obtain ⟨vs, h1, _⟩ := h; exact h1.slice
theorem RulesRd.at_ {S : Nat → Prop} {w : World} {v : Value} {rows : List (List PR)} (h : RulesRd S w v rows) (i : Nat) (hi : i < rows.length) :
    ∃ g o c a' c' , v = .slice (some ⟨g, o, none⟩) rows.length c ∧ w.cell? ⟨g, o + i, none⟩ = some (.slice a' rows[i].length c') ∧ Rd S w 4 (.slice a' rows[i].length c') rows[i].length (flat rows[i]) := by
  obtain ⟨vs, h1, h2⟩ := h
  obtain ⟨g, o, c, e1, _, _, _, hc⟩ := h1.cells (by omega)
  obtain ⟨u, q1, q2⟩ := h2 i hi
  obtain ⟨a', c', rfl, _⟩ := q2.slice
  exact ⟨g, o, c, a', c', e1, hc i _ q1, q2⟩
abbrev PRk : Type := {r : PR // ruleOk r = true}
instance : Inhabited PRk := ⟨⟨⟨2, 0, [], []⟩, rfl⟩⟩
/-- ContainsFunc of a row, at a question that all its rules answer with no -/
theorem ContainsR {w : World} {S : Nat → Prop} {u : Value} {row : List PR} (hR : Rd S w 4 u row.length (flat row)) (hne : row ≠ []) (hall : ∀ r ∈ row, ruleOk r = true) (g : Nat)
    (eg : ∀ args w, (callFunc g args).run Tryz.prog w = .ok (.enter g args) w)
    (hg : ∀ (W : World) (r : PR), ruleOk r = true → Calls Tryz.prog g #[.agg r.cells.toArray] W fun e w' => e = .returned (.bool false) ∧ Frm None' W w') :
    Calls Tryz.prog 21 #[u, .func (.func g) #[] #[]] w fun e w' => e = .returned (.bool false) ∧ Frm None' w w' := by
  have hl : 0 < row.length := List.length_pos_iff.2 hne
  obtain ⟨b, off, c, rfl, _, hlt, _, hc⟩ := hR.cells (by omega)
  have zl : (row.pmap (fun r h => (⟨r, h⟩ : PRk)) hall).length = row.length := by simp
  have hn := hR.slice
  have hC := AnyQ.slices_ContainsFunc Tryz.lixR 4 Tryz.isAgg53 Tryz.sizeOf53 (fun x : PRk => x.1.cells) (fun x => rfl) (fun _ => false) g #[] eg b off row.length c
    (row.pmap (fun r h => (⟨r, h⟩ : PRk)) hall) w (fun W x hb => (hg W x.1 x.2).mono (by rintro e w' ⟨rfl, hf⟩; exact ⟨rfl, hb.trans (hf.below.mono hb.size)⟩)) (by rw [zl]; exact Nat.le_refl _) (by obtain ⟨_, _, e, h1, h2⟩ := hn; injection e with e1 e2 e3; omega) hlt
    (fun j hj i v hv => by
      rw [zl] at hj
      have e1 : ((row.pmap (fun r h => (⟨r, h⟩ : PRk)) hall)[j]!).1 = row[j] := by simp [hj]
      rw [e1] at hv
      have hi : i < 4 := by
        have := (List.getElem?_eq_some_iff.1 hv).1
        rw [PR.cells_len] at this; exact this
      rw [Nat.add_assoc]
      exact hc _ _ (by rw [flat_get row j i hj hi]; exact hv))
  refine hC.mono ?_
  rintro e w' ⟨rfl, hb⟩
  exact ⟨by simp, Frm.of_below hb⟩
def rowsOk (rows : List (List PR)) : Prop := (∀ row ∈ rows, row ≠ [] ∧ ∀ r ∈ row, ruleOk r = true) ∧ rows.length ≤ 20
def sumRows (rows : List (List PR)) : Nat := (rows.map List.length).sum
theorem sumRows_take (rows : List (List PR)) (k : Nat) (h : k < rows.length) : sumRows (rows.take (k + 1)) = sumRows (rows.take k) + rows[k].length := by
  unfold sumRows
  rw [List.take_succ_eq_append_getElem h, List.map_append, List.sum_append]; simp
theorem sumRows_take_le (rows : List (List PR)) (k : Nat) : sumRows (rows.take k) ≤ sumRows rows := by
  unfold sumRows
  conv => rhs; rw [← List.take_append_drop k rows]
  rw [List.map_append, List.sum_append]; omega
/-- policy.Right -/
theorem pRight_any {w : World} {S : Nat → Prop} {v : Value} {rows : List (List PR)} (hR : RulesRd S w v rows) (hok : rowsOk rows) (hs : sumRows rows ≤ 20) :
    Calls Tryz.prog 23 #[v] w fun e w' => e = .returned (.bool true) ∧ Frm None' w w' := by
  have H := hid hR
  have Hok := hid hok
  obtain ⟨a, c, rfl, hc1, hc2⟩ := hR.slice
  clear hR hok
  go_enter Tryz.func23, Tryz.ntmps23
  go_wp2
  go_loopw [3, 8] (fun s i wr => ∃ k : Nat, k ≤ rows.length ∧ i = .int .i64 k ∧ s = .int .i64 (sumRows (rows.take k) : Int) ∧ Frm None' w wr) (fun _ i _ => rows.length - (RowKit.intOf i).toNat)
  case atStart => exact ⟨0, by omega, rfl, rfl, Frm.refl _ _⟩
  case round =>
    obtain ⟨k, hk, rfl, rfl, hf⟩ := hrel
    obtain ⟨s, hse⟩ : ∃ s, s = sumRows (rows.take k) := ⟨_, rfl⟩
    rw [← hse]
    by_cases hlt : k < rows.length
    · obtain ⟨g, o, c2, ar, cr, e2, hcell, hrx⟩ := (H.out.frm hf (fun _ _ q => q)).at_ k hlt
      injection e2 with e2 e3 e4
      clear e3 e4
      subst e2
      have hle := sumRows_take_le rows (k + 1)
      rw [sumRows_take rows k hlt, ← hse] at hle
      have Hse := hid hse
      have Hf := hid hf
      clear hse hf
      have hrow := Hok.out.1 rows[k] (List.getElem_mem _)
      have hpos : 0 < rows[k].length := List.length_pos_iff.2 hrow.1
      obtain ⟨m, hm⟩ : ∃ m, m = rows[k].length := ⟨_, rfl⟩
      have HC := hid (ContainsR hrx hrow.1 hrow.2 51 (enters_of Tryz.func51 (by kernel_rfl) rfl) (fun W r h => podd_any h))
      rw [← hm] at hle hcell hpos HC
      have Hm := hid hm
      clear hm hrow hrx
      have hm0 : ¬ (m : Int) = 0 := by omega
      go_wp2_with (first | (go_at_call 21; refine HC.out.mono ?_; rintro e w' ⟨rfl, f1⟩; have F1 := hid f1; clear f1))
      go_roundw
      case rel => exact ⟨k + 1, by omega, by go_num, by rw [sumRows_take rows k hlt, ← Hse.out, ← Hm.out]; go_num, Hf.out.trans F1.out (fun _ _ q => q)⟩
      case measure => simp [RowKit.intOf]; omega
    · have hkl : k = rows.length := by omega
      subst hkl
      rw [List.take_length] at hse
      have h20 : ¬ (20 : Int) < (s : Int) := by omega
      have Hf := hid hf
      clear hf hse
      go_wp2
      go_ret
      exact ⟨rfl, Hf.out⟩
/-- Right's own question of a row -/
theorem right1_any {w : World} {S : Nat → Prop} {u : Value} {row : List PR} (hR : Rd S w 4 u row.length (flat row)) (hne : row ≠ []) (hall : ∀ r ∈ row, ruleOk r = true) :
    Calls Tryz.prog 20 #[u] w fun e w' => e = .returned (.bool false) ∧ Frm None' w w' := by
  have HC := hid (ContainsR hR hne hall 22 (enters_of Tryz.func22 (by kernel_rfl) rfl) (fun W r h => odd_any h))
  obtain ⟨a, c, rfl, _⟩ := hR.slice
  clear hR
  go_enter Tryz.func20, Tryz.ntmps20
  go_wp2_with (first | (go_at_call 21; refine HC.out.mono ?_; rintro e w' ⟨rfl, f1⟩; have F1 := hid f1; clear f1))
  go_ret
  exact ⟨rfl, F1.out⟩
/-- IndexFunc of rows -/
theorem IndexRows {w : World} {S : Nat → Prop} {v : Value} {rows : List (List PR)} (hR : RulesRd S w v rows) (hok : rowsOk rows) :
    Calls Tryz.prog 52 #[v, .func (.func 20) #[] #[]] w fun e w' => e = .returned (.int .i64 (-1)) ∧ Frm None' w w' := by
  have H := hid hR
  have Hok := hid hok
  obtain ⟨a, c, rfl, hc1, hc2⟩ := hR.slice
  clear hR hok
  have eg := enters_of Tryz.func20 (by kernel_rfl) rfl
  go_enter Tryz.func52, Tryz.ntmps52
  go_wp2
  go_loopw [8] (fun i wr => ∃ k : Nat, k ≤ rows.length ∧ i = .int .i64 k ∧ Frm None' w wr) (fun i _ => rows.length - (RowKit.intOf i).toNat)
  case atStart => exact ⟨0, by omega, rfl, Frm.refl _ _⟩
  case round =>
    obtain ⟨k, hk, rfl, hf⟩ := hrel
    by_cases hlt : k < rows.length
    · obtain ⟨g, o, c2, ar, cr, e2, hcell, hrx⟩ := (H.out.frm hf (fun _ _ q => q)).at_ k hlt
      injection e2 with e2 e3 e4
      clear e3 e4
      subst e2
      have Hf := hid hf
      clear hf
      have hrow := Hok.out.1 rows[k] (List.getElem_mem _)
      have HC := hid (right1_any hrx hrow.1 hrow.2)
      obtain ⟨m, hm⟩ : ∃ m, m = rows[k].length := ⟨_, rfl⟩
      rw [← hm] at hcell HC
      clear hm hrow hrx
      go_wp2_with (first | (go_at_call 20; refine HC.out.mono ?_; rintro e w' ⟨rfl, f1⟩; have F1 := hid f1; clear f1))
      go_roundw
      case rel => exact ⟨k + 1, by omega, by go_num, Hf.out.trans F1.out (fun _ _ q => q)⟩
      case measure => simp [RowKit.intOf]; omega
    · have hkl : k = rows.length := by omega
      subst hkl
      have Hf := hid hf
      clear hf
      go_wp2
      go_ret
      exact ⟨rfl, Hf.out⟩
theorem ContainsRows {w : World} {S : Nat → Prop} {v : Value} {rows : List (List PR)} (hR : RulesRd S w v rows) (hok : rowsOk rows) :
    Calls Tryz.prog 24 #[v, .func (.func 20) #[] #[]] w fun e w' => e = .returned (.bool false) ∧ Frm None' w w' := by
  have HC := hid (IndexRows hR hok)
  obtain ⟨a, c, rfl, _⟩ := hR.slice
  clear hR
  go_enter Tryz.func24, Tryz.ntmps24
  go_wp2_with (first | (go_at_call 52; refine HC.out.mono ?_; rintro e w' ⟨rfl, f1⟩; have F1 := hid f1; clear f1))
  go_ret
  exact ⟨rfl, F1.out⟩
end Go.V
