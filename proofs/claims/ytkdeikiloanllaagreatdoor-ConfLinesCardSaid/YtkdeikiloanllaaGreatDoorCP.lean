/- The law's own inputs, plainly: a configuration out of choices, its lines, what reading them does. No program in sight. -/
import Derived.Test.YtkdeikiloanllaaGreatDoorCJ
set_option linter.unusedVariables false
set_option linter.unusedSimpArgs false
namespace Go.V

/-- the first k settings' lines, and what stands ahead of the fourth -/
def pre (ns : List Nat) (T : Nat) (rows : List (List PR)) : Nat → List (List UInt8)
  | 0 => []
  | k + 1 => pre ns T rows k ++ (if k = 3 then thrLine T :: rows.map rowLine else []) ++ [setLine ns k]
theorem lns_append (a b : List (List UInt8)) : lns 10 (a ++ b) = lns 10 a ++ lns 10 b := by simp [lns]
theorem pre_le (ns : List Nat) (T : Nat) (rows : List (List PR)) (j : Nat) : ∀ k, (lns 10 (pre ns T rows k)).length ≤ (lns 10 (pre ns T rows (k + j))).length := by
  intro k
  induction j with
  | zero => exact Nat.le_refl _
  | succ j ih =>
    rw [show k + (j + 1) = (k + j) + 1 from rfl, pre, List.append_assoc, lns_append, List.length_append]
    omega
theorem lns_one (l : List UInt8) : lns 10 [l] = l ++ [10] := by simp [lns]

/-! ### choices -/
def nameBytes : List UInt8 := [115, 118, 99, 45, 97, 47, 98, 46, 99, 95, 100, 126, 33, 71, 69, 84]
def nameOf (c : Nat) : List UInt8 := (nameBytes.drop (c % 8)).take (1 + c / 8 % 8)
theorem nameOf_word : ∀ c : Fin 256, isWord (nameOf c.val) = true := by decide +kernel
def ruleOf (a b : Nat) : PR :=
  if a % 5 = 0 then ⟨1, b, [], []⟩ else if a % 5 = 1 then ⟨2, 0, [], []⟩ else if a % 5 = 2 then ⟨3, 0, [97], nameOf b⟩ else if a % 5 = 3 then ⟨4, b % 6, [], []⟩ else ⟨5, top b, [], []⟩
/-- a rule that may be, whose share is a whole byte's -/
def ruleOk2 (r : PR) : Prop := ruleOk r = true ∧ (r.kind = 5 → ∃ b, b < 256 ∧ r.a = top b)
theorem ruleOf_ok (a : Nat) {b : Nat} (hb : b < 256) : ruleOk2 (ruleOf a b) := by
  unfold ruleOf ruleOk2
  by_cases h0 : a % 5 = 0
  · rw [if_pos h0]
    exact ⟨by simp [ruleOk]; omega, fun h => by simp at h⟩
  by_cases h1 : a % 5 = 1
  · rw [if_neg h0, if_pos h1]
    exact ⟨by simp [ruleOk], fun h => by simp at h⟩
  by_cases h2 : a % 5 = 2
  · rw [if_neg h0, if_neg h1, if_pos h2]
    have hn := nameOf_word ⟨b, hb⟩
    simp only at hn
    have ha : isWord [97] = true := by decide
    exact ⟨by simp [ruleOk, hn, ha], fun h => by simp at h⟩
  by_cases h3 : a % 5 = 3
  · rw [if_neg h0, if_neg h1, if_neg h2, if_pos h3]
    exact ⟨by simp [ruleOk]; omega, fun h => by simp at h⟩
  · rw [if_neg h0, if_neg h1, if_neg h2, if_neg h3]
    have ht : top b < 72057594037927936 := by unfold top; omega
    exact ⟨by simp [ruleOk, ht], fun _ => ⟨b, hb, rfl⟩⟩
def rowStep (rows : List (List PR)) (r : PR) (c : Nat) : List (List PR) :=
  if c % 3 = 0 ∧ rows ≠ [] then rows.dropLast ++ [rows.getLastD [] ++ [r]] else rows ++ [[r]]
def rowsAt (l : List UInt8) : Nat → List (List PR)
  | 0 => []
  | k + 1 => rowStep (rowsAt l k) (ruleOf (l.getD (3 * k) 0).toNat (l.getD (3 * k + 1) 0).toNat) (l.getD (3 * k + 2) 0).toNat
def rowsOf (l : List UInt8) : List (List PR) := rowsAt l (min 6 (l.length / 3))
def rowOk2 (row : List PR) : Prop := row ≠ [] ∧ ∀ r ∈ row, ruleOk2 r
theorem sumRows_append (a b : List (List PR)) : sumRows (a ++ b) = sumRows a + sumRows b := by simp [sumRows]
theorem rowStep_ok {rows : List (List PR)} {r : PR} {c : Nat} (h : ∀ x ∈ rows, rowOk2 x) (hr : ruleOk2 r) : (∀ x ∈ rowStep rows r c, rowOk2 x) ∧ sumRows (rowStep rows r c) = sumRows rows + 1 ∧ (rowStep rows r c).length ≤ rows.length + 1 := by
  unfold rowStep
  split
  · rename_i hc
    obtain ⟨_, hne⟩ := hc
    rcases List.eq_nil_or_concat rows with e | ⟨a, z, e⟩
    · exact absurd e hne
    · rw [List.concat_eq_append] at e
      subst e
      have hz := h z (by simp)
      refine ⟨?_, ?_, ?_⟩
      · intro x hx
        rw [List.dropLast_concat, List.mem_append] at hx
        rcases hx with hx | hx
        · exact h x (by simp [hx])
        · simp at hx
          subst hx
          refine ⟨by simp, ?_⟩
          intro y hy
          rcases List.mem_append.1 hy with q | q
          · exact hz.2 y q
          · simp at q; subst q; exact hr
      · rw [List.dropLast_concat, sumRows_append, sumRows_append]
        simp [sumRows]; omega
      · simp
  · refine ⟨?_, ?_, by simp⟩
    · intro x hx
      rcases List.mem_append.1 hx with q | q
      · exact h x q
      · simp at q
        subst q
        exact ⟨by simp, fun y hy => by simp at hy; subst hy; exact hr⟩
    · rw [sumRows_append]; simp [sumRows]
theorem toNat_lt (b : UInt8) : b.toNat < 256 := b.toNat_lt
theorem rowsAt_ok (l : List UInt8) : ∀ k, (∀ x ∈ rowsAt l k, rowOk2 x) ∧ sumRows (rowsAt l k) = k ∧ (rowsAt l k).length ≤ k
  | 0 => ⟨fun x hx => by simp [rowsAt] at hx, rfl, Nat.le_refl _⟩
  | k + 1 => by
    obtain ⟨h1, h2, h3⟩ := rowsAt_ok l k
    obtain ⟨g1, g2, g3⟩ := rowStep_ok (c := (l.getD (3 * k + 2) 0).toNat) h1 (ruleOf_ok (l.getD (3 * k) 0).toNat (toNat_lt (l.getD (3 * k + 1) 0)))
    exact ⟨g1, by rw [show rowsAt l (k + 1) = rowStep _ _ _ from rfl, g2, h2], by rw [show rowsAt l (k + 1) = rowStep _ _ _ from rfl]; omega⟩
theorem rowsOf_ok (l : List UInt8) : (∀ x ∈ rowsOf l, rowOk2 x) ∧ sumRows (rowsOf l) ≤ 6 ∧ (rowsOf l).length ≤ 6 := by
  obtain ⟨h1, h2, h3⟩ := rowsAt_ok l (min 6 (l.length / 3))
  exact ⟨h1, by unfold rowsOf; omega, by unfold rowsOf; omega⟩
theorem rowsOk_of {rows : List (List PR)} (h : ∀ x ∈ rows, rowOk2 x) (hl : rows.length ≤ 20) : rowsOk rows := ⟨fun row hr => ⟨(h row hr).1, fun r hx => ((h row hr).2 r hx).1⟩, hl⟩
/-- the numbers -/
def dAt (l : List UInt8) (i : Nat) : Nat := (l.getD i 0).toNat
def nsOf (l : List UInt8) : List Nat := [1 + dAt l 0 % 12, 1 + dAt l 1 % 8, 1 + dAt l 2 % 5, 1 + dAt l 4 % 4, 1 + dAt l 5 % 12, 1 + dAt l 6 % 5, dAt l 7 % 6, 1 + dAt l 8 % 6, 1 + dAt l 9, 1 + dAt l 10 % 4, 1 + dAt l 11 % 5, 1 + dAt l 11 % 5 + dAt l 12 % 9]
theorem dAt_lt (l : List UInt8) (i : Nat) : dAt l i < 256 := toNat_lt _
theorem nsOf_lt (l : List UInt8) : ∀ i, i < 12 → (nsOf l).getD i 0 < 300 := by
  intro i hi
  have h9 := dAt_lt l 9
  match i, hi with
  | 0, _ => show 1 + dAt l 0 % 12 < 300; omega
  | 1, _ => show 1 + dAt l 1 % 8 < 300; omega
  | 2, _ => show 1 + dAt l 2 % 5 < 300; omega
  | 3, _ => show 1 + dAt l 4 % 4 < 300; omega
  | 4, _ => show 1 + dAt l 5 % 12 < 300; omega
  | 5, _ => show 1 + dAt l 6 % 5 < 300; omega
  | 6, _ => show dAt l 7 % 6 < 300; omega
  | 7, _ => show 1 + dAt l 8 % 6 < 300; omega
  | 8, _ => show 1 + dAt l 9 < 300; omega
  | 9, _ => show 1 + dAt l 10 % 4 < 300; omega
  | 10, _ => show 1 + dAt l 11 % 5 < 300; omega
  | 11, _ => show 1 + dAt l 11 % 5 + dAt l 12 % 9 < 300; omega
theorem confOk_of (l r : List UInt8) : confOk (nsOf l) (top (dAt l 3)) (rowsOf r) := by
  obtain ⟨h1, h2, h3⟩ := rowsOf_ok r
  refine ⟨?_, ?_, ?_, rowsOk_of h1 (by omega), by omega⟩
  · intro i hi
    have h9 := dAt_lt l 9
    match i, hi with
    | 0, _ => show 1 ≤ 1 + dAt l 0 % 12 ∧ 1 + dAt l 0 % 12 ≤ 5000; omega
    | 1, _ => show 1 ≤ 1 + dAt l 1 % 8 ∧ 1 + dAt l 1 % 8 ≤ 1099511627776; omega
    | 2, _ => show 1 ≤ 1 + dAt l 2 % 5 ∧ 1 + dAt l 2 % 5 ≤ 5000; omega
    | 3, _ => show 1 ≤ 1 + dAt l 4 % 4 ∧ 1 + dAt l 4 % 4 ≤ 1000; omega
    | 4, _ => show 1 ≤ 1 + dAt l 5 % 12 ∧ 1 + dAt l 5 % 12 ≤ 1099511627776; omega
    | 5, _ => show 1 ≤ 1 + dAt l 6 % 5 ∧ 1 + dAt l 6 % 5 ≤ 100; omega
    | 6, _ => show 0 ≤ dAt l 7 % 6 ∧ dAt l 7 % 6 ≤ 1099511627776; omega
    | 7, _ => show 1 ≤ 1 + dAt l 8 % 6 ∧ 1 + dAt l 8 % 6 ≤ 1000; omega
    | 8, _ => show 1 ≤ 1 + dAt l 9 ∧ 1 + dAt l 9 ≤ 1048576; omega
    | 9, _ => show 1 ≤ 1 + dAt l 10 % 4 ∧ 1 + dAt l 10 % 4 ≤ 64; omega
    | 10, _ => show 1 ≤ 1 + dAt l 11 % 5 ∧ 1 + dAt l 11 % 5 ≤ 1073741824; omega
    | 11, _ => show 1 ≤ 1 + dAt l 11 % 5 + dAt l 12 % 9 ∧ 1 + dAt l 11 % 5 + dAt l 12 % 9 ≤ 1073741824; omega
  · have := dAt_lt l 3
    unfold top; omega
  · show 1 + dAt l 11 % 5 ≤ 1 + dAt l 11 % 5 + dAt l 12 % 9
    omega

/-! ### lines -/
def thrNm : List UInt8 := [116, 104, 114, 101, 115, 104, 111, 108, 100]
inductive Ln where
  | set (i n : Nat)
  | thr (T : Nat)
  | row (r : List PR)
def Ln.text : Ln → List UInt8
  | .set i n => joinc 32 [setNm.getD i [], dec n]
  | .thr T => thrLine T
  | .row r => rowLine r
def linesOf (ns : List Nat) (T : Nat) (rows : List (List PR)) : List Ln :=
  [.set 0 (ns.getD 0 0), .set 1 (ns.getD 1 0), .set 2 (ns.getD 2 0), .thr T] ++ rows.map Ln.row ++
  [.set 3 (ns.getD 3 0), .set 4 (ns.getD 4 0), .set 5 (ns.getD 5 0), .set 6 (ns.getD 6 0), .set 7 (ns.getD 7 0), .set 8 (ns.getD 8 0), .set 9 (ns.getD 9 0), .set 10 (ns.getD 10 0), .set 11 (ns.getD 11 0)]
theorem pre_lines (ns : List Nat) (T : Nat) (rows : List (List PR)) : pre ns T rows 12 = (linesOf ns T rows).map Ln.text := by
  simp [pre, linesOf, Ln.text, setLine, List.map_map]
/-- what has been read so far -/
structure St where
  ns : List Nat
  T : Nat
  rows : List (List PR)
  seen : List (List UInt8)
def St.zero : St := ⟨[0, 0, 0, 0, 0, 0, 0, 0, 0, 0, 0, 0], 0, [], []⟩
def St.step (s : St) : Ln → St
  | .set i n => { s with ns := s.ns.set i n, seen := s.seen ++ [setNm.getD i []] }
  | .thr T => { s with T := T, seen := s.seen ++ [thrNm] }
  | .row r => { s with rows := s.rows ++ [r] }
def Ln.ok (s : St) : Ln → Prop
  | .set i n => i < 12 ∧ n < 300 ∧ setNm.getD i [] ∉ s.seen
  | .thr T => (∃ b, b < 256 ∧ T = top b) ∧ thrNm ∉ s.seen
  | .row r => rowOk2 r ∧ r.length ≤ 6
def Runs (s : St) : List Ln → Prop
  | [] => True
  | l :: ls => l.ok s ∧ Runs (s.step l) ls
def fin (s : St) : List Ln → St
  | [] => s
  | l :: ls => fin (s.step l) ls
theorem fin_append (a b : List Ln) : ∀ s, fin s (a ++ b) = fin (fin s a) b := by
  induction a with
  | nil => intro s; rfl
  | cons x a ih => intro s; exact ih _
theorem runs_append (a b : List Ln) : ∀ s, Runs s a → Runs (fin s a) b → Runs s (a ++ b) := by
  induction a with
  | nil => intro s _ h; exact h
  | cons x a ih => intro s h1 h2; exact ⟨h1.1, ih _ h1.2 h2⟩
theorem fin_rows (rows : List (List PR)) : ∀ s : St, fin s (rows.map Ln.row) = { s with rows := s.rows ++ rows } := by
  induction rows with
  | nil => intro s; simp [fin]
  | cons r rows ih => intro s; rw [List.map_cons, fin, ih]; simp [St.step]
theorem runs_rows (rows : List (List PR)) (h : ∀ r ∈ rows, rowOk2 r ∧ r.length ≤ 6) : ∀ s : St, Runs s (rows.map Ln.row) := by
  induction rows with
  | nil => intro s; trivial
  | cons r rows ih => intro s; exact ⟨h r (by simp), ih (fun x hx => h x (List.mem_cons_of_mem _ hx)) _⟩
def allSeen : List (List UInt8) := [setNm.getD 0 [], setNm.getD 1 [], setNm.getD 2 [], thrNm, setNm.getD 3 [], setNm.getD 4 [], setNm.getD 5 [], setNm.getD 6 [], setNm.getD 7 [], setNm.getD 8 [], setNm.getD 9 [], setNm.getD 10 [], setNm.getD 11 []]
theorem fin_lines {ns : List Nat} (hn : ns.length = 12) (T : Nat) (rows : List (List PR)) : fin St.zero (linesOf ns T rows) = ⟨ns, T, rows, allSeen⟩ := by
  unfold linesOf
  rw [fin_append, fin_append, fin_rows]
  match ns, hn with
  | [a0, a1, a2, a3, a4, a5, a6, a7, a8, a9, a10, a11], _ => rfl
theorem runs_lines {ns : List Nat} (hn : ∀ i, i < 12 → ns.getD i 0 < 300) {b : Nat} (hb : b < 256) {rows : List (List PR)} (hr : ∀ r ∈ rows, rowOk2 r ∧ r.length ≤ 6) : Runs St.zero (linesOf ns (top b) rows) := by
  unfold linesOf
  have d : ∀ (x : List UInt8) (l : List (List UInt8)), l.all (· != x) = true → x ∉ l := by
    intro x l h hx
    have := List.all_eq_true.1 h x hx
    simp at this
  refine runs_append _ _ _ (runs_append _ _ _ ?_ (runs_rows rows hr _)) ?_
  · exact ⟨⟨by omega, hn 0 (by omega), d _ _ rfl⟩, ⟨by omega, hn 1 (by omega), d _ _ rfl⟩, ⟨by omega, hn 2 (by omega), d _ _ rfl⟩, ⟨⟨b, hb, rfl⟩, d _ _ rfl⟩, trivial⟩
  · rw [fin_append, fin_rows]
    exact ⟨⟨by omega, hn 3 (by omega), d _ _ rfl⟩, ⟨by omega, hn 4 (by omega), d _ _ rfl⟩, ⟨by omega, hn 5 (by omega), d _ _ rfl⟩, ⟨by omega, hn 6 (by omega), d _ _ rfl⟩, ⟨by omega, hn 7 (by omega), d _ _ rfl⟩, ⟨by omega, hn 8 (by omega), d _ _ rfl⟩, ⟨by omega, hn 9 (by omega), d _ _ rfl⟩, ⟨by omega, hn 10 (by omega), d _ _ rfl⟩, ⟨by omega, hn 11 (by omega), d _ _ rfl⟩, trivial⟩

/-! ### a text's length -/
theorem dec_len {n : Nat} (h : n < 300) : (dec n).length ≤ 3 := (dec_facts ⟨n, h⟩).2.1
theorem ruleText_len {r : PR} (h : ruleOk r = true) : (joinc 32 (ruleWords r)).length ≤ 125 := by
  obtain ⟨k, a, key, val⟩ := r
  unfold ruleOk at h
  simp only at h
  have hD := digitsT_len a
  unfold ruleWords
  by_cases h1 : k = 1
  · subst h1
    simp at h
    have := dec_len h.1.1
    simp [joinc]; omega
  by_cases h2 : k = 2
  · subst h2; simp [joinc]
  by_cases h3 : k = 3
  · subst h3
    simp [isWord] at h
    simp [joinc]; omega
  by_cases h4 : k = 4
  · subst h4
    simp at h
    have := dec_len h.1.1
    simp [joinc]; omega
  · simp only [h1, h2, h3, h4, if_false, joinc]
    simp; omega
theorem rowText_len : ∀ (row : List PR), row ≠ [] → (∀ r ∈ row, ruleOk r = true) → (joinc 32 (rowWords row)).length ≤ row.length * 128
  | [], h, _ => absurd rfl h
  | [r], _, h => by
    have := ruleText_len (h r (by simp))
    simp [rowWords]; omega
  | r :: r' :: l, _, h => by
    have ih := rowText_len (r' :: l) (by simp) (fun x hx => h x (List.mem_cons_of_mem _ hx))
    have h1 := ruleText_len (h r (by simp))
    have e : joinc 32 ([38] :: rowWords (r' :: l)) = [38] ++ 32 :: joinc 32 (rowWords (r' :: l)) := joinc_append 32 [[38]] _ (by simp) (rowWords_ne _ (by simp))
    show (joinc 32 (ruleWords r ++ [38] :: rowWords (r' :: l))).length ≤ _
    rw [joinc_append 32 _ _ (ruleWords_ne r) (by simp), e]
    simp only [List.length_append, List.length_cons, List.length_nil] at ih ⊢
    omega
theorem rowLine_len {row : List PR} (h : row ≠ []) (hr : ∀ r ∈ row, ruleOk r = true) : (rowLine row).length ≤ 5 + row.length * 128 := by
  have := rowText_len row h hr
  rw [← rowLine_eq row h]
  simp [joinc]; omega
theorem lns_rows_len (rows : List (List PR)) (h : ∀ row ∈ rows, row ≠ [] ∧ ∀ r ∈ row, ruleOk r = true) : (lns 10 (rows.map rowLine)).length ≤ 6 * rows.length + 128 * sumRows rows := by
  induction rows with
  | nil => simp [lns]
  | cons r rows ih =>
    have h1 := ih (fun x hx => h x (List.mem_cons_of_mem _ hx))
    have h2 := rowLine_len (h r (by simp)).1 (h r (by simp)).2
    have e : lns 10 ((r :: rows).map rowLine) = (rowLine r ++ [10]) ++ lns 10 (rows.map rowLine) := by simp [lns]
    rw [e]
    simp [sumRows] at h1 ⊢
    omega
theorem setLine_len {ns : List Nat} {i : Nat} (hi : i < 12) (h : ns.getD i 0 < 300) : (setLine ns i).length ≤ 11 := by
  have h2 := dec_len h
  have h3 : (setNm.getD i []).length ≤ 7 := by
    match i, hi with
    | 0, _ => decide
    | 1, _ => decide
    | 2, _ => decide
    | 3, _ => decide
    | 4, _ => decide
    | 5, _ => decide
    | 6, _ => decide
    | 7, _ => decide
    | 8, _ => decide
    | 9, _ => decide
    | 10, _ => decide
    | 11, _ => decide
  have e : setLine ns i = setNm.getD i [] ++ 32 :: dec (ns.getD i 0) := rfl
  rw [e, List.length_append, List.length_cons]; omega
theorem pre_len {ns : List Nat} {T : Nat} {rows : List (List PR)} (hn : ∀ i, i < 12 → ns.getD i 0 < 300) (hr : ∀ row ∈ rows, row ≠ [] ∧ ∀ r ∈ row, ruleOk r = true) :
    ∀ k, k ≤ 12 → (lns 10 (pre ns T rows k)).length ≤ 12 * k + if k ≤ 3 then 0 else 25 + 6 * rows.length + 128 * sumRows rows
  | 0, _ => by simp [pre, lns]
  | k + 1, hk => by
    have ih := pre_len (T := T) hn hr k (by omega)
    have h1 := setLine_len (ns := ns) (i := k) (by omega) (hn k (by omega))
    rw [pre, lns_append, lns_append, lns_one, List.length_append, List.length_append, List.length_append]
    have h2 := lns_rows_len rows hr
    have h3 : (thrLine T).length ≤ 24 := by
      have := digitsT_len T
      have e : thrLine T = thrNm ++ 32 :: digitsT T := rfl
      rw [e, List.length_append, List.length_cons]; simp [thrNm]; omega
    by_cases hk3 : k = 3
    · subst hk3
      have e : lns 10 (thrLine T :: rows.map rowLine) = (thrLine T ++ [10]) ++ lns 10 (rows.map rowLine) := by simp [lns]
      rw [if_pos rfl, e, if_neg (by omega)]
      rw [if_pos (by omega)] at ih
      simp only [List.length_append, List.length_cons, List.length_nil]
      omega
    · rw [if_neg hk3]
      simp only [lns, List.flatMap_nil, List.length_nil, List.length_cons]
      by_cases h4 : k ≤ 3
      · rw [if_pos h4] at ih
        rw [if_pos (by omega)]
        simp only [lns] at ih
        omega
      · rw [if_neg h4] at ih
        rw [if_neg (by omega)]
        simp only [lns] at ih
        omega
theorem text_len (l r : List UInt8) : (lns 10 (pre (nsOf l) (top (dAt l 3)) (rowsOf r) 12)).length ≤ 1000 := by
  obtain ⟨h1, h2, h3⟩ := rowsOf_ok r
  have := pre_len (T := top (dAt l 3)) (nsOf_lt l) (rowsOk_of h1 (by omega)).1 12 (Nat.le_refl _)
  rw [if_neg (by omega)] at this
  omega
end Go.V
