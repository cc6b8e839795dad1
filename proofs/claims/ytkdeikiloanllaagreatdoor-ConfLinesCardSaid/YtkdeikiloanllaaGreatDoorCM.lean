/- The plain model of a configuration's text: words, lines, splitting, numbers. No program in sight. -/
import Derived.Test.YtkdeikiloanllaaGreatDoorV3
import Derived.Lib.Split
import Derived.Lib.SplitLaws
import Derived.Lib.CountLaws
import Derived.Lib.ItoaNum
import Derived.Lib.Atoi
import Derived.Lib.TrimByte
import Derived.Lib.Join
set_option linter.unusedVariables false
set_option linter.unusedSimpArgs false
namespace Go.V

/-- A rule, plainly. -/
structure PR where
  kind : Nat
  a : Nat
  key : List UInt8
  val : List UInt8
deriving DecidableEq
def PR.cells (r : PR) : List Value := [.int .u8 (r.kind : Int), .int .i64 (r.a : Int), .string (txt r.key), .string (txt r.val)]

/-! ### splitting at a byte -/
/-- pieces between the bytes c -/
def pieces (c : UInt8) : List UInt8 → List (List UInt8)
  | [] => [[]]
  | b :: l => if b = c then [] :: pieces c l else match pieces c l with
    | [] => [[b]]
    | p :: ps => (b :: p) :: ps
theorem pieces_ne (c : UInt8) (l : List UInt8) : pieces c l ≠ [] := by
  cases l with
  | nil => simp [pieces]
  | cons b l =>
    unfold pieces
    split
    · simp
    · split <;> simp
theorem pieces_free {c : UInt8} {l : List UInt8} (h : c ∉ l) : pieces c l = [l] := by
  induction l with
  | nil => rfl
  | cons b l ih =>
    simp at h
    unfold pieces
    rw [if_neg (fun e => h.1 e.symm), ih h.2]
theorem pieces_append {c : UInt8} {p : List UInt8} (h : c ∉ p) (l : List UInt8) : pieces c (p ++ c :: l) = p :: pieces c l := by
  induction p with
  | nil => simp [pieces]
  | cons b p ih =>
    simp at h
    rw [List.cons_append]
    show (if b = c then [] :: pieces c (p ++ c :: l) else match pieces c (p ++ c :: l) with | [] => [[b]] | q :: ps => (b :: q) :: ps) = (b :: p) :: pieces c l
    rw [if_neg (fun e => h.1 e.symm), ih h.2]
theorem pieces_length (c : UInt8) (l : List UInt8) : (pieces c l).length = l.count c + 1 := by
  induction l with
  | nil => rfl
  | cons b l ih =>
    unfold pieces
    by_cases hb : b = c
    · rw [if_pos hb, List.length_cons, ih, List.count_cons]; simp [hb]
    · rw [if_neg hb, List.count_cons]
      have hbc : (b == c) = false := by simpa using hb
      rw [hbc]
      cases hp : pieces c l with
      | nil => exact absurd hp (pieces_ne c l)
      | cons p ps => rw [hp] at ih; simpa using ih
/-- words with c between them -/
def joinc (c : UInt8) : List (List UInt8) → List UInt8
  | [] => []
  | [x] => x
  | x :: y :: l => x ++ c :: joinc c (y :: l)
theorem pieces_joinc {c : UInt8} {ws : List (List UInt8)} (h0 : ws ≠ []) (h : ∀ x ∈ ws, c ∉ x) : pieces c (joinc c ws) = ws := by
  induction ws with
  | nil => exact absurd rfl h0
  | cons x ws ih =>
    cases ws with
    | nil => exact pieces_free (h x (by simp))
    | cons y l =>
      unfold joinc
      rw [pieces_append (h x (by simp)), ih (by simp) (fun z hz => h z (List.mem_cons_of_mem _ hz))]
/-- lines, each with its end -/
def lns (c : UInt8) (ls : List (List UInt8)) : List UInt8 := ls.flatMap fun l => l ++ [c]
theorem pieces_lns {c : UInt8} {ls : List (List UInt8)} (h : ∀ x ∈ ls, c ∉ x) {t : List UInt8} : pieces c (lns c ls ++ t) = ls ++ pieces c t := by
  induction ls with
  | nil => simp [lns]
  | cons x ls ih =>
    have := ih (fun z hz => h z (List.mem_cons_of_mem _ hz))
    simp only [lns, List.flatMap_cons] at this ⊢
    rw [List.append_assoc, List.append_assoc, List.singleton_append, pieces_append (h x (by simp)), this]
    rfl
theorem count_lns {c : UInt8} {ls : List (List UInt8)} (h : ∀ x ∈ ls, c ∉ x) : (lns c ls).count c = ls.length := by
  induction ls with
  | nil => simp [lns]
  | cons x ls ih =>
    simp only [lns, List.flatMap_cons] at ih ⊢
    rw [List.count_append, ih (fun z hz => h z (List.mem_cons_of_mem _ hz)), List.count_append, List.count_eq_zero_of_not_mem (h x (by simp))]
    simp; omega
theorem splitK_succ (sep : List UInt8) (save k : Nat) (s : List UInt8) : Lib.splitK sep save (k + 1) s = if Lib.index s sep == -1 then [s] else s.take ((Lib.index s sep).toNat + save) :: Lib.splitK sep save k (s.drop ((Lib.index s sep).toNat + sep.length)) := rfl
theorem split_pieces (c : UInt8) (l : List UInt8) : Lib.splitK [c] 0 (Lib.count l [c]) l = pieces c l := by
  induction l with
  | nil => rw [Lib.count_miss (by simp [Lib.index])]; rfl
  | cons b l ih =>
    by_cases h : b = c
    · subst h
      have hix : Lib.index (b :: l) [b] = ((0 : Nat) : Int) := by rw [Lib.index]; simp [List.isPrefixOf]
      rw [Lib.count_cons_eq, Nat.add_comm, pieces, if_pos rfl, ← ih, splitK_succ, hix]
      simp
    · have hp : ([c] : List UInt8).isPrefixOf (b :: l) = false := by simp [List.isPrefixOf, Ne.symm h]
      have hix : Lib.index (b :: l) [c] = if Lib.index l [c] == -1 then -1 else Lib.index l [c] + 1 := by rw [Lib.index, hp]; simp
      rw [Lib.count_cons_ne b c l h, pieces, if_neg h, ← ih]
      by_cases hm : Lib.index l [c] = -1
      · rw [Lib.count_miss hm]; rfl
      · have hge := Lib.index_ge l [c]
        obtain ⟨j, hj⟩ : ∃ j : Nat, Lib.index l [c] = j := ⟨(Lib.index l [c]).toNat, by omega⟩
        have hix' : Lib.index (b :: l) [c] = ((j + 1 : Nat) : Int) := by rw [hix, if_neg (fun e => hm (beq_iff_eq.1 e)), hj]; omega
        rw [Lib.count_hit (by simp) hj, Nat.add_comm, splitK_succ, splitK_succ, hix', hj]
        have e1 : ¬ (((j + 1 : Nat) : Int) == -1) = true := by simp; omega
        have e2 : ¬ (((j : Nat) : Int) == -1) = true := by simp
        rw [if_neg e1, if_neg e2]
        simp
/-- what strings.Split hands back, at a separator of one byte -/
theorem splitB_pieces (c : UInt8) (l : List UInt8) : (Lib.splitB ⟨#[c]⟩ 0 (Lib.countB (txt l) ⟨#[c]⟩) (txt l)) = (pieces c l).map txt ∧ Lib.countB (txt l) ⟨#[c]⟩ + 1 = (pieces c l).length := by
  have h := Lib.splitB_data ⟨#[c]⟩ 0 (Lib.countB (txt l) ⟨#[c]⟩) (txt l)
  have e : Lib.countB (txt l) ⟨#[c]⟩ = Lib.count l [c] := rfl
  have e2 : Lib.splitK ((⟨#[c]⟩ : ByteArray).data.toList) 0 (Lib.countB (txt l) ⟨#[c]⟩) (txt l).data.toList = pieces c l := split_pieces c l
  rw [e2] at h
  constructor
  · rw [← h, List.map_map]
    conv => lhs; rw [← List.map_id (Lib.splitB _ _ _ _)]
    rfl
  · rw [e, Lib.count_one, pieces_length]
/-- Join is joinc -/
theorem join_joinc (c : UInt8) (ws : List (List UInt8)) : Lib.join ws [c] = joinc c ws := by
  unfold Lib.join
  induction ws with
  | nil => rfl
  | cons x ws ih =>
    cases ws with
    | nil => simp [joinc, List.intercalate, List.intersperse]
    | cons y l => 
      simp only [List.intercalate, List.intersperse, List.flatten_cons, List.append_eq, joinc] at ih ⊢
      rw [← ih]
      simp

/-! ### numbers -/
def dec (n : Nat) : List UInt8 := if n < 10 then [UInt8.ofNat (48 + n)] else if n < 100 then [UInt8.ofNat (48 + n / 10), UInt8.ofNat (48 + n % 10)] else [UInt8.ofNat (48 + n / 100), UInt8.ofNat (48 + n / 10 % 10), UInt8.ofNat (48 + n % 10)]
theorem decDigits_dec {n : Nat} (h : n < 1000) : Lib.decDigits n = dec n := by
  unfold dec
  split
  · rename_i h1; exact Lib.decDigits_one h1
  · rename_i h1
    split
    · rename_i h2; exact Lib.decDigits_two h1 h2
    · rename_i h2
      rw [Lib.decDigits, dif_neg h1, Lib.decDigits_two (by omega) (by omega), show n / 10 / 10 = n / 100 from by omega]
      rfl
theorem itoa_dec {n : Nat} (h : n < 1000) : Lib.itoa (n : Int) = dec n := by
  unfold Lib.itoa
  rw [if_neg (by omega), Int.toNat_natCast, decDigits_dec h]
/-- what may stand in a word -/
def plain (b : UInt8) : Bool := 33 ≤ b.toNat && b.toNat ≤ 126
theorem dec_facts : ∀ n : Fin 300, Lib.atoi (dec n.val) = some (n.val : Int) ∧ (dec n.val).length ≤ 3 ∧ (dec n.val).all plain = true ∧ dec n.val ≠ [] ∧ dec n.val ≠ [38] := by decide +kernel
/-! ### thresholds -/
def hexd : List UInt8 := [48, 49, 50, 51, 52, 53, 54, 55, 56, 57, 97, 98, 99, 100, 101, 102]
def hex14 (t : Nat) : List UInt8 := (List.range 14).map fun i => hexd.getD (t / 2 ^ (4 * (13 - i)) % 16) 0
def digitsT (t : Nat) : List UInt8 := if Lib.trimRightB (hex14 t) 48 = [] then [48] else Lib.trimRightB (hex14 t) 48
def parseGo : Nat → Nat → List UInt8 → Nat
  | _, n, [] => n
  | i, n, b :: l => parseGo (i + 1) (n ||| ((Lib.indexByte hexd b).toNat <<< (4 * (13 - i)))) l
def top (b : Nat) : Nat := b * 281474976710656
theorem hex_facts : ∀ b : Fin 256, parseGo 0 0 (digitsT (top b.val)) = top b.val ∧ (digitsT (top b.val)).length ≤ 14 ∧ (digitsT (top b.val)).all plain = true ∧ digitsT (top b.val) ≠ [] ∧ digitsT (top b.val) ≠ [38] ∧ (digitsT (top b.val)).all (fun c => decide (0 ≤ Lib.indexByte hexd c)) = true := by decide +kernel
end Go.V
