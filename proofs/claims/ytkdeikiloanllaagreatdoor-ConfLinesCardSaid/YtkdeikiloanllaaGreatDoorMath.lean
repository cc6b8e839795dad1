/- Plain mathematics on numbers and lists; laws on the model's arithmetic. No program in sight. -/
import Derived.Test.YtkdeikiloanllaaGreatDoorV3
set_option linter.unusedVariables false
set_option linter.unusedSimpArgs false
namespace Go.V
open Go.RowKit
/-- the number that bytes are -/
def numVal : List UInt8 → Nat
  | [] => 0
  | b :: l => b.toNat % 128 + 128 * numVal l
def nv (l : List UInt8) : Nat := numVal l % 18446744073709551616

theorem wrap_u64 (n : Nat) (h : n < 18446744073709551616) : IntKind.u64.wrap (n : Int) = (n : Int) := by
  unfold IntKind.wrap IntKind.bits IntKind.signed
  simp only [Bool.false_and, Bool.false_eq_true, if_false]
  exact Int.emod_eq_of_lt (by omega) (by omega)
theorem intBits_nat (k : IntKind) (hk : k.signed = false) (op : BinOp) (a b r : Nat) (ha : a < 2 ^ k.bits) (hb : b < 2 ^ k.bits) (hr : r < 2 ^ k.bits)
    (h : (op = .or ∧ r = a ||| b) ∨ (op = .and ∧ r = a &&& b) ∨ (op = .xor ∧ r = a ^^^ b)) : Op.intBits op k (a : Int) (b : Int) = pure (.int k (r : Int)) := by
  have e : ∀ n : Nat, n < 2 ^ k.bits → k.wrap (n : Int) = (n : Int) := by
    intro n hn
    unfold IntKind.wrap
    simp only [hk, Bool.false_and, Bool.false_eq_true, if_false]
    have : (n : Int) % (2 ^ k.bits : Int) = (n : Int) := Int.emod_eq_of_lt (by omega) (by exact_mod_cast hn)
    exact this
  have e2 : ∀ n : Nat, BitVec.ofInt k.bits (n : Int) = BitVec.ofNat k.bits n := fun n => by simp
  rcases h with ⟨rfl, rfl⟩ | ⟨rfl, rfl⟩ | ⟨rfl, rfl⟩
  all_goals
    simp only [Op.intBits, e2]
    congr 1
    congr 1
    rw [← e _ hr]
    congr 1
    simp [Nat.mod_eq_of_lt ha, Nat.mod_eq_of_lt hb]
theorem bits_or_u64 (a b : Nat) (ha : a < 18446744073709551616) (hb : b < 18446744073709551616) : bits .or .u64 (a : Int) (b : Int) = ((a ||| b : Nat) : Int) := by
  have hr : a ||| b < 2 ^ 64 := Nat.or_lt_two_pow ha hb
  have := intBits_nat .u64 rfl .or a b (a ||| b) ha hb hr (.inl ⟨rfl, rfl⟩)
  have h2 : Op.intBits .or .u64 (a : Int) (b : Int) = pure (.int .u64 (bits .or .u64 (a : Int) (b : Int))) := by simp [Op.intBits, bits]
  rw [h2] at this
  injection this with this
  injection this
theorem or_128 (c : Nat) (h : c < 256) : bits .or .u8 (c : Int) 128 = ((c % 128 + 128 : Nat) : Int) := by
  have : ∀ c : Fin 256, (IntKind.u8.wrap ((BitVec.ofInt 8 (c.val : Int) ||| BitVec.ofInt 8 128).toNat : Int)) = ((c.val % 128 + 128 : Nat) : Int) := by decide +kernel
  exact this ⟨c, h⟩
theorem shl_u64_w (x y : Nat) : IntKind.u64.wrap ((x : Int) * 2 ^ y) = ((x * 2 ^ y % 18446744073709551616 : Nat) : Int) := by
  simp [IntKind.wrap, IntKind.bits, IntKind.signed]
theorem andNot_128 (c : Nat) (h : c ≤ 255) : Op.intBits .andNot .u8 (c : Int) 128 = pure (.int .u8 ((c % 128 : Nat) : Int)) := by
  have : ∀ c : Fin 256, (IntKind.u8.wrap ((BitVec.ofInt 8 (c.val : Int) &&& ~~~ BitVec.ofInt 8 128).toNat : Int)) = ((c.val % 128 : Nat) : Int) := by decide +kernel
  have := this ⟨c, by omega⟩
  show pure (Value.int .u8 (IntKind.u8.wrap ((BitVec.ofInt 8 (c : Int) &&& ~~~ BitVec.ofInt 8 128).toNat : Int))) = _
  rw [this]
theorem shl_u64 (yk : IntKind) (x y : Nat) (hy : y ≤ 64) : Op.shift .shl .u64 (x : Int) yk (y : Int) = pure (.int .u64 ((x * 2 ^ y % 18446744073709551616 : Nat) : Int)) := by
  rw [shift_shl_u64 yk x y (by omega) (by omega)]
  simp [IntKind.wrap, IntKind.bits, IntKind.signed]
theorem or_disjoint (a b k : Nat) (h : a < 2 ^ k) : a ||| (b * 2 ^ k) = a + b * 2 ^ k := by
  rw [Nat.mul_comm b, Nat.or_comm, ← Nat.two_pow_add_eq_or_of_lt h, Nat.add_comm]
theorem numVal_lt : ∀ l : List UInt8, numVal l < 2 ^ (7 * l.length)
  | [] => by simp [numVal]
  | b :: l => by
    have := numVal_lt l
    have h2 : b.toNat % 128 < 128 := Nat.mod_lt _ (by omega)
    have e : 2 ^ (7 * (b :: l).length) = 128 * 2 ^ (7 * l.length) := by rw [List.length_cons, Nat.mul_add, Nat.pow_add, Nat.mul_comm]
    rw [e]
    unfold numVal
    omega
theorem numVal_snoc : ∀ (l : List UInt8) (b : UInt8), numVal (l ++ [b]) = numVal l + (b.toNat % 128) * 2 ^ (7 * l.length)
  | [], b => by simp [numVal]
  | a :: l, b => by
    have e : 2 ^ (7 * (a :: l).length) = 128 * 2 ^ (7 * l.length) := by rw [List.length_cons, Nat.mul_add, Nat.pow_add, Nat.mul_comm]
    have e2 : b.toNat % 128 * (128 * 2 ^ (7 * l.length)) = 128 * (b.toNat % 128 * 2 ^ (7 * l.length)) := by
      rw [Nat.mul_left_comm]
    rw [e, e2, List.cons_append]
    unfold numVal
    rw [numVal_snoc l b, Nat.mul_add]
    omega
/-- one byte more, as the code reckons it -/
theorem nv_step (l : List UInt8) (b : UInt8) (h : l.length ≤ 9) : nv l ||| (b.toNat % 128 * 2 ^ (7 * l.length) % 18446744073709551616) = nv (l ++ [b]) := by
  have h1 := numVal_lt l
  have h2 : 2 ^ (7 * l.length) ≤ 2 ^ 63 := Nat.pow_le_pow_right (by omega) (by omega)
  have h3 : nv l = numVal l := Nat.mod_eq_of_lt (by omega)
  unfold nv
  rw [numVal_snoc]
  have h3' : numVal l % 18446744073709551616 = numVal l := h3
  rw [h3']
  -- the part that is put in has its low digits nought
  have h4 : 18446744073709551616 = 2 ^ (7 * l.length) * 2 ^ (64 - 7 * l.length) := by
    rw [← Nat.pow_add, show 7 * l.length + (64 - 7 * l.length) = 64 by omega]
  have h5 : b.toNat % 128 * 2 ^ (7 * l.length) % 18446744073709551616 = (b.toNat % 128 % 2 ^ (64 - 7 * l.length)) * 2 ^ (7 * l.length) := by
    rw [h4, Nat.mul_comm (b.toNat % 128), Nat.mul_mod_mul_left, Nat.mul_comm]
  rw [h5, or_disjoint _ _ _ h1, Nat.add_mod, h5, h3']
  have h6 : b.toNat % 128 % 2 ^ (64 - 7 * l.length) < 2 ^ (64 - 7 * l.length) := Nat.mod_lt _ (Nat.two_pow_pos _)
  have h7 : (b.toNat % 128 % 2 ^ (64 - 7 * l.length) + 1) * 2 ^ (7 * l.length) ≤ 2 ^ (64 - 7 * l.length) * 2 ^ (7 * l.length) := Nat.mul_le_mul_right _ h6
  rw [Nat.add_mul] at h7
  rw [Nat.mul_comm (2 ^ (64 - 7 * l.length)), ← h4, Nat.one_mul] at h7
  exact (Nat.mod_eq_of_lt (by omega)).symm


/-- what num.Get tells of the bytes from its place on: the number and how many bytes it has, or the error -/
def getR (r : List UInt8) : Except Nat (Nat × Nat) :=
  match (r.take 10).findIdx? (fun c => decide (c.toNat < 128)) with
  | none => if r.length < 10 then .error 10 else .error 31
  | some k => if (0 < k ∧ (r.getD k 0).toNat = 0) ∨ (k = 9 ∧ 1 < (r.getD k 0).toNat) then .error 31 else .ok (nv (r.take (k + 1)), k + 1)
theorem getR_none (r : List UInt8) (m : Nat) (hm : m = min r.length 10) (h : ∀ j, (hj : j < r.length) → j < m → 128 ≤ r[j].toNat) : getR r = if r.length < 10 then .error 10 else .error 31 := by
  have : (r.take 10).findIdx? (fun c => decide (c.toNat < 128)) = none := by
    rw [List.findIdx?_eq_none_iff]
    intro x hx
    obtain ⟨j, hj, rfl⟩ := List.mem_iff_getElem.1 hx
    rw [List.length_take] at hj
    rw [List.getElem_take]
    have := h j (by omega) (by omega)
    simp; omega
  unfold getR
  rw [this]
theorem getR_some (r : List UInt8) (k : Nat) (hk : k < r.length) (h10 : k < 10) (h : ∀ j, (hj : j < r.length) → j < k → 128 ≤ r[j].toNat) (hc : r[k].toNat < 128) :
    getR r = if (0 < k ∧ r[k].toNat = 0) ∨ (k = 9 ∧ 1 < r[k].toNat) then .error 31 else .ok (nv (r.take (k + 1)), k + 1) := by
  have e1 : (r.take 10).findIdx? (fun c => decide (c.toNat < 128)) = some k := by
    rw [List.findIdx?_eq_some_iff_getElem]
    refine ⟨by rw [List.length_take]; omega, by rw [List.getElem_take]; simpa using hc, fun j hj => ?_⟩
    rw [List.getElem_take]
    have := h j (by omega) hj
    simp; omega
  unfold getR
  rw [e1]
  simp [hk]
theorem getR_ok_le {r : List UInt8} {n u : Nat} (h : getR r = .ok (n, u)) : 0 < u ∧ u ≤ r.length ∧ u ≤ 10 ∧ n < 18446744073709551616 := by
  unfold getR at h
  split at h
  · split at h <;> cases h
  · rename_i k hk
    obtain ⟨h1, _⟩ := List.findIdx?_eq_some_iff_getElem.1 hk
    rw [List.length_take] at h1
    split at h
    · cases h
    · cases h
      exact ⟨by omega, by omega, by omega, Nat.mod_lt _ (by omega)⟩
theorem getR_err {r : List UInt8} {c : Nat} (h : getR r = .error c) : c = 10 ∨ c = 31 := by
  unfold getR at h
  split at h
  · split at h <;> cases h <;> simp
  · split at h <;> cases h
    simp
/-- a number's bytes -/
def putN (n : Nat) : List UInt8 := if n < 128 then [UInt8.ofNat n] else UInt8.ofNat (n % 128 + 128) :: putN (n / 128)
termination_by n
theorem putN_small {n : Nat} (h : n < 128) : putN n = [UInt8.ofNat n] := by rw [putN, if_pos h]
theorem putN_big {n : Nat} (h : ¬ n < 128) : putN n = UInt8.ofNat (n % 128 + 128) :: putN (n / 128) := by rw [putN, if_neg h]
theorem putN_len : ∀ (k n : Nat), n < 2 ^ (7 * (k + 1)) → (putN n).length ≤ k + 1 ∧ 0 < (putN n).length
  | 0, n, h => by rw [putN_small (by simpa using h)]; simp
  | k + 1, n, h => by
    by_cases h1 : n < 128
    · rw [putN_small h1]; simp
    · rw [putN_big h1]
      have e : 2 ^ (7 * (k + 1 + 1)) = 128 * 2 ^ (7 * (k + 1)) := by rw [Nat.mul_add 7 (k + 1) 1, Nat.pow_add, Nat.mul_comm]
      have := putN_len k (n / 128) (by rw [e] at h; omega)
      simp; omega
theorem putN_len64 {n : Nat} (h : n < 18446744073709551616) : (putN n).length ≤ 10 ∧ 0 < (putN n).length := putN_len 9 n (by omega)
/-- what num.GetText tells of the bytes from its place on -/
def getT (r : List UInt8) (most : Nat) : Except Nat (List UInt8 × Nat) :=
  match getR r with
  | .error c => .error c
  | .ok (n, u) => if n > most then .error 3 else if n > r.length - u then .error 10 else .ok ((r.drop u).take n, u + n)
end Go.V
