/- A threshold as a text, and back. -/
import Derived.Test.YtkdeikiloanllaaGreatDoorC4
import Derived.Test.YtkdeikiloanllaaGreatDoorMath
set_option linter.unusedVariables false
set_option linter.unusedSimpArgs false
namespace Go.V
open Go.RowKit Go.Proofs

theorem bits_and_u64 (a b : Nat) (ha : a < 18446744073709551616) (hb : b < 18446744073709551616) : bits .and .u64 (a : Int) (b : Int) = ((a &&& b : Nat) : Int) := by
  have hr : a &&& b < 2 ^ 64 := Nat.and_lt_two_pow a hb
  have := intBits_nat .u64 rfl .and a b (a &&& b) ha hb hr (.inr (.inl ⟨rfl, rfl⟩))
  have h2 : Op.intBits .and .u64 (a : Int) (b : Int) = pure (.int .u64 (bits .and .u64 (a : Int) (b : Int))) := by simp [Op.intBits, bits]
  rw [h2] at this
  injection this with this
  injection this
theorem and_15 (a : Nat) (ha : a < 18446744073709551616) : bits .and .u64 (a : Int) 15 = ((a % 16 : Nat) : Int) := by
  rw [show (15 : Int) = ((15 : Nat) : Int) from rfl, bits_and_u64 a 15 ha (by omega)]
  congr 1
  exact Nat.and_two_pow_sub_one_eq_mod a 4
theorem hex14_len (t : Nat) : (hex14 t).length = 14 := by simp [hex14]
theorem hex14_get (t k : Nat) (h : k < 14) : (hex14 t)[k]? = some (hexd.getD (t / 2 ^ (4 * (13 - k)) % 16) 0) := by simp [hex14, h]
theorem hexb_at : ∀ (d : Nat) (h : d < (⟨#[48, 49, 50, 51, 52, 53, 54, 55, 56, 57, 97, 98, 99, 100, 101, 102]⟩ : ByteArray).size), ((⟨#[48, 49, 50, 51, 52, 53, 54, 55, 56, 57, 97, 98, 99, 100, 101, 102]⟩ : ByteArray)[d]'h) = hexd.getD d 0
  | 0, _ => rfl
  | 1, _ => rfl
  | 2, _ => rfl
  | 3, _ => rfl
  | 4, _ => rfl
  | 5, _ => rfl
  | 6, _ => rfl
  | 7, _ => rfl
  | 8, _ => rfl
  | 9, _ => rfl
  | 10, _ => rfl
  | 11, _ => rfl
  | 12, _ => rfl
  | 13, _ => rfl
  | 14, _ => rfl
  | 15, _ => rfl
  | n + 16, h => absurd h (by show ¬ n + 16 < 16; omega)
def hexCells (t k : Nat) : List Value := cells8 ((hex14 t).take k) ++ List.replicate (14 - k) (.int .u8 0)
theorem hexCells_step (t k : Nat) (h : k < 14) (x : Value) (hx : x = .int .u8 ((hexd.getD (t / 2 ^ (4 * (13 - k)) % 16) 0).toNat : Int)) :
    (hexCells t k).toArray.setIfInBounds k x = (hexCells t (k + 1)).toArray := by
  subst hx
  have hl : ((hex14 t).take k).length = k := by rw [List.length_take, hex14_len]; omega
  unfold hexCells
  rw [List.take_succ_eq_append_getElem (by rw [hex14_len]; omega), cells8_append]
  have e : (hex14 t)[k]'(by rw [hex14_len]; omega) = hexd.getD (t / 2 ^ (4 * (13 - k)) % 16) 0 := by
    have := hex14_get t k h
    rw [List.getElem?_eq_getElem (by rw [hex14_len]; omega)] at this
    exact Option.some.inj this
  rw [e, show 14 - k = (14 - (k + 1)) + 1 from by omega, List.replicate_succ]
  apply Array.ext'
  simp only [Array.toList_setIfInBounds, List.append_assoc]
  rw [List.set_append_right _ _ (by rw [cells8_length, hl]; omega), cells8_length, hl, Nat.sub_self]
  rfl
theorem hexCells_at (t k : Nat) (h : k < 14) : (hexCells t k)[k]? = some (.int .u8 0) := by
  have hl : ((hex14 t).take k).length = k := by rw [List.length_take, hex14_len]; omega
  unfold hexCells
  rw [List.getElem?_append_right (by rw [cells8_length, hl]; omega), cells8_length, hl, Nat.sub_self, show 14 - k = (14 - (k + 1)) + 1 from by omega]
  rfl
set_option maxRecDepth 20000 in
theorem Digits_any {w : World} {t : Nat} (ht : t < 72057594037927936) :
    Calls Tryz.prog 10 #[.int .u64 (t : Int)] w fun e w' => e = .returned (.tuple #[.string (txt (digitsT t)), .int .u16 0]) ∧ Frm None' w w' := by
  have HT := hid (show ¬ (72057594037927936 : Int) ≤ (t : Int) by omega)
  have Ht := hid ht
  clear ht
  go_enter Tryz.func10, Tryz.ntmps10
  generalize hW : (72057594037927936 : Int) = WH
  rw [hW] at HT
  clear hW
  have hT := HT.out
  clear HT
  go_wp2
  clear hT
  go_loopw [9] (fun i wr => ∃ k : Nat, k ≤ 14 ∧ i = .int .i64 k ∧ wr.heap[w.heap.size]? = some (.cells (hexCells t k).toArray 75 (0, 0)) ∧ Frm None' w wr) (fun i _ => 14 - (RowKit.intOf i).toNat)
  case atStart => exact ⟨0, by omega, rfl, heap_alloc_at, (Frm.refl _ _).alloc _⟩
  case round =>
    obtain ⟨k, hk, rfl, hb, hf⟩ := hrel
    by_cases hlt : k < 14
    · have ck := (cell_of hb k).trans (by rw [List.getElem?_toArray, hexCells_at t k hlt])
      have fk := free_of hb k
      have hlen : w.heap.size < wr.heap.size := lt_of_heap hb
      have hq : t / 2 ^ (4 * (13 - k)) < 18446744073709551616 := Nat.lt_of_le_of_lt (Nat.div_le_self _ _) (by have := Ht.out; omega)
      have hd := and_15 _ hq
      rw [show ((t / 2 ^ (4 * (13 - k)) : Nat) : Int) = (t : Int) / 2 ^ (4 * (13 - k)) from by simp] at hd
      obtain ⟨d, hde⟩ : ∃ d, d = t / 2 ^ (4 * (13 - k)) % 16 := ⟨_, rfl⟩
      have hd16 : d < 16 := by rw [hde]; omega
      rw [← hde] at hd
      have Hb := hid hb
      have Hf := hid hf
      have Hd := hid hde
      clear hb hf hq hde
      go_wp2
      go_roundw
      case rel => exact ⟨k + 1, by omega, by go_num, by rw [heap_setCell_at Hb.out, hexCells_step t k hlt _ (by rw [hexb_at, Hd.out])], Hf.out.setCell _ _ (fun h => absurd h (by show ¬ w.heap.size < w.heap.size; omega))⟩
      case measure => simp [RowKit.intOf]; omega
    · have hk14 : k = 14 := by omega
      subst hk14
      have hlen : w.heap.size < wr.heap.size := lt_of_heap hb
      have hrd : RdB (fun _ => True) wr (.slice (some ⟨w.heap.size, 0, none⟩) 14 14) (hex14 t) := RdB.of_block hb trivial (by
        unfold hexCells
        rw [List.take_of_length_le (by rw [hex14_len]; omega)]
        simp) (by rw [hex14_len]) (by omega)
      have hcv := run_string_of (P := Tryz.prog) hrd Tryz.underlying22 Tryz.underlying5 Tryz.underlying9
      have HC := hid (Tryz.strings_TrimRight_one (txt (hex14 t)) 48 (by decide) wr (by rw [size_txt, hex14_len]; omega))
      rw [toList_txt] at HC
      obtain ⟨r, hr⟩ : ∃ r, r = Lib.trimRightB (hex14 t) 48 := ⟨_, rfl⟩
      rw [← hr] at HC
      have Hr := hid hr
      have Hf := hid hf
      clear hr hf hrd hb hk hlt
      change Hid (Calls _ _ _ _ fun e w' => e = .returned (.string (txt r)) ∧ w' = wr) at HC
      generalize hs : txt (hex14 t) = s at HC hcv
      clear hs
      generalize hs : txt r = s2 at HC
      have Hs := hid hs
      clear hs
      go_wp2_with (first | (go_at_call 37; refine HC.out.mono ?_; rintro e w2 ⟨rfl, rfl⟩))
      · rename_i hx
        rw [← Hs.out, toList_txt', Hr.out] at hx
        go_ret2
        exact ⟨by rw [digitsT, if_pos (by simpa using hx)]; rfl, Hf.out⟩
      · rename_i hx
        rw [← Hs.out, toList_txt', Hr.out] at hx
        go_ret2
        exact ⟨by rw [digitsT, if_neg (by simpa using hx), ← Hr.out, Hs.out]; rfl, Hf.out⟩
/-- prob.Parse of hexadecimal digits -/
theorem parseGo_take (l : List UInt8) : ∀ (i n k : Nat) (h : k < l.length), parseGo i n (l.take (k + 1)) = (parseGo i n (l.take k) ||| ((Lib.indexByte hexd l[k]).toNat <<< (4 * (13 - (i + k))))) := by
  induction l with
  | nil => intro i n k h; simp at h
  | cons b l ih =>
    intro i n k h
    cases k with
    | zero => simp [parseGo]
    | succ k =>
      rw [List.take_succ_cons, List.take_succ_cons, parseGo, parseGo, ih _ _ k (by simpa using h)]
      simp only [List.getElem_cons_succ]
      rw [show i + 1 + k = i + (k + 1) from by omega]
theorem index_lt (b : UInt8) : Lib.indexByte hexd b < 16 := by
  have : ∀ b : Fin 256, Lib.indexByte hexd (UInt8.ofNat b.val) < 16 := by decide +kernel
  have h := this ⟨b.toNat, b.toNat_lt⟩
  simpa using h
theorem parseGo_lt (l : List UInt8) : ∀ (i n : Nat), i + l.length ≤ 14 → n < 72057594037927936 → parseGo i n l < 72057594037927936 := by
  induction l with
  | nil => intro i n _ h; exact h
  | cons b l ih =>
    intro i n hl hn
    rw [parseGo]
    refine ih _ _ (by simp at hl; omega) ?_
    have hb := index_lt b
    have h1 : (Lib.indexByte hexd b).toNat < 2 ^ 4 := by omega
    have h2 : (Lib.indexByte hexd b).toNat <<< (4 * (13 - i)) < 2 ^ 56 := by
      rw [Nat.shiftLeft_eq]
      calc _ < 2 ^ 4 * 2 ^ (4 * (13 - i)) := Nat.mul_lt_mul_of_pos_right h1 (Nat.two_pow_pos _)
        _ = 2 ^ (4 + 4 * (13 - i)) := by rw [Nat.pow_add]
        _ ≤ 2 ^ 56 := Nat.pow_le_pow_right (by omega) (by omega)
    exact Nat.or_lt_two_pow (n := 56) hn h2
set_option maxRecDepth 20000 in
theorem PParse_any {w : World} {l : List UInt8} (h0 : l ≠ []) (hl : l.length ≤ 14) (hx : l.all (fun c => decide (0 ≤ Lib.indexByte hexd c)) = true) :
    Calls Tryz.prog 47 #[.string (txt l)] w fun e w' => e = .returned (.tuple #[.int .u64 (parseGo 0 0 l : Nat), .int .u16 0]) ∧ w' = w := by
  have h1 : ¬ (txt l).toList = [] := by rw [toList_txt']; exact h0
  have h2 : ¬ ((txt l).size : Int) > 14 := by rw [size_txt]; omega
  have Hx := hid hx
  obtain ⟨n, hn⟩ : ∃ n, n = l.length := ⟨_, rfl⟩
  have hsz : (txt l).size = n := by rw [size_txt, hn]
  have Hn := hid hn
  clear hx h0 hn
  generalize hs : txt l = s at h1 h2 hsz
  have Hs := hid hs
  clear hs
  have hn14 : n ≤ 14 := by omega
  go_enter Tryz.func47, Tryz.ntmps47
  go_wp2
  · rename_i hh
    exfalso
    rcases hh with hh | hh
    · exact h1 (by simpa using hh)
    · rw [← hsz] at hh; omega
  go_loop [4, 16] (fun n' i => ∃ k : Nat, k ≤ n ∧ i = .int .i64 k ∧ n' = .int .u64 (parseGo 0 0 (l.take k) : Nat)) (fun _ i => n - (RowKit.intOf i).toNat)
  case atStart => exact ⟨0, by omega, rfl, rfl⟩
  case round =>
    obtain ⟨k, hk, rfl, rfl⟩ := hrel
    by_cases hlt : k < n
    · have hkl : k < l.length := by rw [← Hn.out]; exact hlt
      have hks : k < s.size := by rw [hsz]; exact hlt
      have hby : s[k] = l[k] := by
        have : ∀ (s : ByteArray) (hs : txt l = s) (h : k < s.size), s[k] = l[k] := by
          rintro s rfl h; rfl
        exact this s Hs.out hks
      have hpos : 0 ≤ Lib.indexByte hexd l[k] := by
        have := List.all_eq_true.1 Hx.out l[k] (List.getElem_mem _)
        simpa using this
      have hlt16 := index_lt l[k]
      obtain ⟨d, hd⟩ : ∃ d : Nat, (d : Int) = Lib.indexByte hexd l[k] := ⟨(Lib.indexByte hexd l[k]).toNat, by omega⟩
      have HC : Hid (Calls Tryz.prog 66 #[.string ⟨#[48, 49, 50, 51, 52, 53, 54, 55, 56, 57, 97, 98, 99, 100, 101, 102]⟩, .int .u8 (l[k].toNat : Int)] w fun e w' => e = .returned (.int .i64 (d : Int)) ∧ w' = w) := by
        have h := Tryz.strings_IndexByte ⟨#[48, 49, 50, 51, 52, 53, 54, 55, 56, 57, 97, 98, 99, 100, 101, 102]⟩ (l[k].toNat : Int) w
        have e : (⟨#[48, 49, 50, 51, 52, 53, 54, 55, 56, 57, 97, 98, 99, 100, 101, 102]⟩ : ByteArray).data.toList = hexd := rfl
        rw [e, show ((l[k].toNat : Int).toNat.toUInt8) = l[k] from by simp, ← hd] at h
        exact hid h
      have hgo := parseGo_take l 0 0 k hkl
      have hlt56 := parseGo_lt (l.take k) 0 0 (by rw [List.length_take]; omega) (by omega)
      rw [← hd, Int.toNat_natCast, Nat.zero_add] at hgo
      obtain ⟨b, hb⟩ : ∃ b, b = l[k].toNat := ⟨_, rfl⟩
      rw [← hb] at HC
      have hby2 : (s[k]).toNat = b := by rw [hby, hb]
      obtain ⟨q, hq⟩ : ∃ q, q = parseGo 0 0 (l.take k) := ⟨_, rfl⟩
      rw [← hq] at hgo hlt56 ⊢
      have hd16 : d < 16 := by omega
      have hdp : ¬ (d : Int) < 0 := by omega
      have hw1 := wrap_u64 d (by omega)
      have hsh : d * 2 ^ (4 * (13 - k)) < 72057594037927936 := by
        calc _ < 2 ^ 4 * 2 ^ (4 * (13 - k)) := Nat.mul_lt_mul_of_pos_right hd16 (Nat.two_pow_pos _)
          _ = 2 ^ (4 + 4 * (13 - k)) := by rw [Nat.pow_add]
          _ ≤ 2 ^ 56 := Nat.pow_le_pow_right (by omega) (by omega)
      obtain ⟨sh, hsh2⟩ : ∃ sh, sh = d * 2 ^ (4 * (13 - k)) := ⟨_, rfl⟩
      have hw2 := shl_u64_w d (4 * (13 - k))
      rw [Nat.mod_eq_of_lt (by omega), ← hsh2] at hw2
      have hor := bits_or_u64 q sh (by omega) (by omega)
      rw [Nat.shiftLeft_eq, ← hsh2] at hgo
      have Hgo := hid hgo
      have Hq := hid hq
      clear hpos hlt16 hd hgo hlt56 hb hby hq hsh hsh2 hkl
      go_wp2_with (first | (go_at_call 66; refine HC.out.mono ?_; rintro e w2 ⟨rfl, rfl⟩))
      go_round
      case rel => exact ⟨k + 1, by omega, by go_num, by rw [Hgo.out]⟩
      case measure => simp [RowKit.intOf]; omega
    · have hkn : k = n := by omega
      subst hkn
      rw [Hn.out, List.take_length]
      rw [← Hn.out]
      go_wp2
      go_ret2
      exact ⟨rfl, rfl⟩
end Go.V
