/- What may be a word, a rule; whether a configuration is right. -/
import Derived.Test.YtkdeikiloanllaaGreatDoorC1
set_option linter.unusedVariables false
set_option linter.unusedSimpArgs false
namespace Go.V
open Go.RowKit Go.Proofs

def enc8 (b : UInt8) : Value := .int .u8 (b.toNat : Int)
theorem wordOdd_at (w : World) : PredAt Tryz.prog 68 #[] enc8 (fun b => decide (b.toNat < 33) || decide (126 < b.toNat)) w := fun W b _ => by
  unfold FnGives
  by_cases h1 : b.toNat < 33 <;> by_cases h2 : 126 < b.toNat
  all_goals
    have z1 : ((b.toNat : Int) < 33) ↔ b.toNat < 33 := by omega
    have z2 : ((b.toNat : Int) > 126) ↔ 126 < b.toNat := by omega
    unfold enc8
    go_enter Tryz.func68, Tryz.ntmps68
    go_wp2
    all_goals first | (exfalso; omega) | (go_ret; exact ⟨by simp [h1, h2], 0, rfl⟩)
/-- a word: no odd byte, not empty, not "&", short -/
def isWord (l : List UInt8) : Bool := l != [] && l != [38] && decide (l.length ≤ 60) && l.all plain
theorem txt_inj {a b : List UInt8} : txt a = txt b ↔ a = b := by
  constructor
  · intro h
    have := congrArg (·.data.toList) h
    exact this
  · rintro rfl; rfl
theorem toList_txt' (l : List UInt8) : (txt l).toList = l := by rw [ByteArray.toList_eq]; rfl
theorem any_plain {l : List UInt8} (h : l.all plain = true) : l.any (fun b => decide (b.toNat < 33) || decide (126 < b.toNat)) = false := by
  rw [List.any_eq_false]
  intro b hb
  have := List.all_eq_true.1 h b hb
  simp [plain] at this ⊢
  omega
set_option maxRecDepth 20000 in
theorem word_any {w : World} {l : List UInt8} (h : isWord l = true) :
    Calls Tryz.prog 50 #[.string (txt l)] w fun e w' => e = .returned (.bool true) ∧ Frm None' w w' := by
  have hw := h
  simp only [isWord, Bool.and_eq_true, bne_iff_ne, ne_eq, decide_eq_true_eq] at hw
  obtain ⟨⟨⟨h1, h2⟩, h3⟩, h4⟩ := hw
  clear h
  have HH := hid (And.intro h1 (And.intro h2 (And.intro h3 h4)))
  clear h1 h2 h3 h4
  generalize hs : txt l = s
  have HS := hid hs
  clear hs
  have e69 := enters_of Tryz.func69 (by kernel_rfl) rfl
  have hC := AnyE.slices_ContainsFunc Tryz.lixB enc8 (fun b => decide (b.toNat < 33) || decide (126 < b.toNat)) 68 #[] (enters_of Tryz.func68 (by kernel_rfl) rfl) w.heap.size 0 s.size (grownCap w s.size 0 5) s.data.toList (Lib.bytesWorld w 5 s) (wordOdd_at _) (by rw [← HS.out]; exact Nat.le_refl _) (by rw [← HS.out, size_txt]; have := HH.out.2.2.1; omega) (fun j hj => by
    have hj' : j < s.size := hj
    rw [Nat.zero_add, Lib.bytesWorld_cell _ _ _ _ hj']
    simp [enc8, List.getD, hj, getElem!_pos]
    rfl)
  have hb : (s.data.toList.take s.size).any (fun b => decide (b.toNat < 33) || decide (126 < b.toNat)) = false := by
    rw [← HS.out, size_txt, toList_txt, List.take_of_length_le (Nat.le_refl _)]
    exact any_plain HH.out.2.2.2
  rw [hb] at hC
  change Calls _ 69 _ _ _ at hC
  have HC := hid hC
  clear hC hb
  have hcv := Lib.run_convert_string_bytes (P := Tryz.prog) w 9 22 5 s Tryz.underlying9 Tryz.underlying22 Tryz.underlying5
  go_enter Tryz.func50, Tryz.ntmps50
  go_wp2_with (first | (go_at_call 69; refine HC.out.mono ?_; rintro e w' ⟨rfl, q, rfl⟩))
  · rename_i hx
    rw [← HS.out, toList_txt'] at hx
    exact absurd hx HH.out.1
  · rename_i hx
    rw [← HS.out, toList_txt'] at hx
    exact absurd hx HH.out.2.1
  · go_ret
    refine ⟨?_, (Frm.of_below (bytesBelow _ _ _)).drewN _⟩
    show Ending.returned (Value.bool (!s.toList.isEmpty && !s.toList == [38])) = _
    rw [← HS.out, toList_txt']
    simp [HH.out.1, HH.out.2.1]
  · rename_i hx
    rw [← HS.out, size_txt] at hx
    have := HH.out.2.2.1
    omega
/-- conf.odd: a rule with no text -/
def ruleOk (r : PR) : Bool :=
  if r.kind = 1 ∨ r.kind = 4 then decide (r.a < 300) && r.key == [] && r.val == []
  else if r.kind = 2 then r.a == 0 && r.key == [] && r.val == []
  else if r.kind = 3 then r.a == 0 && isWord r.key && isWord r.val
  else r.kind == 5 && decide (r.a < 72057594037927936) && r.key == [] && r.val == []
set_option maxRecDepth 20000 in
set_option maxHeartbeats 2000000 in
theorem odd_any {w : World} {r : PR} (h : ruleOk r = true) :
    Calls Tryz.prog 22 #[.agg r.cells.toArray] w fun e w' => e = .returned (.bool false) ∧ Frm None' w w' := by
  obtain ⟨k, a, key, val⟩ := r
  unfold ruleOk at h
  simp only at h
  split at h
  · rename_i hk
    simp only [Bool.and_eq_true, beq_iff_eq, decide_eq_true_eq] at h
    obtain ⟨⟨h1, h2⟩, h3⟩ := h
    have hq : ¬ (1000000000000000 : Int) ≤ (a : Int) := by omega
    show Calls _ _ #[.agg #[.int .u8 (k : Int), .int .i64 (a : Int), .string (txt key), .string (txt val)]] _ _
    generalize txt key = kk
    generalize txt val = vv
    rcases hk with rfl | rfl
    · go_enter Tryz.func22, Tryz.ntmps22
      go_wp2
      go_ret
      exact ⟨rfl, (Frm.refl _ _).alloc _⟩
    · go_enter Tryz.func22, Tryz.ntmps22
      go_wp2
      go_ret
      exact ⟨rfl, (Frm.refl _ _).alloc _⟩
  · split at h
    · rename_i _ hk
      subst hk
      show Calls _ _ #[.agg #[.int .u8 ((2 : Nat) : Int), .int .i64 (a : Int), .string (txt key), .string (txt val)]] _ _
      generalize txt key = kk
      generalize txt val = vv
      clear h
      go_enter Tryz.func22, Tryz.ntmps22
      go_wp2
      go_ret
      exact ⟨rfl, (Frm.refl _ _).alloc _⟩
    · split at h
      · rename_i _ _ hk
        subst hk
        simp only [Bool.and_eq_true, beq_iff_eq] at h
        obtain ⟨⟨h1, h2⟩, h3⟩ := h
        have hc : ∀ W x, (x = txt key ∨ x = txt val) → Hid (Calls Tryz.prog 50 #[.string x] W fun e w' => e = .returned (.bool true) ∧ Frm None' W w') := by
          rintro W x (rfl | rfl)
          · exact hid (word_any h2)
          · exact hid (word_any h3)
        clear h2 h3
        show Calls _ _ #[.agg #[.int .u8 ((3 : Nat) : Int), .int .i64 (a : Int), .string (txt key), .string (txt val)]] _ _
        generalize txt key = kk at hc ⊢
        generalize txt val = vv at hc ⊢
        have hk := fun W => (hc W kk (.inl rfl))
        have hv := fun W => (hc W vv (.inr rfl))
        clear hc
        go_enter Tryz.func22, Tryz.ntmps22
        go_wp2_with (first
          | (go_at_call 50; with_reducible refine (hk _).out.mono ?_; rintro e w1 ⟨rfl, f1⟩; have F1 := hid f1; have c1 := cell_of (Frm.heap f1 (heap_alloc_at (w := w)) (fun q => q)); clear f1)
          | (go_at_call 50; with_reducible refine (hv _).out.mono ?_; rintro e w2 ⟨rfl, f2⟩; have F2 := hid f2; clear f2))
        go_ret
        exact ⟨rfl, ((Frm.refl _ _).alloc _).trans (F1.out.trans F2.out (fun _ _ q => q)) (fun _ _ q => q)⟩
      · rename_i h1 h2 h3
        simp only [Bool.and_eq_true, beq_iff_eq, decide_eq_true_eq] at h
        obtain ⟨⟨⟨hk, ha⟩, _⟩, _⟩ := h
        subst hk
        have hq : ¬ (72057594037927936 : Int) ≤ (a : Int) := by omega
        clear h1 h2 h3 ha
        show Calls _ _ #[.agg #[.int .u8 ((5 : Nat) : Int), .int .i64 (a : Int), .string (txt key), .string (txt val)]] _ _
        generalize txt key = kk
        generalize txt val = vv
        go_enter Tryz.func22, Tryz.ntmps22
        go_wp2
        go_ret
        exact ⟨rfl, (Frm.refl _ _).alloc _⟩
set_option maxRecDepth 20000 in
set_option maxHeartbeats 2000000 in
/-- policy.odd -/
theorem podd_any {w : World} {r : PR} (h : ruleOk r = true) :
    Calls Tryz.prog 51 #[.agg r.cells.toArray] w fun e w' => e = .returned (.bool false) ∧ Frm None' w w' := by
  obtain ⟨k, a, key, val⟩ := r
  unfold ruleOk at h
  simp only at h
  split at h
  · rename_i hk
    simp only [Bool.and_eq_true, beq_iff_eq, decide_eq_true_eq] at h
    obtain ⟨⟨h1, rfl⟩, rfl⟩ := h
    have hq : ¬ (a : Int) < 0 := by omega
    show Calls _ _ #[.agg #[.int .u8 (k : Int), .int .i64 (a : Int), .string ⟨#[]⟩, .string ⟨#[]⟩]] _ _
    rcases hk with rfl | rfl
    · go_enter Tryz.func51, Tryz.ntmps51
      go_wp2
      go_ret
      exact ⟨rfl, (Frm.refl _ _).alloc _⟩
    · go_enter Tryz.func51, Tryz.ntmps51
      go_wp2
      go_ret
      exact ⟨rfl, (Frm.refl _ _).alloc _⟩
  · split at h
    · rename_i _ hk
      subst hk
      simp only [Bool.and_eq_true, beq_iff_eq, decide_eq_true_eq] at h
      obtain ⟨⟨rfl, rfl⟩, rfl⟩ := h
      show Calls _ _ #[.agg #[.int .u8 ((2 : Nat) : Int), .int .i64 0, .string ⟨#[]⟩, .string ⟨#[]⟩]] _ _
      go_enter Tryz.func51, Tryz.ntmps51
      go_wp2
      go_ret
      exact ⟨rfl, (Frm.refl _ _).alloc _⟩
    · split at h
      · rename_i _ _ hk
        subst hk
        simp only [Bool.and_eq_true, beq_iff_eq] at h
        obtain ⟨⟨rfl, h2⟩, h3⟩ := h
        simp only [isWord, Bool.and_eq_true, bne_iff_ne, ne_eq, decide_eq_true_eq] at h2 h3
        obtain ⟨⟨⟨k1, _⟩, k3⟩, _⟩ := h2
        obtain ⟨⟨⟨v1, _⟩, v3⟩, _⟩ := h3
        have K1 : ¬ (txt key).toList = [] := by rw [toList_txt']; exact k1
        have K2 : (txt key).size ≤ 60 := k3
        have K3 : (txt val).size ≤ 60 := v3
        show Calls _ _ #[.agg #[.int .u8 ((3 : Nat) : Int), .int .i64 0, .string (txt key), .string (txt val)]] _ _
        generalize txt key = kk at K1 K2 ⊢
        generalize txt val = vv at K3 ⊢
        clear k1 k3 v1 v3
        go_enter Tryz.func51, Tryz.ntmps51
        go_wp2
        go_ret
        refine ⟨?_, (Frm.refl _ _).alloc _⟩
        show Ending.returned (Value.bool (kk.toList.isEmpty || decide (60 < max (kk.size : Int) (vv.size : Int)))) = _
        have m1 : ¬ 60 < max (kk.size : Int) (vv.size : Int) := by omega
        simp [K1, m1]
      · rename_i h1 h2 h3
        simp only [Bool.and_eq_true, beq_iff_eq, decide_eq_true_eq] at h
        obtain ⟨⟨⟨hk, ha⟩, rfl⟩, rfl⟩ := h
        subst hk
        have hq : ¬ (a : Int) > 72057594037927936 := by omega
        have hq2 : ¬ (a : Int) < 0 := by omega
        clear h1 h2 h3 ha
        show Calls _ _ #[.agg #[.int .u8 ((5 : Nat) : Int), .int .i64 (a : Int), .string ⟨#[]⟩, .string ⟨#[]⟩]] _ _
        go_enter Tryz.func51, Tryz.ntmps51
        go_wp2
        go_ret
        exact ⟨rfl, (Frm.refl _ _).alloc _⟩
end Go.V
