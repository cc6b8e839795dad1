/- A rule as a text; a line written into a Builder. -/
import Derived.Test.YtkdeikiloanllaaGreatDoorC5
set_option linter.unusedVariables false
set_option linter.unusedSimpArgs false
namespace Go.V
open Go.RowKit Go.Proofs

/-- a rule's words -/
def ruleWords (r : PR) : List (List UInt8) :=
  if r.kind = 1 then [[115, 108, 111, 119], dec r.a]
  else if r.kind = 2 then [[98, 97, 100]]
  else if r.kind = 3 then [[104, 97, 115], r.key, r.val]
  else if r.kind = 4 then [[109, 97, 110, 121], dec r.a]
  else [[115, 104, 97, 114, 101], digitsT r.a]
theorem EnvB.none {B : Nat} {w w' : World} (h : EnvB B w) (hf : Frm None' w w') : EnvB B w' := h.frm hf (fun _ _ q => q.elim)
theorem txt_append (a b : List UInt8) : txt a ++ txt b = txt (a ++ b) := by
  apply ByteArray.ext
  rw [ByteArray.data_append]
  simp [txt]
theorem digitsT_len (t : Nat) : (digitsT t).length ≤ 14 := by
  unfold digitsT
  split
  · simp
  · unfold Lib.trimRightB
    rw [List.length_reverse]
    have := (List.dropWhile_sublist (p := (· == (48 : UInt8))) (l := (hex14 t).reverse)).length_le
    rw [List.length_reverse, hex14_len] at this
    exact this
set_option maxRecDepth 20000 in
set_option maxHeartbeats 1000000 in
theorem written_any {B : Nat} {w : World} (hE : EnvB B w) {r : PR} (h : ruleOk r = true) :
    Calls Tryz.prog 12 #[.agg r.cells.toArray] w fun e w' => e = .returned (.string (txt (joinc 32 (ruleWords r)))) ∧ Frm None' w w' := by
  obtain ⟨k, a, key, val⟩ := r
  unfold ruleOk at h
  simp only at h
  split at h
  · rename_i hk
    simp only [Bool.and_eq_true, beq_iff_eq, decide_eq_true_eq] at h
    obtain ⟨⟨h1, h2⟩, h3⟩ := h
    have HC := fun W (f : Frm None' w W) => hid (Itoa_any (hE.none f) (n := a) (by omega))
    have hf : ∀ o, Frm None' w (w.alloc o) := fun o => (Frm.refl _ _).alloc _
    show Calls _ _ #[.agg #[.int .u8 (k : Int), .int .i64 (a : Int), .string (txt key), .string (txt val)]] _ _
    generalize txt key = kk
    generalize txt val = vv
    obtain ⟨s2, hs2⟩ : ∃ s2, s2 = txt (dec a) := ⟨_, rfl⟩
    rw [← hs2] at HC
    have hz2 : s2.size < 1000 := by rw [hs2, size_txt]; have := dec_facts ⟨a, h1⟩; have := this.2.1; simp only at this; omega
    rcases hk with rfl | rfl
    · have hres : (⟨#[115, 108, 111, 119, 32]⟩ : ByteArray) ++ s2 = txt (joinc 32 (ruleWords ⟨1, a, key, val⟩)) := by rw [hs2]; exact txt_append [115, 108, 111, 119, 32] (dec a)
      have Hres := hid hres
      clear hs2 hres h1 h2 h3 hE
      go_enter Tryz.func12, Tryz.ntmps12
      go_wp2_with (first | (go_at_call 14; refine (HC _ (hf _)).out.mono ?_; rintro e w2 ⟨rfl, f2⟩; have F2 := hid f2; clear f2))
      go_ret
      exact ⟨by rw [← Hres.out]; rfl, ((Frm.refl _ _).alloc _).trans F2.out (fun _ _ q => q)⟩
    · have hres : (⟨#[109, 97, 110, 121, 32]⟩ : ByteArray) ++ s2 = txt (joinc 32 (ruleWords ⟨4, a, key, val⟩)) := by rw [hs2]; exact txt_append [109, 97, 110, 121, 32] (dec a)
      have Hres := hid hres
      clear hs2 hres h1 h2 h3 hE
      go_enter Tryz.func12, Tryz.ntmps12
      go_wp2_with (first | (go_at_call 14; refine (HC _ (hf _)).out.mono ?_; rintro e w2 ⟨rfl, f2⟩; have F2 := hid f2; clear f2))
      go_ret
      exact ⟨by rw [← Hres.out]; rfl, ((Frm.refl _ _).alloc _).trans F2.out (fun _ _ q => q)⟩
  · split at h
    · rename_i _ hk
      subst hk
      show Calls _ _ #[.agg #[.int .u8 ((2 : Nat) : Int), .int .i64 (a : Int), .string (txt key), .string (txt val)]] _ _
      generalize txt key = kk
      generalize txt val = vv
      clear h
      go_enter Tryz.func12, Tryz.ntmps12
      go_wp2
      go_ret
      exact ⟨rfl, (Frm.refl _ _).alloc _⟩
    · split at h
      · rename_i _ _ hk
        subst hk
        have hres : (((⟨#[104, 97, 115, 32]⟩ : ByteArray) ++ txt key) ++ ⟨#[32]⟩) ++ txt val = txt (joinc 32 (ruleWords ⟨3, a, key, val⟩)) := by
          have e1 := txt_append [104, 97, 115, 32] key
          have e2 := txt_append ([104, 97, 115, 32] ++ key) [32]
          have e3 := txt_append ([104, 97, 115, 32] ++ key ++ [32]) val
          rw [← e2, ← e1] at e3
          refine e3.trans ?_
          congr 1
          simp [ruleWords, joinc]
        have Hres := hid hres
        simp only [Bool.and_eq_true, beq_iff_eq] at h
        obtain ⟨⟨_, hk2⟩, hv2⟩ := h
        simp only [isWord, Bool.and_eq_true, bne_iff_ne, ne_eq, decide_eq_true_eq] at hk2 hv2
        have zk : (txt key).size < 1000 := by rw [size_txt]; omega
        have zv : (txt val).size < 1000 := by rw [size_txt]; omega
        clear hk2 hv2
        show Calls _ _ #[.agg #[.int .u8 ((3 : Nat) : Int), .int .i64 (a : Int), .string (txt key), .string (txt val)]] _ _
        generalize txt key = kk at Hres zk ⊢
        generalize txt val = vv at Hres zv ⊢
        clear hres
        go_enter Tryz.func12, Tryz.ntmps12
        go_wp2
        go_ret
        exact ⟨by rw [← Hres.out]; rfl, (Frm.refl _ _).alloc _⟩
      · rename_i h1 h2 h3
        simp only [Bool.and_eq_true, beq_iff_eq, decide_eq_true_eq] at h
        obtain ⟨⟨⟨hk, ha⟩, _⟩, _⟩ := h
        subst hk
        have HC := fun W => hid (Digits_any (w := W) ha)
        have hw1 := wrap_u64 a (by omega)
        clear h1 h2 h3 ha
        obtain ⟨s2, hs2⟩ : ∃ s2, s2 = txt (digitsT a) := ⟨_, rfl⟩
        rw [← hs2] at HC
        have hz2 : s2.size < 1000 := by rw [hs2, size_txt]; have := digitsT_len a; omega
        have hres : (⟨#[115, 104, 97, 114, 101, 32]⟩ : ByteArray) ++ s2 = txt (joinc 32 (ruleWords ⟨5, a, key, val⟩)) := by rw [hs2]; exact txt_append [115, 104, 97, 114, 101, 32] (digitsT a)
        have Hres := hid hres
        clear hs2 hres
        show Calls _ _ #[.agg #[.int .u8 ((5 : Nat) : Int), .int .i64 (a : Int), .string (txt key), .string (txt val)]] _ _
        generalize txt key = kk
        generalize txt val = vv
        go_enter Tryz.func12, Tryz.ntmps12
        go_wp2_with (first | (go_at_call 10; refine (HC _).out.mono ?_; rintro e w2 ⟨rfl, f2⟩; have F2 := hid f2; clear f2))
        go_ret
        exact ⟨by rw [← Hres.out]; rfl, ((Frm.refl _ _).alloc _).trans F2.out (fun _ _ q => q)⟩
end Go.V
