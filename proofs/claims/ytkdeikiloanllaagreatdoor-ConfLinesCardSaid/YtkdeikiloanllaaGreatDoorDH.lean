/- The law: the walk. -/
import Derived.Test.YtkdeikiloanllaaGreatDoorDG
set_option linter.unusedVariables false
set_option linter.unusedSimpArgs false
namespace Go.V
open Go.RowKit Go.Proofs
attribute [local go_sem ↓] Go.wp_at_zero Go.wp_at_succ

/-- the law's four names -/
def name4 (k : Nat) : List UInt8 := ([[115, 112, 97, 110, 115], [109, 111, 115, 116], [116, 104, 114, 101, 115, 104, 111, 108, 100], [107, 101, 101, 112]] : List (List UInt8)).getD (k % 4) []
theorem name4_cases (k : Nat) : (∃ i, i < 12 ∧ name4 k = setNm.getD i []) ∨ name4 k = thrNm := by
  have h : k % 4 = 0 ∨ k % 4 = 1 ∨ k % 4 = 2 ∨ k % 4 = 3 := by omega
  rcases h with h | h | h | h
  · exact .inl ⟨0, by omega, by unfold name4; rw [h]; rfl⟩
  · exact .inl ⟨11, by omega, by unfold name4; rw [h]; rfl⟩
  · exact .inr (by unfold name4; rw [h]; rfl)
  · exact .inl ⟨3, by omega, by unfold name4; rw [h]; rfl⟩
theorem name4_at (k : Nat) : (#[Value.string ⟨#[115, 112, 97, 110, 115]⟩, .string ⟨#[109, 111, 115, 116]⟩, .string ⟨#[116, 104, 114, 101, 115, 104, 111, 108, 100]⟩, .string ⟨#[107, 101, 101, 112]⟩] : Array Value)[k % 4]? = some (.string (txt (name4 k))) := by
  have h : k % 4 = 0 ∨ k % 4 = 1 ∨ k % 4 = 2 ∨ k % 4 = 3 := by omega
  unfold name4
  rcases h with h | h | h | h <;> rw [h] <;> rfl
theorem name4_len (k : Nat) : (name4 k).length ≤ 9 := by
  have h : k % 4 = 0 ∨ k % 4 = 1 ∨ k % 4 = 2 ∨ k % 4 = 3 := by omega
  unfold name4
  rcases h with h | h | h | h <;> rw [h] <;> decide
theorem ok_append {a b : List UInt8} (h : okLine a) (hb : (10 : UInt8) ∉ b) : okLine (a ++ b) := by
  obtain ⟨h1, c, r, e, h2⟩ := h
  refine ⟨fun q => ?_, c, r ++ b, by rw [e]; rfl, h2⟩
  rcases List.mem_append.1 q with q | q
  · exact h1 q
  · exact hb q
theorem name4_ok (k : Nat) : okLine (name4 k ++ [32]) := by
  have h : k % 4 = 0 ∨ k % 4 = 1 ∨ k % 4 = 2 ∨ k % 4 = 3 := by omega
  unfold name4
  rcases h with h | h | h | h <;> rw [h] <;> exact ⟨by decide, _, _, rfl, by decide⟩
theorem Parse_1 {B : Nat} {w : World} (hE : EnvB B w) (c r wl : List UInt8) (k : Nat) {s nm wd : ByteArray} (hs : s = txt (cfgText c r)) (hn : nm = txt (name4 k)) (hw : wd = txt wl) (hl : wl.length ≤ 30) (h10 : (10 : UInt8) ∉ wl) :
    Calls Tryz.prog 7 #[.string (s ++ nm ++ ⟨#[32]⟩ ++ wd)] w (BadOut w 1 (cfgLines c r).length) := by
  have e : s ++ nm ++ ⟨#[32]⟩ ++ wd = txt (cfgText c r ++ (name4 k ++ 32 :: wl)) := by
    rw [hs, hn, hw, txt_append, show (⟨#[32]⟩ : ByteArray) = txt [32] from rfl, txt_append, txt_append]
    congr 1
    simp
  rw [e]
  have hok : okLine (name4 k ++ 32 :: wl) := by have := ok_append (name4_ok k) h10; rw [List.append_assoc] at this; exact this
  refine Parse_bad hE c r _ (by omega) hok (by have := name4_len k; simp; omega) ?_
  rcases name4_cases k with ⟨i, hi, e⟩ | e
  · rw [e]; exact fails_set B c r hi (by omega)
  · rw [e]; exact fails_thr B c r (by omega)
theorem Parse_2 {B : Nat} {w : World} (hE : EnvB B w) (c r wl : List UInt8) {s wd : ByteArray} (hs : s = txt (cfgText c r)) (hw : wd = txt wl) (hl : wl.length ≤ 30) (h10 : (10 : UInt8) ∉ wl) :
    Calls Tryz.prog 7 #[.string (s ++ ⟨#[114, 117, 108, 101, 32, 110, 111, 116, 104, 105, 110, 103, 32]⟩ ++ wd)] w (BadOut w 31 (cfgLines c r).length) := by
  have e : s ++ ⟨#[114, 117, 108, 101, 32, 110, 111, 116, 104, 105, 110, 103, 32]⟩ ++ wd = txt (cfgText c r ++ ([114, 117, 108, 101, 32, 110, 111, 116, 104, 105, 110, 103, 32] ++ wl)) := by
    rw [hs, hw, show (⟨#[114, 117, 108, 101, 32, 110, 111, 116, 104, 105, 110, 103, 32]⟩ : ByteArray) = txt [114, 117, 108, 101, 32, 110, 111, 116, 104, 105, 110, 103, 32] from rfl, txt_append, txt_append, List.append_assoc]
  rw [e]
  exact Parse_bad hE c r _ (by omega) (ok_append ⟨by decide, _, _, rfl, by decide⟩ h10) (by simp; omega) (fails_rule B _ (by omega))
theorem Parse_3 {B : Nat} {w : World} (hE : EnvB B w) (c r wl : List UInt8) {s wd : ByteArray} (hs : s = txt (cfgText c r)) (hw : wd = txt wl) (hl : wl.length ≤ 30) (h10 : (10 : UInt8) ∉ wl) :
    Calls Tryz.prog 7 #[.string (s ++ ⟨#[64]⟩ ++ wd)] w (BadOut w 50 (cfgLines c r).length) := by
  have e : s ++ ⟨#[64]⟩ ++ wd = txt (cfgText c r ++ (64 :: wl)) := by
    rw [hs, hw, show (⟨#[64]⟩ : ByteArray) = txt [64] from rfl, txt_append, txt_append, List.append_assoc]
    rfl
  rw [e]
  exact Parse_bad hE c r _ (by omega) (ok_append (a := [64]) ⟨by decide, _, _, rfl, by decide⟩ h10) (by simp; omega) (fails_at B _ (by omega))
def NoNl (wl : List UInt8) (j : Nat) : Prop := ∀ i, i < j → ∀ h : i < wl.length, wl[i] ≠ 10
theorem count_take {l : List UInt8} {j : Nat} (h : j < l.length) : (l.take (j + 1)).count 10 = (l.take j).count 10 + if l[j] = 10 then 1 else 0 := by
  rw [List.take_succ_eq_append_getElem h, List.count_append, List.count_singleton]
  simp
theorem txt_at {l : List UInt8} {j : Nat} (h : j < (txt l).size) : (txt l)[j]'h = l[j]'h := rfl
theorem byte_ne {b : UInt8} (h : b ≠ 10) : ((b.toNat : Int) == 10) = false := by
  simp
  intro q
  exact h (UInt8.toNat_inj.1 (by show b.toNat = 10; omega))
theorem NoNl_step {wl : List UInt8} {j : Nat} (h : NoNl wl j) (hj : j < wl.length) (hn : wl[j] ≠ 10) : NoNl wl (j + 1) := by
  intro i hi hl
  by_cases e : i = j
  · subst e; exact hn
  · exact h i (by omega) hl
theorem NoNl_all {wl : List UInt8} (h : NoNl wl wl.length) : (10 : UInt8) ∉ wl := by
  intro q
  obtain ⟨i, hi, e⟩ := List.getElem_of_mem q
  exact h i hi hi e
set_option maxRecDepth 20000 in
set_option maxHeartbeats 4000000 in
theorem ConfLines_any {B k : Nat} {w : World} {S1 S2 : Nat → Prop} {v1 v2 : Value} {c r : List UInt8} {wd : ByteArray} (hE : EnvB B w) (h1 : RdB S1 w v1 c) (h2 : RdB S2 w v2 r) (hk : k < 256) (hwd : wd.size ≤ 9223372036854775807) :
    Calls Tryz.prog 3 #[v1, v2, .int .u8 (k : Int), .string wd] w fun e w' => e = .returned (.bool true) ∧ Frm None' w w' := by
  have HE := hid hE
  have HC := hid (Conf_any h1 h2)
  obtain ⟨s, hs⟩ : ∃ s, s = txt (cfgText c r) := ⟨_, rfl⟩
  have hsz : s.size ≤ 1000 := by rw [hs, size_txt]; exact cfgText_len c r
  have HP := fun (W : World) (S : Nat → Prop) (v : Value) (q1 : EnvB B W) (q2 : RulesRd S W v (rowsOf r)) => hid (Print_any (ns := nsOf c) (T := top (dAt c 3)) q1 q2 (confOk_of c r) (fun i hi => by have := nsOf_lt c i hi; omega) (by have := cfgText_len c r; rw [← cfgText_pre] at this; exact Nat.le_trans this (by omega)))
  rw [cfgText_pre, ← hs] at HP
  have HK := fun (W : World) (f : Frm None' w W) => hid (known_any (hE.none f))
  have Hs := hid hs
  clear hE h1 h2 hs
  by_cases hl : (30 : Int) < (wd.size : Int)
  · go_enter Tryz.func3, Tryz.ntmps3
    go_wp2_with (first
      | (go_at_call 5; ((with_reducible refine HC.out.mono ?_); rintro e w1 ⟨v, rfl, r1, f1⟩; have R1 := hid r1; have F1 := hid f1; clear r1 f1))
      | (go_at_call 4; ((with_reducible refine (HP _ _ _ (HE.out.none F1.out) R1.out).out.mono ?_); rintro e w2 ⟨rfl, f2⟩; have F2 := hid (F1.out.trans f2 (fun _ _ q => q)); clear f2))
      | (go_at_call 6; ((with_reducible refine (HK _ F2.out).out.mono ?_); rintro e w3 ⟨rfl, f3⟩; have F3 := hid (F2.out.trans f3 (fun _ _ q => q)); clear f3)))
    go_ret
    exact ⟨rfl, F3.out⟩
  · obtain ⟨wl, hwl⟩ : ∃ wl : List UInt8, wl = wd.data.toList := ⟨_, rfl⟩
    have hwl2 : wd = txt wl := by rw [hwl]; rfl
    have hn : wl.length = wd.size := by rw [hwl]; exact Array.length_toList
    obtain ⟨n, hnn⟩ : ∃ n, n = wd.size := ⟨_, rfl⟩
    have HW := hid (And.intro hwl2 (And.intro hn hnn))
    clear hwl hwl2 hn hnn
    go_enter Tryz.func3, Tryz.ntmps3
    go_wp2_with (first
      | (go_at_call 5; ((with_reducible refine HC.out.mono ?_); rintro e w1 ⟨v, rfl, r1, f1⟩; have R1 := hid r1; have F1 := hid f1; clear r1 f1))
      | (go_at_call 4; ((with_reducible refine (HP _ _ _ (HE.out.none F1.out) R1.out).out.mono ?_); rintro e w2 ⟨rfl, f2⟩; have F2 := hid (F1.out.trans f2 (fun _ _ q => q)); clear f2)))
    go_loop [11] (fun i => ∃ j : Nat, j ≤ wd.size ∧ i = .int .i64 j ∧ NoNl wl j) (fun i => wd.size - (RowKit.intOf i).toNat)
    case atStart => exact ⟨0, by omega, rfl, fun i hi => by omega⟩
    case round =>
      obtain ⟨j, hj, rfl, hno⟩ := hrel
      have HNo := hid hno
      clear hno
      by_cases hlt : j < wd.size
      · have hjl : j < wl.length := by rw [HW.out.2.1]; exact hlt
        have hbj : wd[j] = wl[j] := by
          have e := HW.out.1
          subst e
          rfl
        by_cases h10 : wl[j] = 10
        · have t1 : ((wd[j].toNat : Int) == 10) = true := by rw [hbj, h10]; rfl
          clear h10 hbj
          go_wp2_with (first
            | (go_at_call 6; ((with_reducible refine (HK _ F2.out).out.mono ?_); rintro e w3 ⟨rfl, f3⟩; have F3 := hid (F2.out.trans f3 (fun _ _ q => q)); clear f3)))
          go_ret
          exact ⟨rfl, F3.out⟩
        · have t1 : ((wd[j].toNat : Int) == 10) = false := by rw [hbj]; exact byte_ne h10
          have HN := hid (NoNl_step HNo.out hjl h10)
          clear h10 hbj
          go_wp2
          go_round
          case rel => exact ⟨j + 1, by omega, by go_num, HN.out⟩
          case measure => simp [RowKit.intOf]; omega
      · have hjn : j = wd.size := by omega
        have hnl : (10 : UInt8) ∉ wl := NoNl_all (by rw [HW.out.2.1, ← hjn]; exact HNo.out)
        have Hnl := hid hnl
        have Hjn := hid hjn
        clear hnl hjn
        obtain ⟨T, hT⟩ : ∃ T, T = cfgText c r := ⟨_, rfl⟩
        have HT := hid hT
        have hsT : s = txt T := by rw [hT]; exact Hs.out
        have hTl : T.length = s.size := by rw [hsT]; rfl
        have HsT := hid hsT
        have HTl := hid hTl
        clear hT hsT hTl
        go_wp2
        go_loop [12, 13] (fun cn i => ∃ q : Nat, q ≤ s.size ∧ i = .int .i64 q ∧ cn = .int .i64 ((T.take q).count 10 : Nat)) (fun _ i => s.size - (RowKit.intOf i).toNat)
        case atStart => exact ⟨0, by omega, rfl, rfl⟩
        case round =>
          obtain ⟨q, hq, rfl, rfl⟩ := hrel
          have hcq : (T.take q).count 10 ≤ q := Nat.le_trans List.count_le_length (List.length_take_le _ _)
          by_cases hqs : q < s.size
          · have hqT : q < T.length := by rw [HTl.out]; exact hqs
            have hbq : s[q] = T[q] := by
              have e := HsT.out
              subst e
              rfl
            have hct := count_take hqT
            by_cases h10 : T[q] = 10
            · have t1 : ((s[q].toNat : Int) == 10) = true := by rw [hbq, h10]; rfl
              rw [if_pos h10] at hct
              have Hct := hid hct
              generalize (T.take q).count 10 = cq at *
              clear h10 hbq hct
              go_wp2
              go_round
              case rel => exact ⟨q + 1, by omega, by go_num, by rw [Hct.out]; go_num⟩
              case measure => simp [RowKit.intOf]; omega
            · have t1 : ((s[q].toNat : Int) == 10) = false := by rw [hbq]; exact byte_ne h10
              rw [if_neg h10] at hct
              have Hct := hid hct
              generalize (T.take q).count 10 = cq at *
              clear h10 hbq hct
              go_wp2
              go_round
              case rel => exact ⟨q + 1, by omega, by go_num, by rw [Hct.out]; go_num⟩
              case measure => simp [RowKit.intOf]; omega
          · have hqe : q = s.size := by omega
            have hcn : (T.take q).count 10 = (cfgLines c r).length := by
              rw [hqe, ← HTl.out, List.take_length, HT.out]; exact cfg_count c r
            have hl20 := cfg_len c r
            rw [← hcn] at hl20
            have HcN := hid hcn
            have Hqe := hid hqe
            generalize (T.take q).count 10 = N at *
            clear hcn hqe
            have k4 : (k : Int) % 4 < 4 := by omega
            have k5 : (0 : Int) ≤ (k : Int) % 4 := by omega
            have k6 : ((k : Int) % 4).toNat = k % 4 := by omega
            have hn4 := name4_at k
            have hnml : (txt (name4 k)).size ≤ 9 := by rw [size_txt]; exact name4_len k
            obtain ⟨nm, hnm⟩ : ∃ nm, nm = txt (name4 k) := ⟨_, rfl⟩
            rw [← hnm] at hn4 hnml
            have Hnm := hid hnm
            clear hnm
            have hwl30 : wl.length ≤ 30 := by rw [HW.out.2.1]; omega
            have HP1 := fun (W : World) (f : Frm None' w W) => hid (Parse_1 (HE.out.none f) c r wl k Hs.out Hnm.out HW.out.1 hwl30 Hnl.out)
            have HP2 := fun (W : World) (f : Frm None' w W) => hid (Parse_2 (HE.out.none f) c r wl Hs.out HW.out.1 hwl30 Hnl.out)
            have HP3 := fun (W : World) (f : Frm None' w W) => hid (Parse_3 (HE.out.none f) c r wl Hs.out HW.out.1 hwl30 Hnl.out)
            rw [← HcN.out] at HP1 HP2 HP3
            clear hwl30
            go_wp2_with (first
              | (go_at_call 7; ((with_reducible refine (HP1 _ (F2.out.alloc _)).out.mono ?_); rintro e w3 ⟨rfl, f3⟩; have F3 := hid ((F2.out.alloc _).trans f3 (fun _ _ q => q)); clear f3))
              | (go_at_call 7; ((with_reducible refine (HP2 _ (F3.out.alloc _)).out.mono ?_); rintro e w4 ⟨rfl, f4⟩; have F4 := hid ((F3.out.alloc _).trans f4 (fun _ _ q => q)); clear f4))
              | (go_at_call 7; ((with_reducible refine (HP3 _ (F4.out.alloc _)).out.mono ?_); rintro e w5 ⟨rfl, f5⟩; have F5 := hid ((F4.out.alloc _).trans f5 (fun _ _ q => q)); clear f5))
              | (go_at_call 6; ((with_reducible refine (HK _ (F5.out.alloc _)).out.mono ?_); rintro e w6 ⟨rfl, f6⟩; have F6 := hid ((F5.out.alloc _).trans f6 (fun _ _ q => q)); clear f6)))
            go_ret
            exact ⟨rfl, F6.out⟩
end Go.V
