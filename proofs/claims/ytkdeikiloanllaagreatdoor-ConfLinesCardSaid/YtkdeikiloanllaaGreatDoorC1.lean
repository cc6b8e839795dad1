/- The settings of a configuration: their list, where each number lies. -/
import Derived.Test.YtkdeikiloanllaaGreatDoorC0
set_option linter.unusedVariables false
set_option linter.unusedSimpArgs false
namespace Go.V
open Go.RowKit Go.Proofs
theorem set_of_0 (b o : Nat) (w : World) : Calls Tryz.prog 25 #[.pointer (some ⟨b, o, none⟩)] w fun e w' => e = .returned (.pointer (some ⟨b, o + 0, none⟩)) ∧ w' = w := by
  go_enter Tryz.func25, Tryz.ntmps25
  go_wp2
  go_ret
  exact ⟨by first | rfl | simp [Addr.add_lit], rfl⟩
theorem set_of_1 (b o : Nat) (w : World) : Calls Tryz.prog 26 #[.pointer (some ⟨b, o, none⟩)] w fun e w' => e = .returned (.pointer (some ⟨b, o + 1, none⟩)) ∧ w' = w := by
  go_enter Tryz.func26, Tryz.ntmps26
  go_wp2
  go_ret
  exact ⟨by first | rfl | simp [Addr.add_lit], rfl⟩
theorem set_of_2 (b o : Nat) (w : World) : Calls Tryz.prog 27 #[.pointer (some ⟨b, o, none⟩)] w fun e w' => e = .returned (.pointer (some ⟨b, o + 2, none⟩)) ∧ w' = w := by
  go_enter Tryz.func27, Tryz.ntmps27
  go_wp2
  go_ret
  exact ⟨by first | rfl | simp [Addr.add_lit], rfl⟩
theorem set_of_3 (b o : Nat) (w : World) : Calls Tryz.prog 28 #[.pointer (some ⟨b, o, none⟩)] w fun e w' => e = .returned (.pointer (some ⟨b, o + 5, none⟩)) ∧ w' = w := by
  go_enter Tryz.func28, Tryz.ntmps28
  go_wp2
  go_ret
  exact ⟨by first | rfl | simp [Addr.add_lit], rfl⟩
theorem set_of_4 (b o : Nat) (w : World) : Calls Tryz.prog 29 #[.pointer (some ⟨b, o, none⟩)] w fun e w' => e = .returned (.pointer (some ⟨b, o + 6, none⟩)) ∧ w' = w := by
  go_enter Tryz.func29, Tryz.ntmps29
  go_wp2
  go_ret
  exact ⟨by first | rfl | simp [Addr.add_lit], rfl⟩
theorem set_of_5 (b o : Nat) (w : World) : Calls Tryz.prog 30 #[.pointer (some ⟨b, o, none⟩)] w fun e w' => e = .returned (.pointer (some ⟨b, o + 7, none⟩)) ∧ w' = w := by
  go_enter Tryz.func30, Tryz.ntmps30
  go_wp2
  go_ret
  exact ⟨by first | rfl | simp [Addr.add_lit], rfl⟩
theorem set_of_6 (b o : Nat) (w : World) : Calls Tryz.prog 31 #[.pointer (some ⟨b, o, none⟩)] w fun e w' => e = .returned (.pointer (some ⟨b, o + 8, none⟩)) ∧ w' = w := by
  go_enter Tryz.func31, Tryz.ntmps31
  go_wp2
  go_ret
  exact ⟨by first | rfl | simp [Addr.add_lit], rfl⟩
theorem set_of_7 (b o : Nat) (w : World) : Calls Tryz.prog 32 #[.pointer (some ⟨b, o, none⟩)] w fun e w' => e = .returned (.pointer (some ⟨b, o + 9, none⟩)) ∧ w' = w := by
  go_enter Tryz.func32, Tryz.ntmps32
  go_wp2
  go_ret
  exact ⟨by first | rfl | simp [Addr.add_lit], rfl⟩
theorem set_of_8 (b o : Nat) (w : World) : Calls Tryz.prog 33 #[.pointer (some ⟨b, o, none⟩)] w fun e w' => e = .returned (.pointer (some ⟨b, o + 10, none⟩)) ∧ w' = w := by
  go_enter Tryz.func33, Tryz.ntmps33
  go_wp2
  go_ret
  exact ⟨by first | rfl | simp [Addr.add_lit], rfl⟩
theorem set_of_9 (b o : Nat) (w : World) : Calls Tryz.prog 34 #[.pointer (some ⟨b, o, none⟩)] w fun e w' => e = .returned (.pointer (some ⟨b, o + 11, none⟩)) ∧ w' = w := by
  go_enter Tryz.func34, Tryz.ntmps34
  go_wp2
  go_ret
  exact ⟨by first | rfl | simp [Addr.add_lit], rfl⟩
theorem set_of_10 (b o : Nat) (w : World) : Calls Tryz.prog 35 #[.pointer (some ⟨b, o, none⟩)] w fun e w' => e = .returned (.pointer (some ⟨b, o + 12, none⟩)) ∧ w' = w := by
  go_enter Tryz.func35, Tryz.ntmps35
  go_wp2
  go_ret
  exact ⟨by first | rfl | simp [Addr.add_lit], rfl⟩
theorem set_of_11 (b o : Nat) (w : World) : Calls Tryz.prog 36 #[.pointer (some ⟨b, o, none⟩)] w fun e w' => e = .returned (.pointer (some ⟨b, o + 13, none⟩)) ∧ w' = w := by
  go_enter Tryz.func36, Tryz.ntmps36
  go_wp2
  go_ret
  exact ⟨by first | rfl | simp [Addr.add_lit], rfl⟩
def setFn : List Nat := [25, 26, 27, 28, 29, 30, 31, 32, 33, 34, 35, 36]
def setNm : List (List UInt8) := [[115, 112, 97, 110, 115], [119, 97, 105, 116], [99, 97, 99, 104, 101], [107, 101, 101, 112], [119, 105, 110, 100, 111, 119], [105, 116, 101, 109, 115], [97, 103, 101], [98, 97, 116, 99, 104, 101, 115], [115, 101, 103, 109, 101, 110, 116], [102, 108, 121], [98, 97, 115, 101], [109, 111, 115, 116]]
def setLo : List Nat := [1, 1, 1, 1, 1, 1, 0, 1, 1, 1, 1, 1]
def setHi : List Nat := [5000, 1099511627776, 5000, 1000, 1099511627776, 100, 1099511627776, 1000, 1048576, 64, 1073741824, 1073741824]
def setOff (i : Nat) : Nat := if i < 3 then i else i + 2
theorem set_of {i : Nat} (hi : i < 12) (b o : Nat) (w : World) : Calls Tryz.prog (setFn.getD i 0) #[.pointer (some ⟨b, o, none⟩)] w fun e w' => e = .returned (.pointer (some ⟨b, o + setOff i, none⟩)) ∧ w' = w := by
  match i, hi with
  | 0, _ => exact set_of_0 b o w
  | 1, _ => exact set_of_1 b o w
  | 2, _ => exact set_of_2 b o w
  | 3, _ => exact set_of_3 b o w
  | 4, _ => exact set_of_4 b o w
  | 5, _ => exact set_of_5 b o w
  | 6, _ => exact set_of_6 b o w
  | 7, _ => exact set_of_7 b o w
  | 8, _ => exact set_of_8 b o w
  | 9, _ => exact set_of_9 b o w
  | 10, _ => exact set_of_10 b o w
  | 11, _ => exact set_of_11 b o w
def setCells (i : Nat) : List Value := [.string (txt (setNm.getD i [])), .func (.func (setFn.getD i 0)) #[] #[], .int .i64 (setLo.getD i 0 : Nat), .int .i64 (setHi.getD i 0 : Nat)]
def setAllCells : List Value := (List.range 12).flatMap setCells
set_option maxHeartbeats 2000000 in
theorem settings_any (w : World) : Calls Tryz.prog 9 #[] w fun e w' => e = .returned (.slice (some ⟨w.heap.size, 0, none⟩) 12 12) ∧ w' = w.alloc (.cells setAllCells.toArray 48 (0, 0)) := by
  go_enter Tryz.func9, Tryz.ntmps9
  go_wp2
  go_ret
  refine ⟨rfl, ?_⟩
  rfl
end Go.V
