/- strings.Cut at a separator of one byte: no fact on memory is wanted. -/
import Derived.Test.YtnmpckdggddpoaaGreatDoorSc
import Derived.Test.YtnmpckdggddpoaaGreatDoorShelf
import Derived.Lib.IndexBytes
import Derived.Lib.CutLaws
import Derived.BigQuiet
namespace Go.Proofs.YtnmpckdggddpoaaGreatDoor
set_option linter.unusedSimpArgs false
set_option linter.unusedVariables false
open Go.RowKit Go.Shelf Go.Lib

set_option maxHeartbeats 1000000 in
theorem lib_Cut1' (s : ByteArray) (c : UInt8) (w : World) (hs : s.size ≤ 9223372036854775806) :
    Calls Tryz.prog 52 #[.string s, .string ⟨#[c]⟩] w fun e w' =>
      e = .returned (.tuple #[.string ⟨(cutS c s.data.toList).1.toArray⟩, .string ⟨(cutS c s.data.toList).2.1.toArray⟩, .bool (cutS c s.data.toList).2.2]) ∧ ∃ n, w' = w.drewN n := by
  have hc : Lib.cut s.data.toList (⟨#[c]⟩ : ByteArray).data.toList = cutS c s.data.toList := cut_one c _
  have hI := Lib.hid (Tryz.stringslite_Index_one s c w)
  have hx : Lib.indexB s ⟨#[c]⟩ = Lib.indexByte s.data.toList c := Lib.index_one _ _
  rcases Lib.indexB_cases s ⟨#[c]⟩ with hix | ⟨i, hix, hroom⟩
  · obtain ⟨e1, e2, e3⟩ := Lib.cutB_miss s _ hix
    rw [hc] at e1 e2 e3
    rw [e1, e2, e3]
    rw [hx] at hix
    go_enter Tryz.func52, Tryz.ntmps52
    go_wp2_with (go_at_call 88; refine hI.out.mono ?_; rintro e w' ⟨rfl, rfl⟩; rw [hix])
    go_ret3
    exact ⟨rfl, 0, rfl⟩
  · obtain ⟨e1, e2, e3⟩ := Lib.cutB_hit s _ i hix
    rw [hc] at e1 e2 e3
    rw [e1, e2, e3]
    rw [hx] at hix
    have hone : (⟨#[c]⟩ : ByteArray).size = 1 := rfl
    rw [hone] at hroom ⊢
    have c1 : (0 : Int) ≤ ↑i := by omega
    have c2 : (↑i : Int) ≤ ↑s.size := by omega
    have c3 : (0 : Int) ≤ ↑i + 1 := by omega
    have c4 : (↑i + 1 : Int) ≤ ↑s.size := by omega
    go_enter Tryz.func52, Tryz.ntmps52
    go_wp2_with (go_at_call 88; refine hI.out.mono ?_; rintro e w' ⟨rfl, rfl⟩; rw [hix])
    go_region
    go_wp2
    go_ret3
    exact ⟨rfl, 1, rfl⟩
set_option maxHeartbeats 1000000 in
theorem lib_Cut1 (s : ByteArray) (c : UInt8) (w : World) (hs : s.size ≤ 9223372036854775806) :
    Calls Tryz.prog 26 #[.string s, .string ⟨#[c]⟩] w fun e w' =>
      e = .returned (.tuple #[.string ⟨(cutS c s.data.toList).1.toArray⟩, .string ⟨(cutS c s.data.toList).2.1.toArray⟩, .bool (cutS c s.data.toList).2.2]) ∧ ∃ n, w' = w.drewN n := by
  have hI := Lib.hid (lib_Cut1' s c w hs)
  go_enter Tryz.func26, Tryz.ntmps26
  go_wp2_with (go_at_call 52; refine hI.out.mono ?_; rintro e w' ⟨rfl, n, rfl⟩)
  go_ret3
  exact ⟨rfl, _, rfl⟩

end Go.Proofs.YtnmpckdggddpoaaGreatDoor
