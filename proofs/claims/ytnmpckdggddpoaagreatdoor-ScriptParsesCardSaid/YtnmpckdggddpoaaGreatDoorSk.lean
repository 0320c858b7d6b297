/- The lexer's reader: has, and its small words. -/
import Derived.Test.YtnmpckdggddpoaaGreatDoorSg
import Derived.Test.YtnmpckdggddpoaaGreatDoorSb
import Derived.Test.YtnmpckdggddpoaaGreatDoorSe
import Derived.Test.YtnmpckdggddpoaaGreatDoorHq
import Derived.Deep.RegionHeld3
namespace Go.Proofs.YtnmpckdggddpoaaGreatDoor
set_option linter.unusedSimpArgs false
set_option linter.unusedVariables false
open Go.RowKit Go.Shelf Go.Lib

/-- The reader at block b: what it reads, where, what it has. -/
abbrev Rd (w : World) (b : Nat) (s : ByteArray) (k : Nat) (out : Value) : Prop := Blk w b [.string s, .int .i64 k, out] 208

theorem ext_drop (s : ByteArray) (k : Nat) : (s.extract k s.size).data.toList = s.data.toList.drop k := by
  obtain ⟨⟨l⟩⟩ := s
  rw [ByteArray.extract_mk]
  show (l.drop k).take (l.length - k) = l.drop k
  exact List.take_of_length_le (by simp)
/-- A callee that leaves the world as it was, in a region that only reads. -/
theorem qeq {P : Program} {f : FuncId} {args : Array Value} {w : World} {n : Nat} {v : Value}
    (h : Calls P f args (w.drewN n) fun e w' => e = .returned v ∧ w' = w.drewN n) : Calls P f args (w.drewN n) fun e w'' => e = .returned v ∧ ∃ m, w'' = w.drewN m :=
  h.mono fun _ _ ⟨he, hm⟩ => ⟨he, n, hm⟩

theorem qeq2 {P : Program} {f : FuncId} {args : Array Value} {w : World} {k n : Nat} {v : Value}
    (h : Calls P f args (w.drewN (k + n)) fun e w' => e = .returned v ∧ w' = w.drewN (k + n)) : Calls P f args (w.drewN (k + n)) fun e w'' => e = .returned v ∧ ∃ m, w'' = w.drewN (k + m) :=
  h.mono fun _ _ ⟨he, hm⟩ => ⟨he, n, hm⟩

set_option maxHeartbeats 1000000 in
theorem lx_has (b : Nat) (s p : ByteArray) (k : Nat) (out : Value) (w : World) (h : Rd w b s k out) (hk : k ≤ s.size) :
    Calls Tryz.prog 204 #[.pointer (some ⟨b, 0, none⟩), .string p] w fun e w' =>
      e = .returned (.bool (Lib.hasPrefix (s.data.toList.drop k) p.data.toList)) ∧ ∃ n, w' = w.drewN n := by
  have hP := Lib.hid (fun n : Nat => Tryz.strings_HasPrefix (s.extract k s.size) p (w.drewN n))
  rw [ext_drop] at hP
  have cb := h.cell
  have k0 : (0 : Int) ≤ (k : Int) := by omega
  have k1 : (k : Int) ≤ (s.size : Int) := by omega
  clear h
  go_enter Tryz.func204, Tryz.ntmps204
  go_wp2_with (fail)
  go_quiet ((go_at_call 238; exact qeq (hP.out _)))
  go_wp2
  go_ret
  exact ⟨rfl, _, rfl⟩

def smallB (c : Int) : Bool := decide (97 ≤ c) && decide (c ≤ 122) || (c == 95)
def greatB (c : Int) : Bool := decide (65 ≤ c) && decide (c ≤ 90)
def digitB (c : Int) : Bool := decide (48 ≤ c) && decide (c ≤ 57)
theorem lx_small (c : Int) (w : World) : Calls Tryz.prog 206 #[.int .u8 c] w fun e w' => e = .returned (.bool (smallB c)) ∧ w' = w := by
  by_cases h1 : 97 ≤ c <;> by_cases h2 : c ≤ 122
  all_goals
    have hs : smallB c = smallB c := rfl
    conv at hs => rhs; unfold smallB
    simp only [h1, h2, decide_true, decide_false, Bool.and_true, Bool.and_false, Bool.false_and, Bool.true_and, Bool.or_true, Bool.true_or, Bool.false_or] at hs
    have hs' := Lib.hid hs
    clear hs
    go_enter Tryz.func206, Tryz.ntmps206
    go_wp2
    go_ret
    exact ⟨by rw [hs'.out]; rfl, rfl⟩
theorem lx_great (c : Int) (w : World) : Calls Tryz.prog 207 #[.int .u8 c] w fun e w' => e = .returned (.bool (greatB c)) ∧ w' = w := by
  by_cases h1 : 65 ≤ c <;> by_cases h2 : c ≤ 90
  all_goals
    have hs' : greatB c = greatB c := rfl
    conv at hs' => rhs; unfold greatB
    simp only [h1, h2, decide_true, decide_false, Bool.and_true, Bool.and_false, Bool.false_and, Bool.true_and] at hs'
    have HS := Lib.hid hs'
    clear hs'
    go_enter Tryz.func207, Tryz.ntmps207
    go_wp2
    go_ret
    exact ⟨by rw [HS.out]; rfl, rfl⟩
theorem lx_digit (c : Int) (w : World) : Calls Tryz.prog 210 #[.int .u8 c] w fun e w' => e = .returned (.bool (digitB c)) ∧ w' = w := by
  by_cases h1 : 48 ≤ c <;> by_cases h2 : c ≤ 57
  all_goals
    have hs' : digitB c = digitB c := rfl
    conv at hs' => rhs; unfold digitB
    simp only [h1, h2, decide_true, decide_false, Bool.and_true, Bool.and_false, Bool.false_and, Bool.true_and] at hs'
    have HS := Lib.hid hs'
    clear hs'
    go_enter Tryz.func210, Tryz.ntmps210
    go_wp2
    go_ret
    exact ⟨by rw [HS.out]; rfl, rfl⟩
def inNameB (c : Int) : Bool := smallB c || greatB c || digitB c || (c == 39)
theorem lx_inName (c : Int) (w : World) : Calls Tryz.prog 239 #[.int .u8 c] w fun e w' => e = .returned (.bool (inNameB c)) ∧ w' = w := by
  unfold inNameB
  have h1 := lx_small c w
  have h2 := lx_great c w
  have h3 := lx_digit c w
  generalize smallB c = x at *
  generalize greatB c = y at *
  generalize digitB c = z at *
  go_enter Tryz.func239, Tryz.ntmps239
  go_wp2_with (first | (go_at_call 206; refine h1.mono ?_; rintro e w' ⟨rfl, rfl⟩) | (go_at_call 207; refine h2.mono ?_; rintro e w' ⟨rfl, rfl⟩) | (go_at_call 210; refine h3.mono ?_; rintro e w' ⟨rfl, rfl⟩))
  all_goals go_ret
  all_goals (refine ⟨?_, rfl⟩; simp_all)

end Go.Proofs.YtnmpckdggddpoaaGreatDoor
