/- The script's numbers: the plain law and script.number. -/
import Derived.Test.YtnmpckdggddpoaaGreatDoorHq
import Derived.Lib.ParseIntB
import Derived.Lib.SlTrimSet
import Derived.Lib.Hide
namespace Go.Proofs.YtnmpckdggddpoaaGreatDoor
set_option linter.unusedSimpArgs false
set_option linter.unusedVariables false
open Go.RowKit

def digB (b : UInt8) : Bool := decide (48 ≤ b.toNat) && decide (b.toNat ≤ 57)
/-- What digits spell, behind what was spelt. -/
def numV (acc : Nat) : List UInt8 → Nat
  | [] => acc
  | c :: l => numV (acc * 10 + (c.toNat - 48)) l
/-- A script's number, or none. -/
def numB (l : List UInt8) : Option Nat :=
  if l = [] ∨ 18 < l.length ∨ l.all digB = false ∨ (l.head? = some 48 ∧ 1 < l.length) then none else some (numV 0 l)

theorem digB_iff (b : UInt8) : digB b = true ↔ 48 ≤ b.toNat ∧ b.toNat ≤ 57 := by unfold digB; rw [Bool.and_eq_true, decide_eq_true_iff, decide_eq_true_iff]
theorem numV_step (acc d p n : Nat) (hd : d ≤ 9) (h : n < (acc * 10 + d + 1) * p) : n < (acc + 1) * (p * 10) := by
  have h3 : (acc * 10 + d + 1) * p ≤ ((acc + 1) * 10) * p := Nat.mul_le_mul_right _ (by omega)
  rw [Nat.mul_comm p 10, ← Nat.mul_assoc]
  exact Nat.lt_of_lt_of_le h h3
theorem numV_lt (l : List UInt8) : ∀ (_ : ∀ b ∈ l, digB b = true) (acc : Nat), numV acc l < (acc + 1) * 10 ^ l.length := by
  induction l with
  | nil => intro _ acc; show acc < (acc + 1) * 10 ^ 0; rw [Nat.pow_zero, Nat.mul_one]; exact Nat.lt_succ_self _
  | cons c l ih =>
    intro h acc
    have hc := (digB_iff c).1 (h c (List.mem_cons_self))
    have h1 := ih (fun b hb => h b (List.mem_cons_of_mem _ hb)) (acc * 10 + (c.toNat - 48))
    show numV (acc * 10 + (c.toNat - 48)) l < (acc + 1) * 10 ^ (l.length + 1)
    rw [Nat.pow_succ]
    exact numV_step acc (c.toNat - 48) _ _ (by omega) h1

theorem uint_dig (l : List UInt8) : ∀ (_ : ∀ b ∈ l, digB b = true) (acc : Nat) (_ : (acc + 1) * 10 ^ l.length ≤ 1000000000000000000), Lib.parseUintM (2 ^ 64 - 1) acc l = .ok (numV acc l) := by
  induction l with
  | nil => intro _ acc _; rfl
  | cons c l ih =>
    intro h acc hb
    have hc := (digB_iff c).1 (h c (List.mem_cons_self))
    have hp : 1 ≤ 10 ^ l.length := Nat.one_le_pow _ _ (by omega)
    have hb2 : (acc + 1) * 10 ≤ 1000000000000000000 := by
      refine Nat.le_trans ?_ hb
      rw [List.length_cons, Nat.pow_succ, Nat.mul_comm (10 ^ l.length) 10, ← Nat.mul_assoc]
      exact Nat.le_mul_of_pos_right _ hp
    have hb3 : (acc * 10 + (c.toNat - 48) + 1) * 10 ^ l.length ≤ 1000000000000000000 := by
      refine Nat.le_trans ?_ hb
      rw [List.length_cons, Nat.pow_succ, Nat.mul_comm (10 ^ l.length) 10, ← Nat.mul_assoc]
      exact Nat.mul_le_mul_right _ (by omega)
    unfold Lib.parseUintM
    rw [if_pos hc, if_neg (by omega), if_neg (by omega)]
    exact ih (fun b hb => h b (List.mem_cons_of_mem _ hb)) _ hb3
theorem pow_le18 {n : Nat} (h : n ≤ 18) : 10 ^ n ≤ 1000000000000000000 := by
  have := Nat.pow_le_pow_right (n := 10) (by omega) h
  exact this
theorem int_dig (l : List UInt8) (h : ∀ b ∈ l, digB b = true) (h0 : l ≠ []) (h18 : l.length ≤ 18) : Lib.parseIntB 64 l = .ok (numV 0 l : Nat) ∧ numV 0 l < 1000000000000000000 := by
  have hb : (0 + 1) * 10 ^ l.length ≤ 1000000000000000000 := by rw [Nat.zero_add, Nat.one_mul]; exact pow_le18 h18
  have hu := uint_dig l h 0 hb
  have hlt := Nat.lt_of_lt_of_le (numV_lt l h 0) hb
  refine ⟨?_, hlt⟩
  cases l with
  | nil => exact absurd rfl h0
  | cons c r =>
    have hc := (digB_iff c).1 (h c (List.mem_cons_self))
    unfold Lib.parseIntB Lib.parseUintB
    simp only []
    rw [if_neg (by omega : ¬ (c.toNat = 43 ∨ c.toNat = 45)), if_neg (by simp), hu]
    simp only []
    rw [if_neg (by omega), if_neg (by omega), if_neg (by omega)]

end Go.Proofs.YtnmpckdggddpoaaGreatDoor
