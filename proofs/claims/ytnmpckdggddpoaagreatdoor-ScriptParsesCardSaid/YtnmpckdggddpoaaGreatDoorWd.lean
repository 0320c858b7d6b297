/- The walks of package word, and of the references' words. -/
import Derived.Test.YtnmpckdggddpoaaGreatDoorRows
import Derived.Test.YtnmpckdggddpoaaGreatDoorHp
import Derived.Test.YtnmpckdggddpoaaGreatDoorAr
import Derived.Deep.QuietTactic
import Derived.BigQuiet
namespace Go.Proofs.YtnmpckdggddpoaaGreatDoor
set_option linter.unusedSimpArgs false
set_option linter.unusedVariables false
open Go.RowKit

theorem or_one_u64 (E : Int) (h0 : 0 ≤ E) (h1 : E ≤ 9223372036854775807) : bits BinOp.or IntKind.u64 (2 * E) 1 = 2 * E + 1 := by
  rw [u64_or (2 * E) 1 (by omega) (by omega) (by omega) (by omega)]
  have e1 : (2 * E).toNat = 2 ^ 1 * E.toNat := by omega
  have e2 : (2 * E).toNat ||| (1 : Int).toNat = (2 * E).toNat + 1 := by
    rw [e1]; exact (Nat.two_pow_add_eq_or_of_lt (i := 1) (b := 1) (by decide) E.toNat).symm
  rw [e2]; omega

theorem int_go (n : Int) : bits BinOp.or IntKind.u64 (IntKind.u64.wrap (IntKind.u64.wrap n * 2)) 1 = wInt n := by
  have e : IntKind.u64.wrap (IntKind.u64.wrap n * 2) = 2 * (n % 9223372036854775808) := by simp only [IntKind.wrap_u64]; omega
  rw [e, or_one_u64 _ (by omega) (by omega)]; unfold wInt; omega

set_option maxHeartbeats 400000 in
theorem word_Int (n : Int) (w : World) :
    Calls Tryz.prog 40 #[.int .i64 n] w fun e w' => e = .returned (.int .u64 (wInt n)) ∧ w = w' := by
  go_enter Tryz.func40, Tryz.ntmps40
  go_wp2
  go_ret
  exact ⟨by rw [← int_go n]; rfl, rfl⟩

theorem and_one (w : Int) (h : U64 w) : bits BinOp.and IntKind.u64 w 1 = w % 2 := and_one_u64 w h.1 h.2

theorem word_IsInt (x : Int) (hx : U64 x) (w : World) :
    Calls Tryz.prog 131 #[.int .u64 x] w fun e w' => e = .returned (.bool (wIsInt x)) ∧ w = w' := by
  have ha := and_one x hx
  go_enter Tryz.func131, Tryz.ntmps131
  go_wp2
  go_ret
  exact ⟨rfl, rfl⟩

theorem num_go {x : Int} (h : U64 x) : wrap64 x / 2 = wNum x := by
  unfold U64 at h; unfold wNum wrap64; split <;> omega

theorem word_Num (x : Int) (hx : U64 x) (w : World) :
    Calls Tryz.prog 103 #[.int .u64 x] w fun e w' => e = .returned (.int .i64 (wNum x)) ∧ w = w' := by
  have hn := num_go hx
  go_enter Tryz.func103, Tryz.ntmps103
  go_wp2
  go_ret
  exact ⟨by rw [← hn]; rfl, rfl⟩

theorem word_Ptr (a : Int) (w : World) :
    Calls Tryz.prog 120 #[.int .i64 a] w fun e w' => e = .returned (.int .u64 (wPtr a)) ∧ w = w' := by
  unfold wPtr
  by_cases h : a < 0
  · go_enter Tryz.func120, Tryz.ntmps120
    go_wp2
    go_ret
    exact ⟨by simp [h], rfl⟩
  · by_cases h' : 2147483647 < a
    · go_enter Tryz.func120, Tryz.ntmps120
      go_wp2
      go_ret
      exact ⟨by simp [h'], rfl⟩
    · rw [if_neg (by omega), Int.mul_comm 2 a]
      go_enter Tryz.func120, Tryz.ntmps120
      go_wp2
      go_ret
      exact ⟨rfl, rfl⟩

theorem word_Addr (x : Int) (hx : U64 x) (w : World) :
    Calls Tryz.prog 121 #[.int .u64 x] w fun e w' => e = .returned (.int .i64 (wAddr x)) ∧ w = w' := by
  have hx' := hx
  unfold U64 at hx'
  unfold wAddr
  by_cases h : x % 2 = 1
  · have hb : wIsInt x = true := by simp [wIsInt, h]
    rw [if_pos (.inl h)]
    clear h
    go_enter Tryz.func121, Tryz.ntmps121
    go_wp2_with (go_at_call 131; with_reducible refine Calls.mono (word_IsInt _ hx _) ?_; rintro e w' ⟨rfl, rfl⟩)
    go_ret
    exact ⟨rfl, rfl⟩
  · have hb : wIsInt x = false := by simp [wIsInt, h]
    by_cases h' : 2147483647 < x / 2
    · rw [if_pos (.inr h')]
      clear h
      go_enter Tryz.func121, Tryz.ntmps121
      go_wp2_with (go_at_call 131; with_reducible refine Calls.mono (word_IsInt _ hx _) ?_; rintro e w' ⟨rfl, rfl⟩)
      go_ret
      exact ⟨rfl, rfl⟩
    · rw [if_neg (by omega)]
      clear h
      go_enter Tryz.func121, Tryz.ntmps121
      go_wp2_with (go_at_call 131; with_reducible refine Calls.mono (word_IsInt _ hx _) ?_; rintro e w' ⟨rfl, rfl⟩)
      go_ret
      exact ⟨rfl, rfl⟩

theorem i64_or_nat (a b : Nat) (ha : a < 9223372036854775808) (hb : b < 9223372036854775808) : bits .or .i64 (a : Int) (b : Int) = ((a ||| b : Nat) : Int) := by
  have hx : a ||| b < 2 ^ 63 := Nat.or_lt_two_pow (by omega) (by omega)
  show IntKind.i64.wrap ((BitVec.ofInt 64 (a : Int) ||| BitVec.ofInt 64 (b : Int)).toNat : Int) = _
  rw [BitVec.toNat_or, ofInt_u64 a (by omega), ofInt_u64 b (by omega), IntKind.wrap_i64]
  omega
theorem i64_and_nat (a b : Nat) (ha : a < 9223372036854775808) (hb : b < 9223372036854775808) : bits .and .i64 (a : Int) (b : Int) = ((a &&& b : Nat) : Int) := by
  have hx : a &&& b < 2 ^ 63 := Nat.and_lt_two_pow _ (by omega)
  show IntKind.i64.wrap ((BitVec.ofInt 64 (a : Int) &&& BitVec.ofInt 64 (b : Int)).toNat : Int) = _
  rw [BitVec.toNat_and, ofInt_u64 a (by omega), ofInt_u64 b (by omega), IntKind.wrap_i64]
  omega
theorem head_or (t s : Int) (ht : 0 ≤ t) (ht' : t ≤ 255) (hs : 0 ≤ s) (hs' : s ≤ 2147483647) : bits BinOp.or IntKind.i64 (s * 256) t = 256 * s + t := by
  obtain ⟨T, rfl⟩ := Int.eq_ofNat_of_zero_le ht
  obtain ⟨S, rfl⟩ := Int.eq_ofNat_of_zero_le hs
  have e := i64_or_nat (S * 256) T (by omega) (by omega)
  rw [show ((S : Int) * 256) = ((S * 256 : Nat) : Int) by omega, e]
  have e1 : S * 256 ||| T = 2 ^ 8 * S + T := by rw [Nat.mul_comm S 256]; exact (Nat.two_pow_add_eq_or_of_lt (i := 8) (b := T) (by omega) S).symm
  rw [e1]; omega
theorem and_255 (n : Int) (h : 0 ≤ n) (h' : n ≤ 9223372036854775807) : bits BinOp.and IntKind.i64 n 255 = n % 256 := by
  obtain ⟨N, rfl⟩ := Int.eq_ofNat_of_zero_le h
  have e := i64_and_nat N 255 (by omega) (by omega)
  rw [show ((255 : Int)) = ((255 : Nat) : Int) by rfl, e, nat_mask8]; omega

theorem word_Head (t s : Int) (w : World) :
    Calls Tryz.prog 128 #[.int .i64 t, .int .i64 s] w fun e w' => e = .returned (.int .u64 (wHead t s)) ∧ w = w' := by
  unfold wHead
  by_cases h1 : t < 0
  · go_enter Tryz.func128, Tryz.ntmps128
    go_wp2
    go_ret
    exact ⟨by simp [h1], rfl⟩
  by_cases h2 : 255 < t
  · go_enter Tryz.func128, Tryz.ntmps128
    go_wp2
    go_ret
    exact ⟨by simp [h2], rfl⟩
  by_cases h3 : s < 0
  · go_enter Tryz.func128, Tryz.ntmps128
    go_wp2
    go_ret
    exact ⟨by simp [h3], rfl⟩
  by_cases h4 : 2147483647 < s
  · go_enter Tryz.func128, Tryz.ntmps128
    go_wp2
    go_ret
    exact ⟨by simp [h4], rfl⟩
  rw [if_neg (by omega)]
  have ho := head_or t s (by omega) (by omega) (by omega) (by omega)
  go_enter Tryz.func128, Tryz.ntmps128
  go_wp2_with (go_at_call 40; with_reducible refine Calls.mono (word_Int _ _) ?_; rintro e w' ⟨rfl, rfl⟩)
  go_ret
  exact ⟨rfl, rfl⟩

theorem word_parts (x : Int) (hx : U64 x) (w : World) :
    Calls Tryz.prog 228 #[.int .u64 x] w fun e w' => e = .returned (.tuple #[.int .i64 (wTag x), .int .i64 (wSize x)]) ∧ w = w' := by
  have hn := wNum_b hx
  unfold wTag wSize
  cases hb : wBad x with
  | true =>
    simp only [if_true]
    unfold wBad at hb
    cases h1 : wIsInt x with
    | false =>
      clear hb
      go_enter Tryz.func228, Tryz.ntmps228
      go_wp2_with (first | (go_at_call 103; with_reducible refine Calls.mono (word_Num _ hx _) ?_; rintro e w' ⟨rfl, rfl⟩) | (go_at_call 131; with_reducible refine Calls.mono (word_IsInt _ hx _) ?_; rintro e w' ⟨rfl, rfl⟩))
      go_ret2
      exact ⟨rfl, rfl⟩
    | true =>
      simp only [h1, Bool.not_true, Bool.false_or, Bool.or_eq_true, decide_eq_true_eq] at hb
      by_cases h2 : wNum x < 0
      · clear hb
        go_enter Tryz.func228, Tryz.ntmps228
        go_wp2_with (first | (go_at_call 103; with_reducible refine Calls.mono (word_Num _ hx _) ?_; rintro e w' ⟨rfl, rfl⟩) | (go_at_call 131; with_reducible refine Calls.mono (word_IsInt _ hx _) ?_; rintro e w' ⟨rfl, rfl⟩))
        go_ret2
        exact ⟨rfl, rfl⟩
      · have h3 : 2147483647 < wNum x / 256 := by omega
        clear hb
        go_enter Tryz.func228, Tryz.ntmps228
        go_wp2_with (first | (go_at_call 103; with_reducible refine Calls.mono (word_Num _ hx _) ?_; rintro e w' ⟨rfl, rfl⟩) | (go_at_call 131; with_reducible refine Calls.mono (word_IsInt _ hx _) ?_; rintro e w' ⟨rfl, rfl⟩))
        go_ret2
        exact ⟨rfl, rfl⟩
  | false =>
    simp only [Bool.false_eq_true, if_false]
    unfold wBad at hb
    simp only [Bool.or_eq_false_iff, Bool.not_eq_false', decide_eq_false_iff_not] at hb
    obtain ⟨⟨h1, h2⟩, h3⟩ := hb
    have ha := and_255 (wNum x) (by omega) (by omega)
    go_enter Tryz.func228, Tryz.ntmps228
    go_wp2_with (first | (go_at_call 103; with_reducible refine Calls.mono (word_Num _ hx _) ?_; rintro e w' ⟨rfl, rfl⟩) | (go_at_call 131; with_reducible refine Calls.mono (word_IsInt _ hx _) ?_; rintro e w' ⟨rfl, rfl⟩))
    go_ret2
    exact ⟨rfl, rfl⟩

theorem word_Tag (x : Int) (hx : U64 x) (w : World) :
    Calls Tryz.prog 226 #[.int .u64 x] w fun e w' => e = .returned (.int .i64 (wTag x)) ∧ w = w' := by
  go_enter Tryz.func226, Tryz.ntmps226
  go_wp2_with (go_at_call 228; with_reducible refine Calls.mono (word_parts _ hx _) ?_; rintro e w' ⟨rfl, rfl⟩)
  go_ret
  exact ⟨rfl, rfl⟩

theorem word_Size (x : Int) (hx : U64 x) (w : World) :
    Calls Tryz.prog 188 #[.int .u64 x] w fun e w' => e = .returned (.int .i64 (wSize x)) ∧ w = w' := by
  go_enter Tryz.func188, Tryz.ntmps188
  go_wp2_with (go_at_call 228; with_reducible refine Calls.mono (word_parts _ hx _) ?_; rintro e w' ⟨rfl, rfl⟩)
  go_ret
  exact ⟨rfl, rfl⟩

end Go.Proofs.YtnmpckdggddpoaaGreatDoor
