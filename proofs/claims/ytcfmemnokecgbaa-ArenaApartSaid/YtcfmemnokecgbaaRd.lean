/- The walks of the reference's words. -/
import Derived.Test.YtcfmemnokecgbaaWd
import Derived.Lib.Hide
namespace Go.Proofs.Ytcfmemnokecgbaa
open Go.RowKit

def wCut (n : Int) : Int := if 4611686018427387903 < n then n - 9223372036854775808 else if n < -4611686018427387904 then n + 9223372036854775808 else n

theorem ref_cut (n : Int) (w : World) (h0 : I64 n) :
    Calls Try.prog 36 #[.int .i64 n] w fun e w' => e = .returned (.int .i64 (wCut n)) ∧ w = w' := by
  obtain ⟨h1, h2⟩ := h0
  unfold wCut
  by_cases c1 : 4611686018427387903 < n
  · rw [if_pos c1]
    have e : n - 9223372036854775808 = n - 4611686018427387903 - 4611686018427387903 - 2 := by omega
    rw [e]
    clear e
    go_enter Try.func36, Try.ntmps36
    go_wp2
    go_ret
    exact ⟨rfl, rfl⟩
  · rw [if_neg c1]
    by_cases c2 : n < -4611686018427387904
    · rw [if_pos c2]
      have e : n + 9223372036854775808 = n + 4611686018427387903 + 4611686018427387903 + 2 := by omega
      rw [e]
      clear e
      go_enter Try.func36, Try.ntmps36
      go_wp2
      go_ret
      exact ⟨rfl, rfl⟩
    · rw [if_neg c2]
      go_enter Try.func36, Try.ntmps36
      go_wp2
      go_ret
      exact ⟨rfl, rfl⟩

theorem ref_Int (n : Int) (w : World) (h0 : I64 n) :
    Calls Try.prog 24 #[.int .i64 n] w fun e w' => e = .returned (.int .u64 (wInt n)) ∧ w = w' := by
  have hc := Lib.hid (ref_cut n w h0)
  have hb : -4611686018427387904 ≤ wCut n ∧ wCut n ≤ 4611686018427387903 := by unfold I64 at h0; unfold wCut; split <;> (try split) <;> omega
  have hw := Lib.hid (show wInt n = (2 * wCut n + 1) % 18446744073709551616 by unfold I64 at h0; unfold wInt wCut; split <;> (try split) <;> omega)
  obtain ⟨c, HC⟩ : ∃ c, Hid (wCut n = c) := ⟨_, rfl⟩
  rw [HC.out] at hc hb hw
  obtain ⟨b1, b2⟩ := hb
  by_cases hn : c < 0
  · go_enter Try.func24, Try.ntmps24
    go_wp2_with (fail)
    refine Calls.mono hc.out ?_
    rintro e w' ⟨rfl, rfl⟩
    go_wp2
    go_ret
    refine ⟨?_, rfl⟩
    rw [hw.out]
    refine congrArg (fun x => Ending.returned (Value.int .u64 x)) ?_
    simp only [IntKind.wrap_u64]
    omega
  · go_enter Try.func24, Try.ntmps24
    go_wp2_with (fail)
    refine Calls.mono hc.out ?_
    rintro e w' ⟨rfl, rfl⟩
    go_wp2
    go_ret
    refine ⟨?_, rfl⟩
    rw [hw.out]
    refine congrArg (fun x => Ending.returned (Value.int .u64 x)) ?_
    omega

theorem ref_Head (t s : Int) (w : World) (ht : I64 t) (hs : I64 s) :
    Calls Try.prog 19 #[.int .i64 t, .int .i64 s] w fun e w' => e = .returned (.int .u64 (wHead t s)) ∧ w = w' := by
  obtain ⟨t1, t2⟩ := ht
  obtain ⟨s1, s2⟩ := hs
  unfold wHead
  by_cases h1 : t < 0
  · go_enter Try.func19, Try.ntmps19
    go_wp2
    go_ret
    exact ⟨by simp [h1], rfl⟩
  by_cases h2 : 255 < t
  · go_enter Try.func19, Try.ntmps19
    go_wp2
    go_ret
    exact ⟨by simp [h2], rfl⟩
  by_cases h3 : s < 0
  · go_enter Try.func19, Try.ntmps19
    go_wp2
    go_ret
    exact ⟨by simp [h3], rfl⟩
  by_cases h4 : 2147483647 < s
  · go_enter Try.func19, Try.ntmps19
    go_wp2
    go_ret
    exact ⟨by simp [h4], rfl⟩
  rw [if_neg (by omega)]
  go_enter Try.func19, Try.ntmps19
  go_wp2_with (go_at_call 24; with_reducible refine Calls.mono (ref_Int _ _ (by unfold I64; omega)) ?_; rintro e w' ⟨rfl, rfl⟩)
  go_ret
  exact ⟨rfl, rfl⟩

theorem ref_Ptr (a : Int) (w : World) (ha : I64 a) :
    Calls Try.prog 23 #[.int .i64 a] w fun e w' => e = .returned (.int .u64 (wPtr a)) ∧ w = w' := by
  obtain ⟨a1, a2⟩ := ha
  unfold wPtr
  by_cases h : a < 0
  · go_enter Try.func23, Try.ntmps23
    go_wp2
    go_ret
    exact ⟨by simp [h], rfl⟩
  · by_cases h' : 2147483647 < a
    · go_enter Try.func23, Try.ntmps23
      go_wp2
      go_ret
      exact ⟨by simp [h'], rfl⟩
    · rw [if_neg (by omega), Int.two_mul]
      go_enter Try.func23, Try.ntmps23
      go_wp2
      go_ret
      exact ⟨rfl, rfl⟩

theorem ref_IsInt (x : Int) (hx : U64 x) (w : World) :
    Calls Try.prog 53 #[.int .u64 x] w fun e w' => e = .returned (.bool (wIsInt x)) ∧ w = w' := by
  obtain ⟨x1, x2⟩ := hx
  go_enter Try.func53, Try.ntmps53
  go_wp2
  go_ret
  exact ⟨rfl, rfl⟩

theorem ref_Addr (x : Int) (hx : U64 x) (w : World) :
    Calls Try.prog 54 #[.int .u64 x] w fun e w' => e = .returned (.int .i64 (wAddr x)) ∧ w = w' := by
  obtain ⟨x1, x2⟩ := hx
  unfold wAddr
  by_cases h : x % 2 = 1
  · have hb : (x % 2 == 1) = true := by simp [h]
    rw [if_pos (.inl h)]
    clear h
    go_enter Try.func54, Try.ntmps54
    go_wp2
    go_ret
    exact ⟨rfl, rfl⟩
  · have hb : (x % 2 == 1) = false := by simp [h]
    by_cases h' : 4294967294 < x
    · rw [if_pos (by omega)]
      clear h
      go_enter Try.func54, Try.ntmps54
      go_wp2
      go_ret
      exact ⟨rfl, rfl⟩
    · rw [if_neg (by omega)]
      clear h
      go_enter Try.func54, Try.ntmps54
      go_wp2
      go_ret
      exact ⟨rfl, rfl⟩

end Go.Proofs.Ytcfmemnokecgbaa
