/- slices.BinarySearch over numbers in order. -/
import Derived.Test.YtcfmemnokecgbaaRows
import Derived.Test.YtcfmemnokecgbaaHp
import Derived.Test.YtcfmemnokecgbaaAr
import Derived.Deep.QuietTactic
import Derived.BigQuiet
import Derived.Lib.Hide
namespace Go.Proofs.Ytcfmemnokecgbaa
open Go.RowKit

theorem isNaN_slices (x : Int) (w : World) : Calls Try.prog 51 #[.int .i64 x] w fun e w' => e = .returned (.bool false) ∧ w = w' := by
  go_enter Try.func51, Try.ntmps51
  go_wp2
  go_ret
  exact ⟨rfl, rfl⟩
theorem isNaN_cmp (x : Int) (w : World) : Calls Try.prog 55 #[.int .i64 x] w fun e w' => e = .returned (.bool false) ∧ w = w' := by
  go_enter Try.func55, Try.ntmps55
  go_wp2
  go_ret
  exact ⟨rfl, rfl⟩
theorem less_cmp (x y : Int) (w : World) : Calls Try.prog 50 #[.int .i64 x, .int .i64 y] w fun e w' => e = .returned (.bool (decide (x < y))) ∧ w = w' := by
  go_enter Try.func50, Try.ntmps50
  go_wp2_with ((go_at_call 55; with_reducible refine Calls.mono (isNaN_cmp _ _) ?_; rintro e w' ⟨rfl, rfl⟩))
  go_ret
  exact ⟨rfl, rfl⟩

/-- Numbers that rise. -/
def Rise (xs : List Int) : Prop := ∀ i j, i < j → j < xs.length → xs.getD i 0 < xs.getD j 0

def BsSaid (xs : List Int) (t : Int) (e : Ending) : Prop :=
  ∃ (i : Nat) (f : Bool), e = .returned (.tuple #[.int .i64 i, .bool f]) ∧ i ≤ xs.length ∧ (∀ k, k < i → xs.getD k 0 < t) ∧ (∀ k, i ≤ k → k < xs.length → t ≤ xs.getD k 0) ∧
    (f = true → i < xs.length ∧ xs.getD i 0 = t) ∧ (f = false → i < xs.length → t < xs.getD i 0)

theorem bs_nil (t : Int) (w : World) : Calls Try.prog 43 #[.slice none 0 0, .int .i64 t] w fun e w' => BsSaid [] t e ∧ w = w' := by
  go_enter Try.func43, Try.ntmps43
  go_wp2
  go_loop [7, 8] (fun u v => u = .int .i64 0 ∧ v = .int .i64 0) (fun _ _ => 0)
  case atStart => exact ⟨rfl, rfl⟩
  case round =>
    obtain ⟨rfl, rfl⟩ := hrel
    go_wp2
    go_ret2
    exact ⟨⟨0, false, rfl, by simp, by simp, by simp, by simp, by simp⟩, rfl⟩

theorem bs_empty (g off cap : Nat) (t : Int) (w : World) : Calls Try.prog 43 #[.slice (some ⟨g, off, none⟩) 0 cap, .int .i64 t] w fun e w' => BsSaid [] t e ∧ w = w' := by
  go_enter Try.func43, Try.ntmps43
  go_wp2
  go_loop [7, 8] (fun u v => u = .int .i64 0 ∧ v = .int .i64 0) (fun _ _ => 0)
  case atStart => exact ⟨rfl, rfl⟩
  case round =>
    obtain ⟨rfl, rfl⟩ := hrel
    go_wp2
    go_ret2
    exact ⟨⟨0, false, rfl, by simp, by simp, by simp, by simp, by simp⟩, rfl⟩

set_option maxHeartbeats 400000 in
theorem bs_some (g off cap : Nat) (xs : List Int) (t : Int) (w : World) (hn : 0 < xs.length) (hc : xs.length ≤ 4611686018427387903)
    (hcell : ∀ k, k < xs.length → w.cell? ⟨g, off + k, none⟩ = some (.int .i64 (xs.getD k 0))) (hr : Rise xs) :
    Calls Try.prog 43 #[.slice (some ⟨g, off, none⟩) xs.length cap, .int .i64 t] w fun e w' => BsSaid xs t e ∧ w = w' := by
  have HR := Lib.hid hr
  have HC := Lib.hid hcell
  clear hr hcell
  generalize hl : xs.length = n at *
  have HL := Lib.hid hl
  clear hl
  go_enter Try.func43, Try.ntmps43
  go_wp2
  go_loop [7, 8, 9] (fun u v _ => ∃ i j : Nat, u = .int .i64 i ∧ v = .int .i64 j ∧ i ≤ j ∧ j ≤ n ∧ Hid ((∀ k, k < i → xs.getD k 0 < t) ∧ (∀ k, j ≤ k → k < n → t ≤ xs.getD k 0))) (fun u v _ => (intOf v - intOf u).toNat)
  case atStart => exact ⟨0, n, rfl, rfl, by omega, by omega, ⟨by simp, fun k h1 h2 => by omega⟩⟩
  case round =>
    obtain ⟨i, j, rfl, rfl, hij, hjn, H⟩ := hrel
    by_cases hlt : i < j
    · obtain ⟨x, HX, hcell⟩ : ∃ x, Hid (xs.getD ((i + j) / 2) 0 = x) ∧ w.cell? ⟨g, off + (i + j) / 2, none⟩ = some (.int .i64 x) := ⟨_, rfl, HC.out ((i + j) / 2) (by omega)⟩
      by_cases hx : x < t
      · go_wp2_with ((go_at_call 50; with_reducible refine Calls.mono (less_cmp _ _ _) ?_; rintro e w' ⟨rfl, rfl⟩))
        go_round
        case rel =>
          refine ⟨(i + j) / 2 + 1, j, by go_num, rfl, by omega, by omega, fun k hk => ?_, H.out.2⟩
          have h1 := HX.out
          by_cases e : k = (i + j) / 2
          · rw [e]; omega
          · have := HR.out k ((i + j) / 2) (by omega) (by rw [HL.out]; omega)
            omega
        case measure => simp [intOf]; omega
      · go_wp2_with ((go_at_call 50; with_reducible refine Calls.mono (less_cmp _ _ _) ?_; rintro e w' ⟨rfl, rfl⟩))
        go_round
        case rel =>
          refine ⟨i, (i + j) / 2, rfl, by go_num, by omega, by omega, H.out.1, fun k hk hk' => ?_⟩
          have h1 := HX.out
          by_cases e : k = (i + j) / 2
          · rw [e]; omega
          · have := HR.out ((i + j) / 2) k (by omega) (by rw [HL.out]; omega)
            omega
        case measure => simp [intOf]; omega
    · have hji : j = i := by omega
      subst hji
      by_cases hin : j < n
      · obtain ⟨x, HX, hcell⟩ : ∃ x, Hid (xs.getD j 0 = x) ∧ w.cell? ⟨g, off + j, none⟩ = some (.int .i64 x) := ⟨_, rfl, HC.out j hin⟩
        by_cases he : x = t
        · subst he
          have hb : (x == x) = true := by simp
          clear hlt
          have hlt : ¬ (j : Int) < (j : Int) := by omega
          go_wp2
          go_ret2
          refine ⟨⟨j, true, rfl, by rw [HL.out]; omega, H.out.1, fun k h1 h2 => H.out.2 k h1 (by rw [HL.out] at h2; exact h2), fun _ => ⟨by rw [HL.out]; exact hin, HX.out⟩, (fun h => (by cases h))⟩, rfl⟩
        · have hb : (x == t) = false := by simpa using he
          have HE := Lib.hid he
          clear hlt he
          have hlt : ¬ (j : Int) < (j : Int) := by omega
          go_wp2_with ((go_at_call 51; with_reducible refine Calls.mono (isNaN_slices _ _) ?_; rintro e w' ⟨rfl, rfl⟩))
          go_ret2
          refine ⟨⟨j, false, rfl, by rw [HL.out]; omega, H.out.1, fun k h1 h2 => H.out.2 k h1 (by rw [HL.out] at h2; exact h2), (fun h => (by cases h)), fun _ _ => ?_⟩, rfl⟩
          have := H.out.2 j (by omega) hin
          have := HE.out
          have := HX.out
          omega
      · clear hlt
        have hlt : ¬ (j : Int) < (j : Int) := by omega
        go_wp2
        go_ret2
        refine ⟨⟨j, false, rfl, by rw [HL.out]; omega, H.out.1, fun k h1 h2 => H.out.2 k h1 (by rw [HL.out] at h2; exact h2), (fun h => (by cases h)), fun _ h => ?_⟩, rfl⟩
        rw [HL.out] at h
        omega

end Go.Proofs.Ytcfmemnokecgbaa
