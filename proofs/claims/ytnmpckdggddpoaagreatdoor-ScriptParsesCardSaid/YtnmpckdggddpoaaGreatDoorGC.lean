/- How the reference reads a line: the plain law. The reference's small calls on a line: after, number, lines. The reference's small calls on a line: after. The reference's lines. How the reference reads a line, whole: the plain law. -/
import Derived.Test.YtnmpckdggddpoaaGreatDoorSc
import Derived.Test.YtnmpckdggddpoaaGreatDoorSb
import Derived.Test.YtnmpckdggddpoaaGreatDoorTc
import Derived.Test.YtnmpckdggddpoaaGreatDoorGB
import Derived.Test.YtnmpckdggddpoaaGreatDoorSy
namespace Go.Proofs.YtnmpckdggddpoaaGreatDoor
set_option linter.unusedSimpArgs false
set_option linter.unusedVariables false

theorem after_cut : ∀ (w s : List UInt8), (∀ b ∈ w, b ≠ 32) → (((w ++ [32]).isPrefixOf s = true ↔ (cutS 32 s).1 = w ∧ (cutS 32 s).2.2 = true) ∧ ((w ++ [32]).isPrefixOf s = true → s.drop (w.length + 1) = (cutS 32 s).2.1))
  | [], [], _ => by simp [List.isPrefixOf, cutS]
  | [], b :: l, _ => by
    unfold cutS
    by_cases hb : b = 32
    · subst hb; simp [List.isPrefixOf]
    · rw [if_neg hb]
      have : ¬ ([] ++ [32] : List UInt8).isPrefixOf (b :: l) = true := by simp [List.isPrefixOf]; exact fun h => hb h.symm
      simp [this]
      exact ⟨fun h => hb h.symm, fun h => absurd h.symm hb⟩
  | c :: w, [], _ => by simp [List.isPrefixOf, cutS]
  | c :: w, b :: l, h => by
    have ih := after_cut w l (fun x hx => h x (List.mem_cons_of_mem _ hx))
    have hc := h c List.mem_cons_self
    have hp : (c :: w ++ [32]).isPrefixOf (b :: l) = ((c == b) && (w ++ [32]).isPrefixOf l) := rfl
    rw [hp]
    unfold cutS
    by_cases hb : b = 32
    · subst hb
      have : (c == 32) = false := by simpa using hc
      simp [this]
    · rw [if_neg hb]
      by_cases hcb : c = b
      · subst hcb
        rw [beq_self_eq_true, Bool.true_and]
        refine ⟨?_, ih.2⟩
        rw [ih.1]
        simp
      · have : (c == b) = false := by simpa using hcb
        rw [this]
        simp
        exact fun h => absurd h.symm hcb

end Go.Proofs.YtnmpckdggddpoaaGreatDoor

namespace Go.Proofs.YtnmpckdggddpoaaGreatDoor
set_option linter.unusedSimpArgs false
set_option linter.unusedVariables false
open Go.RowKit Go.Shelf Go.Lib

theorem ext_bs (s : ByteArray) (a b : Nat) : s.extract a b = bs ((s.data.toList.take b).drop a) := by
  apply ByteArray.ext
  rw [ByteArray.data_extract]
  apply Array.ext'
  simp [bs, List.drop_take]
theorem bs_size (l : List UInt8) : (bs l).size = l.length := by show l.toArray.size = _; simp
theorem bs_of (s : ByteArray) : bs s.data.toList = s := bstr s

def numR (l : List UInt8) : Int := match numB l with | none => -1 | some n => (n : Nat)
theorem numV_snoc (l : List UInt8) (c : UInt8) : ∀ acc, numV acc (l ++ [c]) = numV acc l * 10 + (c.toNat - 48) := by
  induction l with
  | nil => intro acc; rfl
  | cons b l ih => intro acc; exact ih _

set_option maxRecDepth 100000 in
set_option maxHeartbeats 4000000 in
theorem ref_number_go (s : ByteArray) (w : World) (h0 : Hid (s.data.toList ≠ [])) (h18 : s.size ≤ 18) (c0 : UInt8) (hc0 : s.data.toList[0]? = some c0) (hz : ¬ (c0 = 48 ∧ 1 < s.size)) :
    Calls Tryz.prog 31 #[.string s] w fun e w' => e = .returned (.int .i64 (numR s.data.toList)) ∧ w = w' := by
  have hL : Hid (s.data.toList.length = s.size) := Lib.hid Array.length_toList
  have h0' : s.toList.isEmpty = false := ne_empty h0.out
  have h18' : ¬ (18 : Int) < (s.size : Int) := by omega
  have hb0 := byte_at hc0
  have hsz : (0 : Int) < (s.size : Int) := by
    have h1 := (List.getElem?_eq_some_iff.1 hc0).1
    rw [hL.out] at h1
    omega
  have HH : Hid (s.data.toList.head? = some c0) := Lib.hid (by rw [← hc0]; exact List.head?_eq_getElem?)
  have HZ := Lib.hid hz
  obtain ⟨T, HT⟩ : ∃ T, Hid (numR s.data.toList = T) := ⟨_, rfl⟩
  rw [HT.out]
  clear hc0
  by_cases h1 : (1 : Int) < (s.size : Int)
  · have hz2 : ((c0.toNat : Int) == 48) = false := bne8 c0 48 (fun h => hz ⟨h, by omega⟩) (by decide)
    clear hz
    go_enter Tryz.func31, Tryz.ntmps31
    go_wp2_with (fail)
    go_loop [3, 4] (fun n i => ∃ j : Nat, i = .int .i64 j ∧ j ≤ s.size ∧ Hid (∀ b ∈ s.data.toList.take j, digB b = true) ∧ n = .int .i64 (numV 0 (s.data.toList.take j) : Nat)) (fun _ i => s.size - (RowKit.intOf i).toNat)
    case atStart => exact ⟨0, rfl, by omega, by intro b hb; simp at hb, rfl⟩
    case round =>
      obtain ⟨j, rfl, hj, hall, rfl⟩ := hrel
      have j0 : (0 : Int) ≤ (j : Int) := by omega
      rcases Nat.lt_or_ge j s.size with hlt | hge
      · obtain ⟨c, hc⟩ : ∃ c, s.data.toList[j]? = some c := ⟨_, List.getElem?_eq_getElem (by rw [hL.out]; exact hlt)⟩
        have hb := byte_at hc
        have hlt' : (j : Int) < (s.size : Int) := by omega
        have hmem : c ∈ s.data.toList := List.mem_of_getElem? hc
        have htk : s.data.toList.take (j + 1) = s.data.toList.take j ++ [c] := by
          obtain ⟨h1, h2⟩ := List.getElem?_eq_some_iff.1 hc
          rw [List.take_succ_eq_append_getElem h1, h2]
        by_cases hd : digB c = true
        · have hdd := (digB_iff c).1 hd
          have hnv : numV 0 (s.data.toList.take j) < 100000000000000000 := by
            have h1 := numV_lt (s.data.toList.take j) hall.out 0
            have h2 : (s.data.toList.take j).length ≤ 17 := by rw [List.length_take]; omega
            have h3 : (10 : Nat) ^ (s.data.toList.take j).length ≤ 10 ^ 17 := Nat.pow_le_pow_right (by omega) h2
            have h4 : (10 : Nat) ^ 17 = 100000000000000000 := by decide
            omega
          have HN1 : Hid (numV 0 (s.data.toList.take (j + 1)) = numV 0 (s.data.toList.take j) * 10 + (c.toNat - 48)) := Lib.hid (by rw [htk]; exact numV_snoc _ _ _)
          have HA1 : Hid (∀ b ∈ s.data.toList.take (j + 1), digB b = true) := Lib.hid (by
            intro b hb
            rw [htk, List.mem_append, List.mem_singleton] at hb
            rcases hb with hb | rfl
            · exact hall.out b hb
            · exact hd)
          obtain ⟨N, hN⟩ : ∃ N, Hid (numV 0 (s.data.toList.take j) = N) := ⟨_, rfl⟩
          rw [hN.out] at hnv ⊢
          have t1 : ¬ (c.toNat : Int) < 48 := by omega
          have t2 : ¬ (57 : Int) < (c.toNat : Int) := by omega
          have e1 : IntKind.u8.wrap ((c.toNat : Int) - 48) = (c.toNat : Int) - 48 := IntWalk.u8_in _ (by omega)
          have e2 : IntKind.i64.wrap ((j : Int) + 1) = (j : Int) + 1 := IntWalk.i64_in _ (by omega)
          have e3 : IntKind.i64.wrap ((N : Int) * 10) = (N : Int) * 10 := IntWalk.i64_in _ (by omega)
          have e4 : IntKind.i64.wrap ((N : Int) * 10 + ((c.toNat : Int) - 48)) = (N : Int) * 10 + ((c.toNat : Int) - 48) := IntWalk.i64_in _ (by omega)
          have e5 : IntKind.i64.wrap ((c.toNat : Int) - 48) = (c.toNat : Int) - 48 := IntWalk.i64_in _ (by omega)
          clear hc hmem htk hd hall
          go_wp2_with (fail)
          go_round
          case rel => exact ⟨j + 1, by go_num, by omega, HA1, by rw [HN1.out, hN.out]; go_num⟩
          case measure => simp [RowKit.intOf]; omega
        · have hno : T = -1 := by
            rw [← HT.out]
            unfold numR
            rw [numB_none (.inr (.inr (.inl (by rw [← Bool.not_eq_true]; intro h; exact hd (List.all_eq_true.1 h c hmem)))))]
          have HNO := Lib.hid hno
          clear hno hc hmem htk
          by_cases hlo : (c.toNat : Int) < 48
          · clear hd
            go_wp2_with (fail)
            go_ret
            exact ⟨by rw [HNO.out]; rfl, rfl⟩
          · have hhi : (57 : Int) < (c.toNat : Int) := by
              have h1 : ¬ (48 ≤ c.toNat ∧ c.toNat ≤ 57) := fun h => hd ((digB_iff c).2 h)
              omega
            clear hd
            go_wp2_with (fail)
            go_ret
            exact ⟨by rw [HNO.out]; rfl, rfl⟩
      · obtain rfl : j = s.size := by omega
        have hlt' : ¬ (s.size : Int) < (s.size : Int) := by omega
        have hfin : T = ((numV 0 (s.data.toList.take s.size) : Nat) : Int) := by
          have htk : s.data.toList.take s.size = s.data.toList := List.take_of_length_le (by rw [hL.out]; omega)
          have hall' := hall.out
          rw [htk] at hall' ⊢
          rw [← HT.out]
          unfold numR
          rw [numB_some (by
            rintro (h | h | h | h)
            · exact h0.out h
            · rw [hL.out] at h; omega
            · rw [List.all_eq_true.2 hall'] at h; cases h
            · rw [HH.out] at h; exact HZ.out ⟨Option.some.inj h.1, by rw [← hL.out]; exact h.2⟩)]
        have HF := Lib.hid hfin
        clear hfin hall
        go_wp2_with (fail)
        go_ret
        exact ⟨by rw [HF.out]; rfl, rfl⟩
  · clear hz
    go_enter Tryz.func31, Tryz.ntmps31
    go_wp2_with (fail)
    go_loop [3, 4] (fun n i => ∃ j : Nat, i = .int .i64 j ∧ j ≤ s.size ∧ Hid (∀ b ∈ s.data.toList.take j, digB b = true) ∧ n = .int .i64 (numV 0 (s.data.toList.take j) : Nat)) (fun _ i => s.size - (RowKit.intOf i).toNat)
    case atStart => exact ⟨0, rfl, by omega, by intro b hb; simp at hb, rfl⟩
    case round =>
      obtain ⟨j, rfl, hj, hall, rfl⟩ := hrel
      have j0 : (0 : Int) ≤ (j : Int) := by omega
      rcases Nat.lt_or_ge j s.size with hlt | hge
      · obtain ⟨c, hc⟩ : ∃ c, s.data.toList[j]? = some c := ⟨_, List.getElem?_eq_getElem (by rw [hL.out]; exact hlt)⟩
        have hb := byte_at hc
        have hlt' : (j : Int) < (s.size : Int) := by omega
        have hmem : c ∈ s.data.toList := List.mem_of_getElem? hc
        have htk : s.data.toList.take (j + 1) = s.data.toList.take j ++ [c] := by
          obtain ⟨h1, h2⟩ := List.getElem?_eq_some_iff.1 hc
          rw [List.take_succ_eq_append_getElem h1, h2]
        by_cases hd : digB c = true
        · have hdd := (digB_iff c).1 hd
          have hnv : numV 0 (s.data.toList.take j) < 100000000000000000 := by
            have h1 := numV_lt (s.data.toList.take j) hall.out 0
            have h2 : (s.data.toList.take j).length ≤ 17 := by rw [List.length_take]; omega
            have h3 : (10 : Nat) ^ (s.data.toList.take j).length ≤ 10 ^ 17 := Nat.pow_le_pow_right (by omega) h2
            have h4 : (10 : Nat) ^ 17 = 100000000000000000 := by decide
            omega
          have HN1 : Hid (numV 0 (s.data.toList.take (j + 1)) = numV 0 (s.data.toList.take j) * 10 + (c.toNat - 48)) := Lib.hid (by rw [htk]; exact numV_snoc _ _ _)
          have HA1 : Hid (∀ b ∈ s.data.toList.take (j + 1), digB b = true) := Lib.hid (by
            intro b hb
            rw [htk, List.mem_append, List.mem_singleton] at hb
            rcases hb with hb | rfl
            · exact hall.out b hb
            · exact hd)
          obtain ⟨N, hN⟩ : ∃ N, Hid (numV 0 (s.data.toList.take j) = N) := ⟨_, rfl⟩
          rw [hN.out] at hnv ⊢
          have t1 : ¬ (c.toNat : Int) < 48 := by omega
          have t2 : ¬ (57 : Int) < (c.toNat : Int) := by omega
          have e1 : IntKind.u8.wrap ((c.toNat : Int) - 48) = (c.toNat : Int) - 48 := IntWalk.u8_in _ (by omega)
          have e2 : IntKind.i64.wrap ((j : Int) + 1) = (j : Int) + 1 := IntWalk.i64_in _ (by omega)
          have e3 : IntKind.i64.wrap ((N : Int) * 10) = (N : Int) * 10 := IntWalk.i64_in _ (by omega)
          have e4 : IntKind.i64.wrap ((N : Int) * 10 + ((c.toNat : Int) - 48)) = (N : Int) * 10 + ((c.toNat : Int) - 48) := IntWalk.i64_in _ (by omega)
          have e5 : IntKind.i64.wrap ((c.toNat : Int) - 48) = (c.toNat : Int) - 48 := IntWalk.i64_in _ (by omega)
          clear hc hmem htk hd hall
          go_wp2_with (fail)
          go_round
          case rel => exact ⟨j + 1, by go_num, by omega, HA1, by rw [HN1.out, hN.out]; go_num⟩
          case measure => simp [RowKit.intOf]; omega
        · have hno : T = -1 := by
            rw [← HT.out]
            unfold numR
            rw [numB_none (.inr (.inr (.inl (by rw [← Bool.not_eq_true]; intro h; exact hd (List.all_eq_true.1 h c hmem)))))]
          have HNO := Lib.hid hno
          clear hno hc hmem htk
          by_cases hlo : (c.toNat : Int) < 48
          · clear hd
            go_wp2_with (fail)
            go_ret
            exact ⟨by rw [HNO.out]; rfl, rfl⟩
          · have hhi : (57 : Int) < (c.toNat : Int) := by
              have h1 : ¬ (48 ≤ c.toNat ∧ c.toNat ≤ 57) := fun h => hd ((digB_iff c).2 h)
              omega
            clear hd
            go_wp2_with (fail)
            go_ret
            exact ⟨by rw [HNO.out]; rfl, rfl⟩
      · obtain rfl : j = s.size := by omega
        have hlt' : ¬ (s.size : Int) < (s.size : Int) := by omega
        have hfin : T = ((numV 0 (s.data.toList.take s.size) : Nat) : Int) := by
          have htk : s.data.toList.take s.size = s.data.toList := List.take_of_length_le (by rw [hL.out]; omega)
          have hall' := hall.out
          rw [htk] at hall' ⊢
          rw [← HT.out]
          unfold numR
          rw [numB_some (by
            rintro (h | h | h | h)
            · exact h0.out h
            · rw [hL.out] at h; omega
            · rw [List.all_eq_true.2 hall'] at h; cases h
            · rw [HH.out] at h; exact HZ.out ⟨Option.some.inj h.1, by rw [← hL.out]; exact h.2⟩)]
        have HF := Lib.hid hfin
        clear hfin hall
        go_wp2_with (fail)
        go_ret
        exact ⟨by rw [HF.out]; rfl, rfl⟩

theorem ref_number (s : ByteArray) (w : World) (hs : s.size ≤ 9223372036854775806) :
    Calls Tryz.prog 31 #[.string s] w fun e w' => e = .returned (.int .i64 (numR s.data.toList)) ∧ w = w' := by
  have hL : s.data.toList.length = s.size := Array.length_toList
  by_cases h0 : s.data.toList = []
  · have hr : numR s.data.toList = -1 := by unfold numR; rw [numB_none (.inl h0)]
    rw [hr]
    have he : s.toList.isEmpty = true := is_empty h0
    go_enter Tryz.func31, Tryz.ntmps31
    go_wp2_with (fail)
    go_ret
    exact ⟨rfl, rfl⟩
  have h0' : s.toList.isEmpty = false := ne_empty h0
  by_cases h18 : 18 < s.size
  · have hr : numR s.data.toList = -1 := by unfold numR; rw [numB_none (.inr (.inl (by omega)))]
    rw [hr]
    have he : (18 : Int) < (s.size : Int) := by omega
    go_enter Tryz.func31, Tryz.ntmps31
    go_wp2_with (fail)
    go_ret
    exact ⟨rfl, rfl⟩
  obtain ⟨c0, hc0⟩ : ∃ c, s.data.toList[0]? = some c := by
    cases hl : s.data.toList with
    | nil => exact absurd hl h0
    | cons c r => exact ⟨c, rfl⟩
  by_cases hz : c0 = 48 ∧ 1 < s.size
  · have hb0 := byte_at hc0
    have hhead : s.data.toList.head? = some c0 := by rw [← hc0]; exact List.head?_eq_getElem?
    have hr : numR s.data.toList = -1 := by unfold numR; rw [numB_none (.inr (.inr (.inr ⟨by rw [hhead, hz.1], by omega⟩)))]
    rw [hr]
    have t1 : ((c0.toNat : Int) == 48) = true := by rw [hz.1]; rfl
    have t2 : (1 : Int) < (s.size : Int) := by have := hz.2; omega
    have t3 : (0 : Int) < (s.size : Int) := by omega
    have h18' : ¬ (18 : Int) < (s.size : Int) := by omega
    clear hz hhead hc0
    go_enter Tryz.func31, Tryz.ntmps31
    go_wp2_with (fail)
    go_ret
    exact ⟨rfl, rfl⟩
  · exact ref_number_go s w (Lib.hid h0) (by omega) c0 hc0 hz

end Go.Proofs.YtnmpckdggddpoaaGreatDoor

namespace Go.Proofs.YtnmpckdggddpoaaGreatDoor
set_option linter.unusedSimpArgs false
set_option linter.unusedVariables false
open Go.RowKit Go.Shelf Go.Lib

/-- Behind a word and a blank. -/
def aftB (s w : List UInt8) : Bool := (w ++ [32]).isPrefixOf s
theorem aft_iff (s w : List UInt8) : aftB s w = true ↔ w.length + 1 ≤ s.length ∧ s.take (w.length + 1) = w ++ [32] := by
  unfold aftB
  rw [List.isPrefixOf_iff_prefix, List.prefix_iff_eq_take]
  simp only [List.length_append, List.length_cons, List.length_nil]
  constructor
  · intro h
    have h1 := congrArg List.length h
    simp only [List.length_append, List.length_cons, List.length_nil, List.length_take] at h1
    exact ⟨by omega, h.symm⟩
  · exact fun h => h.2.symm

set_option maxHeartbeats 1000000 in
theorem ref_after (s t : ByteArray) (w : World) (hs : s.size ≤ 9223372036854775806) (ht : t.size ≤ 100) :
    Calls Tryz.prog 30 #[.string s, .string t] w fun e w' =>
      e = .returned (.tuple #[.string (if aftB s.data.toList t.data.toList then s.extract (t.size + 1) s.size else ⟨#[]⟩), .bool (aftB s.data.toList t.data.toList)]) ∧ w' = w := by
  have hL : s.data.toList.length = s.size := Array.length_toList
  have hT : t.data.toList.length = t.size := Array.length_toList
  have e1 : IntKind.i64.wrap ((t.size : Int) + 1) = ((t.size + 1 : Nat) : Int) := (IntWalk.i64_in _ (by omega)).trans (by omega)
  obtain ⟨n, hn⟩ : ∃ n, n = t.size + 1 := ⟨_, rfl⟩
  rw [← hn] at e1 ⊢
  by_cases h : s.size < n
  · have hq : aftB s.data.toList t.data.toList = false := by
      rw [← Bool.not_eq_true, aft_iff]; omega
    rw [hq]
    have h1 : (s.size : Int) < (n : Int) := by omega
    clear hn hq hL hT h
    go_enter Tryz.func30, Tryz.ntmps30
    go_wp2_with (fail)
    go_ret2
    exact ⟨rfl, rfl⟩
  · have h1 : ¬ (s.size : Int) < (n : Int) := by omega
    have k1 : (n : Int) ≤ (s.size : Int) := by omega
    have k0 : (0 : Int) ≤ (n : Int) := by omega
    have hx : (s.extract 0 n).toList = s.data.toList.take n := by rw [ByteArray.toList_eq]; simp
    have hy : (t ++ ⟨#[32]⟩ : ByteArray).toList = t.data.toList ++ [32] := by rw [ByteArray.toList_eq]; simp
    obtain ⟨q, hq⟩ : ∃ q, aftB s.data.toList t.data.toList = q := ⟨_, rfl⟩
    have hqq : ((s.extract 0 n).toList == (t ++ ⟨#[32]⟩ : ByteArray).toList) = q := by
      rw [hx, hy, ← hq, Bool.eq_iff_iff, beq_iff_eq, aft_iff, hT, hL, ← hn]
      exact ⟨fun h2 => ⟨by omega, h2⟩, fun h2 => h2.2⟩
    have hqn : ((s.extract 0 n).toList != (t ++ ⟨#[32]⟩ : ByteArray).toList) = !q := by rw [bne, hqq]
    rw [hq]
    clear hn hq hL hT h hx hy
    cases q
    · go_enter Tryz.func30, Tryz.ntmps30
      go_wp2_with (fail)
      go_ret2
      exact ⟨rfl, rfl⟩
    · go_enter Tryz.func30, Tryz.ntmps30
      go_wp2_with (fail)
      go_ret2
      exact ⟨rfl, rfl⟩

end Go.Proofs.YtnmpckdggddpoaaGreatDoor

namespace Go.Proofs.YtnmpckdggddpoaaGreatDoor
set_option linter.unusedSimpArgs false
set_option linter.unusedVariables false
open Go.RowKit Go.Shelf Go.Lib

theorem ulStrs : Tryz.prog.underlying 42 = some (.slice 9) := by kernel_rfl
theorem infoStr : (Tryz.prog.info? 9).map (fun i => (i.zero, i.size, i.bytes)) = some (some (.string ⟨#[]⟩), 1, 16) := by kernel_rfl
def strB (l : List (List UInt8)) : List Value := l.map fun x => .string (bs x)
theorem strB_len (l : List (List UInt8)) : (strB l).length = l.length := by simp [strB]
theorem strB_snoc (l : List (List UInt8)) (x : List UInt8) : strB (l ++ [x]) = strB l ++ [.string (bs x)] := by simp [strB]


def LnR (s : ByteArray) (w : World) (e : Ending) (w' : World) : Prop :=
  ∃ v, e = .returned v ∧ Sl w' v 9 1 (linesG [] s.data.toList).length (strB (linesG [] s.data.toList)) ∧ Below w.heap.size w w' ∧ (∀ q ∈ own v, w.heap.size ≤ q)

set_option maxRecDepth 100000 in
set_option maxHeartbeats 4000000 in
theorem ref_lines (s : ByteArray) (w : World) (hs : s.size ≤ 65536) : Calls Tryz.prog 29 #[.string s] w (LnR s w) := by
  obtain ⟨i0, hi, hz0, hz1, hz2⟩ := info_parts infoStr
  obtain ⟨T, hT⟩ : ∃ T, Hid (linesG [] s.data.toList = T) := ⟨_, rfl⟩
  have hTl : Hid (T.length ≤ 65536) := Lib.hid (by rw [← hT.out]; have := linesG_le s.data.toList; rw [size_toList] at this; omega)
  unfold LnR
  rw [hT.out]
  go_enter Tryz.func29, Tryz.ntmps29
  go_wp2_with (fail)
  go_loopw [3, 4, 5] (fun lv fv iv wr => ∃ (i f : Nat) (L : List (List UInt8)), fv = .int .i64 f ∧ iv = .int .i64 i ∧ f ≤ i ∧ i ≤ s.size ∧ L.length ≤ i ∧ Hid (T = L ++ linesG ((s.data.toList.take i).drop f) (s.data.toList.drop i)) ∧ Sl wr lv 9 1 L.length (strB L) ∧ Hid (Below w.heap.size w wr) ∧ Hid (∀ q ∈ own lv, w.heap.size ≤ q)) (fun _ _ iv _ => s.size - (RowKit.intOf iv).toNat)
  case atStart =>
    refine ⟨0, 0, [], rfl, rfl, by omega, by omega, by simp, hT.out.symm, Sl.ofBlk (Blk.new' (c := []) rfl) rfl (by unfold maxLen; omega), (Below.refl _ w).alloc (Nat.le_refl _) _, fun q hq => by simp [own, Value.ownBlock] at hq; omega⟩
  case round =>
    obtain ⟨i, f, L, rfl, rfl, hfi, hi2, hLi, HL, hS, HB, HN⟩ := hrel
    have HS := Lib.hid hS
    have i00 : (0 : Int) ≤ (i : Int) := by omega
    have f00 : (0 : Int) ≤ (f : Int) := by omega
    have fi0 : (f : Int) ≤ (i : Int) := by omega
    have is0 : (i : Int) ≤ (s.size : Int) := by omega
    rcases Nat.lt_or_ge i s.size with hlt | hge
    · have hlt' : (i : Int) < (s.size : Int) := by omega
      obtain ⟨c, hc⟩ : ∃ c, s.data.toList[i]? = some c := ⟨_, List.getElem?_eq_getElem (by rw [size_toList]; exact hlt)⟩
      have hb := byte_at hc
      have e1 : IntKind.i64.wrap ((i : Int) + 1) = (i : Int) + 1 := IntWalk.i64_in _ (by omega)
      have hdi : s.data.toList.drop i = c :: s.data.toList.drop (i + 1) := by
        obtain ⟨h1, h2⟩ := List.getElem?_eq_some_iff.1 hc
        rw [List.drop_eq_getElem_cons h1, h2]
      have htk : s.data.toList.take (i + 1) = s.data.toList.take i ++ [c] := by
        obtain ⟨h1, h2⟩ := List.getElem?_eq_some_iff.1 hc
        rw [List.take_succ_eq_append_getElem h1, h2]
      by_cases h10 : c = 10
      · have t10 : ((c.toNat : Int) == 10) = true := by rw [h10]; rfl
        have HL2 : Hid (T = (L ++ [(s.data.toList.take i).drop f]) ++ linesG ((s.data.toList.take (i + 1)).drop (i + 1)) (s.data.toList.drop (i + 1))) := Lib.hid (by
          have h1 := HL.out
          rw [hdi, linesG_cons, if_pos h10] at h1
          have hnil : (s.data.toList.take (i + 1)).drop (i + 1) = [] := List.drop_eq_nil_of_le (by rw [List.length_take]; exact Nat.min_le_left _ _)
          rw [h1, hnil]
          simp)
        clear hS hc hdi htk h10
        go_wp2_with (at_builtin; go_loud (refine wpList_app _ rfl (.tmp 17) (.tmp 22) 42 rfl 9 i0 (.string ⟨#[]⟩) 1 16 ulStrs hi hz0 hz1 hz2 rfl _ L.length (strB L) rfl ?hown _ 1 1 [.string (s.extract f i)] rfl rfl (by exact cell_new1 (by simp)) (by exact one_cell1 rfl) (by unfold maxLen; omega) (by omega) ?go))
        case hown => exact HS.out.alloc _
        case go =>
          intro ad' cap' w2 hs2 hU2
          have HS2 := Lib.hid hs2
          have HU2 := Lib.hid hU2
          clear hs2 hU2
          go_wp2_with (fail)
          go_roundw
          case rel =>
            have b1 := HB.out.alloc HB.out.size (.cells #[.string (s.extract f i)] 9)
            refine ⟨i + 1, i + 1, _, by go_num, by go_num, by omega, by omega, by simp; omega, HL2, ?_, b1.trans (HU2.out.fr.below b1.size HN.out), fun q hq => ?_⟩
            · rw [strB_snoc, List.length_append, ← ext_bs]; exact HS2.out
            · rcases HU2.out.new q hq with h | h
              · exact HN.out q h
              · have := HB.out.size
                simp at h
                omega
          case measure => simp [RowKit.intOf]; omega
      · have t10 : ((c.toNat : Int) == 10) = false := bne8 c 10 h10 (by decide)
        have HL2 : Hid (T = L ++ linesG ((s.data.toList.take (i + 1)).drop f) (s.data.toList.drop (i + 1))) := Lib.hid (by
          have h1 := HL.out
          rw [hdi, linesG_cons, if_neg h10] at h1
          rw [h1, htk, List.drop_append_of_le_length (by rw [List.length_take, size_toList]; omega)])
        clear hS hc hdi htk h10
        go_wp2_with (fail)
        go_roundw
        case rel => exact ⟨i + 1, f, L, rfl, by go_num, by omega, by omega, by omega, HL2, HS.out, HB, HN⟩
        case measure => simp [RowKit.intOf]; omega
    · obtain rfl : i = s.size := by omega
      have hlt' : ¬ (s.size : Int) < (s.size : Int) := by omega
      have hls : s.data.toList.take s.size = s.data.toList := List.take_of_length_le (by rw [size_toList]; omega)
      have hl0 : s.data.toList.drop s.size = [] := List.drop_eq_nil_of_le (by rw [size_toList]; omega)
      have hTT := HL.out
      rw [hls, hl0] at hTT
      by_cases hf : f < s.size
      · have hf' : (f : Int) < (s.size : Int) := by omega
        have HT2 : Hid (T = L ++ [(s.data.toList.take s.size).drop f]) := Lib.hid (by
          have hne : s.data.toList.drop f ≠ [] := by
            intro h
            have := congrArg List.length h
            rw [List.length_drop, size_toList] at this
            simp at this
            omega
          rw [hTT, hls]
          simp only [linesG]
          rw [if_neg hne])
        clear hS hls hl0 hTT hf
        go_wp2_with (at_builtin; go_loud (refine wpList_app _ rfl (.tmp 30) (.tmp 34) 42 rfl 9 i0 (.string ⟨#[]⟩) 1 16 ulStrs hi hz0 hz1 hz2 rfl _ L.length (strB L) rfl ?hown _ 1 1 [.string (s.extract f s.size)] rfl rfl (by exact cell_new1 (by simp)) (by exact one_cell1 rfl) (by unfold maxLen; omega) (by omega) ?go))
        case hown => exact HS.out.alloc _
        case go =>
          intro ad' cap' w2 hs2 hU2
          have HS2 := Lib.hid hs2
          have HU2 := Lib.hid hU2
          clear hs2 hU2
          go_wp2_with (fail)
          go_ret
          have b1 := HB.out.alloc HB.out.size (.cells #[.string (s.extract f s.size)] 9)
          refine ⟨_, rfl, ?_, b1.trans (HU2.out.fr.below b1.size HN.out), fun q hq => ?_⟩
          · rw [HT2.out, strB_snoc, List.length_append, ← ext_bs]; exact HS2.out
          · rcases HU2.out.new q hq with h | h
            · exact HN.out q h
            · have := HB.out.size
              simp at h
              omega
      · have hf' : ¬ (f : Int) < (s.size : Int) := by omega
        have HT2 : Hid (T = L) := Lib.hid (by
          have he : s.data.toList.drop f = [] := List.drop_eq_nil_of_le (by rw [size_toList]; omega)
          rw [hTT, he]
          simp [linesG])
        clear hS hls hl0 hTT hf
        go_wp2_with (fail)
        go_ret
        refine ⟨_, rfl, ?_, HB.out, HN.out⟩
        rw [HT2.out]; exact HS.out

end Go.Proofs.YtnmpckdggddpoaaGreatDoor

namespace Go.Proofs.YtnmpckdggddpoaaGreatDoor
set_option linter.unusedSimpArgs false
set_option linter.unusedVariables false
open Go.RowKit Go.Shelf Go.Lib

def rW : List ByteArray := [bs wCells, bs wStack, bs wLine, bs wRun]
/-- The word that a line begins with, among the first k, and what stands behind it. -/
def pickW (x : ByteArray) : Nat → ByteArray × ByteArray
  | 0 => (⟨#[]⟩, ⟨#[]⟩)
  | k + 1 => if aftB x.data.toList (rW.getD k ⟨#[]⟩).data.toList then (rW.getD k ⟨#[]⟩, x.extract ((rW.getD k ⟨#[]⟩).size + 1) x.size) else pickW x k
def ClsR (X : List UInt8) (a b : ByteArray) : Prop :=
  ((cutS 32 X).1 = wCells ∧ (cutS 32 X).2.2 = true ∧ a = bs wCells ∧ b = bs (cutS 32 X).2.1) ∨ ((cutS 32 X).1 = wStack ∧ (cutS 32 X).2.2 = true ∧ a = bs wStack ∧ b = bs (cutS 32 X).2.1) ∨
  ((cutS 32 X).1 = wLine ∧ (cutS 32 X).2.2 = true ∧ a = bs wLine ∧ b = bs (cutS 32 X).2.1) ∨ ((cutS 32 X).1 = wRun ∧ (cutS 32 X).2.2 = true ∧ a = bs wRun ∧ b = bs (cutS 32 X).2.1) ∨
  ((cutS 32 X).1 = wColl ∧ (cutS 32 X).2.2 = false ∧ a = bs wColl ∧ b = ⟨#[]⟩) ∨ ((∀ p, stepS p X = .inl 5) ∧ a = ⟨#[]⟩ ∧ b = ⟨#[]⟩)

theorem cut_no : ∀ l : List UInt8, (cutS 32 l).2.2 = false → (cutS 32 l).1 = l ∧ (cutS 32 l).2.1 = []
  | [], _ => ⟨rfl, rfl⟩
  | b :: l, h => by
    rw [cutS_cons] at h ⊢
    by_cases hb : b = 32
    · rw [if_pos hb] at h; cases h
    · rw [if_neg hb] at h ⊢
      have := cut_no l h
      exact ⟨by rw [this.1], this.2⟩
theorem aft_of {X w : List UInt8} (hw : ∀ b ∈ w, b ≠ 32) : aftB X w = true ↔ (cutS 32 X).1 = w ∧ (cutS 32 X).2.2 = true := (after_cut w X hw).1
theorem aft_rest {x : ByteArray} {w : List UInt8} (hw : ∀ b ∈ w, b ≠ 32) (h : aftB x.data.toList w = true) : x.extract ((bs w).size + 1) x.size = bs (cutS 32 x.data.toList).2.1 := by
  rw [ext_bs, bs_size, ← (after_cut w x.data.toList hw).2 h, List.take_of_length_le (by rw [size_toList]; exact Nat.le_refl _)]
theorem pick_step {x : ByteArray} {k : Nat} {w : List UInt8} (hk : rW.getD k ⟨#[]⟩ = bs w) : pickW x (k + 1) = if aftB x.data.toList w then (bs w, x.extract ((bs w).size + 1) x.size) else pickW x k := by
  simp only [pickW]
  rw [hk, bs_toList]
theorem bad_of {X : List UInt8} (h1 : ¬ ((cutS 32 X).1 = wCells ∧ (cutS 32 X).2.2 = true)) (h2 : ¬ ((cutS 32 X).1 = wStack ∧ (cutS 32 X).2.2 = true)) (h3 : ¬ ((cutS 32 X).1 = wLine ∧ (cutS 32 X).2.2 = true))
    (h4 : ¬ ((cutS 32 X).1 = wRun ∧ (cutS 32 X).2.2 = true)) (h5 : ¬ X = wColl) (p : Sp) : stepS p X = .inl 5 := by
  by_cases hw : (cutS 32 X).1 = wCells ∨ (cutS 32 X).1 = wStack
  · have hm : (cutS 32 X).2.2 = false := by
      rw [← Bool.not_eq_true]
      intro hm
      rcases hw with h | h
      · exact h1 ⟨h, hm⟩
      · exact h2 ⟨h, hm⟩
    exact step_bad hw (by rw [(cut_no X hm).2]; rfl)
  · unfold stepS
    rw [if_neg hw]
    have : actS (cutS 32 X).1 (cutS 32 X).2.1 (cutS 32 X).2.2 = none := by
      unfold actS
      rw [if_neg h3, if_neg h4, if_neg]
      rintro ⟨hc, hm⟩
      exact h5 ((cut_no X hm).1.symm.trans hc)
    rw [this]
theorem pick_cls (x : ByteArray) : (x.data.toList = wColl → ClsR x.data.toList (bs wColl) (pickW x 4).2) ∧ (¬ x.data.toList = wColl → ClsR x.data.toList (pickW x 4).1 (pickW x 4).2) := by
  have n1 : ∀ b ∈ wCells, b ≠ 32 := by decide
  have n2 : ∀ b ∈ wStack, b ≠ 32 := by decide
  have n3 : ∀ b ∈ wLine, b ≠ 32 := by decide
  have n4 : ∀ b ∈ wRun, b ≠ 32 := by decide
  have p4 : pickW x 4 = _ := pick_step (k := 3) (w := wRun) rfl
  have p3 : pickW x 3 = _ := pick_step (k := 2) (w := wLine) rfl
  have p2 : pickW x 2 = _ := pick_step (k := 1) (w := wStack) rfl
  have p1 : pickW x 1 = _ := pick_step (k := 0) (w := wCells) rfl
  constructor
  · intro h
    have e1 : cutS 32 x.data.toList = (wColl, [], false) := by rw [h]; decide
    have hno : ∀ w, (∀ b ∈ w, b ≠ 32) → aftB x.data.toList w = false := fun w hw => by
      rw [← Bool.not_eq_true, aft_of hw, e1]
      rintro ⟨_, h⟩
      cases h
    rw [p4, hno _ n4, p3, hno _ n3, p2, hno _ n2, p1, hno _ n1]
    exact .inr (.inr (.inr (.inr (.inl ⟨by rw [e1], by rw [e1], rfl, rfl⟩))))
  · intro h
    by_cases a4 : aftB x.data.toList wRun = true
    · rw [p4, if_pos a4]
      have := (aft_of n4).1 a4
      exact .inr (.inr (.inr (.inl ⟨this.1, this.2, rfl, aft_rest n4 a4⟩)))
    rw [p4, if_neg a4]
    by_cases a3 : aftB x.data.toList wLine = true
    · rw [p3, if_pos a3]
      have := (aft_of n3).1 a3
      exact .inr (.inr (.inl ⟨this.1, this.2, rfl, aft_rest n3 a3⟩))
    rw [p3, if_neg a3]
    by_cases a2 : aftB x.data.toList wStack = true
    · rw [p2, if_pos a2]
      have := (aft_of n2).1 a2
      exact .inr (.inl ⟨this.1, this.2, rfl, aft_rest n2 a2⟩)
    rw [p2, if_neg a2]
    by_cases a1 : aftB x.data.toList wCells = true
    · rw [p1, if_pos a1]
      have := (aft_of n1).1 a1
      exact .inl ⟨this.1, this.2, rfl, aft_rest n1 a1⟩
    rw [p1, if_neg a1]
    rw [aft_of n1] at a1
    rw [aft_of n2] at a2
    rw [aft_of n3] at a3
    rw [aft_of n4] at a4
    exact .inr (.inr (.inr (.inr (.inr ⟨bad_of a1 a2 a3 a4 h, rfl, rfl⟩))))

theorem line_ne {c : List UInt8 × List UInt8 × Bool} (h : c.1 = wLine) : ¬ (c.1 = wCells ∨ c.1 = wStack) := by rw [h]; decide
theorem run_ne {c : List UInt8 × List UInt8 × Bool} (h : c.1 = wRun) : ¬ (c.1 = wCells ∨ c.1 = wStack) := by rw [h]; decide
theorem coll_ne {c : List UInt8 × List UInt8 × Bool} (h : c.1 = wColl) : ¬ (c.1 = wCells ∨ c.1 = wStack) := by rw [h]; decide
theorem step_line {p : Sp} {X : List UInt8} (h : (cutS 32 X).1 = wLine) (hm : (cutS 32 X).2.2 = true) : stepS p X = (match quoS (cutS 32 X).2.1 with | none => .inl 5 | some y => .inr { p with l := p.l ++ [⟨1, 0, y⟩] }) := by
  unfold stepS actS
  rw [if_neg (line_ne h), if_pos ⟨h, hm⟩]
  cases quoS (cutS 32 X).2.1 <;> rfl
theorem step_run {p : Sp} {X : List UInt8} (h : (cutS 32 X).1 = wRun) (hm : (cutS 32 X).2.2 = true) : stepS p X = (match numB (cutS 32 X).2.1 with | none => .inl 5 | some n => .inr { p with l := p.l ++ [⟨2, n, []⟩] }) := by
  unfold stepS actS
  rw [if_neg (run_ne h), if_neg (fun hh => absurd (h.symm.trans hh.1) (by decide)), if_pos ⟨h, hm⟩]
  cases numB (cutS 32 X).2.1 <;> rfl
theorem step_coll {p : Sp} {X : List UInt8} (h : (cutS 32 X).1 = wColl) (hm : (cutS 32 X).2.2 = false) : stepS p X = .inr { p with l := p.l ++ [⟨3, 0, []⟩] } := by
  unfold stepS actS
  rw [if_neg (coll_ne h), if_neg (fun hh => absurd (h.symm.trans hh.1) (by decide)), if_neg (fun hh => absurd (h.symm.trans hh.1) (by decide)), if_pos ⟨h, hm⟩]

theorem goS_end {l : List (List UInt8)} {j : Nat} {x : List UInt8} {p : Sp} (h : goS spNew 1 (l.take j) = .inr p) (hx : l[j]? = some x) :
    goS spNew 1 (l.take (j + 1)) = (match stepS p x with | .inl e => .inl (e, j + 1) | .inr q => .inr q) := by
  obtain ⟨h1, h2⟩ := List.getElem?_eq_some_iff.1 hx
  rw [List.take_succ_eq_append_getElem h1, h2, goS_app, h, List.length_take]
  simp only []
  rw [goS_cons, show min j l.length = j by omega, show 1 + j = j + 1 by omega]
  cases stepS p x with
  | inl e => rfl
  | inr q => rfl
theorem goS_bad {l : List (List UInt8)} {j : Nat} {x : List UInt8} {p : Sp} {e : Nat} (h : goS spNew 1 (l.take j) = .inr p) (hx : l[j]? = some x) (hs : stepS p x = .inl e) : goS spNew 1 l = .inl (e, j + 1) := by
  have h1 := goS_end h hx
  rw [hs] at h1
  have h2 := goS_app (l.take (j + 1)) (l.drop (j + 1)) spNew 1
  rw [List.take_append_drop, h1] at h2
  exact h2

end Go.Proofs.YtnmpckdggddpoaaGreatDoor
