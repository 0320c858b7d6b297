/- The reference's lexer: bytes, at, form. The reference's lexer: at, form, comment. The reference's lexer: comment. The reference's lexer: text. The reference's lexer: Words, Signs, IsWord; the numbers' small calls. The reference's words: Int, Num; Parse, weakly. The reference's Parse of a number, weakly. -/
import Derived.Test.YtnmpckdggddpoaaGreatDoorSo
import Derived.BigQuiet
import Derived.Test.YtnmpckdggddpoaaGreatDoorSx
namespace Go.Proofs.YtnmpckdggddpoaaGreatDoor
set_option linter.unusedSimpArgs false
set_option linter.unusedVariables false
open Go.RowKit Go.Shelf Go.Lib

theorem r_small (c : Int) (w : World) : Calls Tryz.prog 169 #[.int .u8 c] w fun e w' => e = .returned (.bool (smallB c)) ∧ w' = w := by
  by_cases h1 : 97 ≤ c <;> by_cases h2 : c ≤ 122
  all_goals
    have hs : smallB c = smallB c := rfl
    conv at hs => rhs; unfold smallB
    simp only [h1, h2, decide_true, decide_false, Bool.and_true, Bool.and_false, Bool.false_and, Bool.true_and, Bool.or_true, Bool.true_or, Bool.false_or] at hs
    have hs' := Lib.hid hs
    clear hs
    go_enter Tryz.func169, Tryz.ntmps169
    go_wp2
    go_ret
    exact ⟨by rw [hs'.out]; rfl, rfl⟩
theorem r_great (c : Int) (w : World) : Calls Tryz.prog 170 #[.int .u8 c] w fun e w' => e = .returned (.bool (greatB c)) ∧ w' = w := by
  by_cases h1 : 65 ≤ c <;> by_cases h2 : c ≤ 90
  all_goals
    have hs' : greatB c = greatB c := rfl
    conv at hs' => rhs; unfold greatB
    simp only [h1, h2, decide_true, decide_false, Bool.and_true, Bool.and_false, Bool.false_and, Bool.true_and] at hs'
    have HS := Lib.hid hs'
    clear hs'
    go_enter Tryz.func170, Tryz.ntmps170
    go_wp2
    go_ret
    exact ⟨by rw [HS.out]; rfl, rfl⟩
theorem r_digit (c : Int) (w : World) : Calls Tryz.prog 171 #[.int .u8 c] w fun e w' => e = .returned (.bool (digitB c)) ∧ w' = w := by
  by_cases h1 : 48 ≤ c <;> by_cases h2 : c ≤ 57
  all_goals
    have hs' : digitB c = digitB c := rfl
    conv at hs' => rhs; unfold digitB
    simp only [h1, h2, decide_true, decide_false, Bool.and_true, Bool.and_false, Bool.false_and, Bool.true_and] at hs'
    have HS := Lib.hid hs'
    clear hs'
    go_enter Tryz.func171, Tryz.ntmps171
    go_wp2
    go_ret
    exact ⟨by rw [HS.out]; rfl, rfl⟩

theorem r_hex (c : UInt8) (w : World) : Calls Tryz.prog 244 #[.int .u8 (c.toNat : Int)] w fun e w' => e = .returned (.int .i64 (hexI c)) ∧ w' = w := by
  have hlt : c.toNat < 256 := c.toNat_lt
  have hD := r_digit (c.toNat : Int) w
  by_cases h1 : 48 ≤ c.toNat ∧ c.toNat ≤ 57
  · have hv : hexI c = ((c.toNat - 48 : Nat) : Int) := by unfold hexI hexV; rw [if_pos h1]
    have hd : digitB (c.toNat : Int) = true := by unfold digitB; rw [decide_eq_true (by omega), decide_eq_true (by omega)]; rfl
    rw [hd] at hD
    have e1 : IntKind.u8.wrap ((c.toNat : Int) - 48) = (c.toNat : Int) - 48 := IntWalk.u8_in _ (by omega)
    have HV := Lib.hid hv
    have H1 := Lib.hid h1
    clear hv h1 hd
    go_enter Tryz.func244, Tryz.ntmps244
    go_wp2_with (fail)
    refine hD.mono ?_
    rintro e w' ⟨rfl, rfl⟩
    go_wp2_with (fail)
    go_ret
    exact ⟨by have := H1.out; rw [HV.out, Int.ofNat_sub this.1]; rfl, rfl⟩
  have hd : digitB (c.toNat : Int) = false := by
    unfold digitB
    by_cases h : 48 ≤ c.toNat
    · rw [decide_eq_false (p := (c.toNat : Int) ≤ 57) (by omega), Bool.and_false]
    · rw [decide_eq_false (p := (48 : Int) ≤ (c.toNat : Int)) (by omega), Bool.false_and]
  rw [hd] at hD
  by_cases h2 : 97 ≤ c.toNat ∧ c.toNat ≤ 102
  · have hv : hexI c = ((c.toNat - 87 : Nat) : Int) := by unfold hexI hexV; rw [if_neg h1, if_pos h2]
    have t1 : (97 : Int) ≤ (c.toNat : Int) := by omega
    have t2 : (c.toNat : Int) ≤ 102 := by omega
    have e1 : IntKind.u8.wrap ((c.toNat : Int) - 97) = (c.toNat : Int) - 97 := IntWalk.u8_in _ (by omega)
    have e2 : IntKind.i64.wrap ((c.toNat : Int) - 97 + 10) = (c.toNat : Int) - 87 := (IntWalk.i64_in _ (by omega)).trans (by omega)
    have HV := Lib.hid hv
    have H1 := Lib.hid h2
    clear hv h1 hd h2
    go_enter Tryz.func244, Tryz.ntmps244
    go_wp2_with (fail)
    refine hD.mono ?_
    rintro e w' ⟨rfl, rfl⟩
    go_wp2_with (fail)
    go_ret
    exact ⟨by have := H1.out; rw [HV.out, show ((c.toNat - 87 : Nat) : Int) = (c.toNat : Int) - 87 by omega]; rfl, rfl⟩
  · have hv : hexI c = -1 := by unfold hexI hexV; rw [if_neg h1, if_neg h2]
    have HV := Lib.hid hv
    have key : ∀ (p q : Bool), decide ((97 : Int) ≤ (c.toNat : Int)) = p → decide ((c.toNat : Int) ≤ 102) = q → (p && q) = false → Calls Tryz.prog 244 #[.int .u8 (c.toNat : Int)] w fun e w' => e = .returned (.int .i64 (hexI c)) ∧ w' = w := by
      intro p q hp hq hpq
      rw [HV.out]
      cases p
      · have t1 : ¬ (97 : Int) ≤ (c.toNat : Int) := of_decide_eq_false hp
        clear hp hq hpq h1 h2 hd hv
        go_enter Tryz.func244, Tryz.ntmps244
        go_wp2_with (fail)
        refine hD.mono ?_
        rintro e w' ⟨rfl, rfl⟩
        go_wp2_with (fail)
        go_ret
        exact ⟨rfl, rfl⟩
      · cases q
        · have t1 : (97 : Int) ≤ (c.toNat : Int) := of_decide_eq_true hp
          have t2 : ¬ (c.toNat : Int) ≤ 102 := of_decide_eq_false hq
          clear hp hq hpq h1 h2 hd hv
          go_enter Tryz.func244, Tryz.ntmps244
          go_wp2_with (fail)
          refine hD.mono ?_
          rintro e w' ⟨rfl, rfl⟩
          go_wp2_with (fail)
          go_ret
          exact ⟨rfl, rfl⟩
        · cases hpq
    refine key _ _ rfl rfl ?_
    by_cases h : 97 ≤ c.toNat
    · rw [decide_eq_false (p := (c.toNat : Int) ≤ 102) (by omega), Bool.and_false]
    · rw [decide_eq_false (p := (97 : Int) ≤ (c.toNat : Int)) (by omega), Bool.false_and]

end Go.Proofs.YtnmpckdggddpoaaGreatDoor

namespace Go.Proofs.YtnmpckdggddpoaaGreatDoor
set_option linter.unusedSimpArgs false
set_option linter.unusedVariables false
open Go.RowKit Go.Shelf Go.Lib

def atB (s : ByteArray) (i : Nat) (t : ByteArray) : Bool := decide (i + t.size ≤ s.size) && ((s.extract i (i + t.size)).toList == t.toList)
theorem r_at (s t : ByteArray) (i : Nat) (w : World) (hs : s.size ≤ 1000000) (hi : i ≤ 1000000) (ht : t.size ≤ 100) : Calls Tryz.prog 100 #[.string s, .int .i64 i, .string t] w fun e w' => e = .returned (.bool (atB s i t)) ∧ w' = w := by
  obtain ⟨j, hj⟩ : ∃ j, j = i + t.size := ⟨_, rfl⟩
  have e1 : IntKind.i64.wrap ((i : Int) + (t.size : Int)) = (j : Int) := (IntWalk.i64_in _ (by omega)).trans (by omega)
  by_cases h : j ≤ s.size
  · have h1 : (j : Int) ≤ (s.size : Int) := by omega
    have k0 : (0 : Int) ≤ (i : Int) := by omega
    have k1 : (i : Int) ≤ (j : Int) := by omega
    have k2 : (0 : Int) ≤ (j : Int) := by omega
    have hv : atB s i t = ((s.extract i j).toList == t.toList) := by unfold atB; rw [← hj, decide_eq_true h, Bool.true_and]
    have HV := Lib.hid hv
    have HJ := Lib.hid hj
    clear hv hj
    go_enter Tryz.func100, Tryz.ntmps100
    go_wp2_with (fail)
    go_ret
    exact ⟨by rw [HV.out]; rfl, rfl⟩
  · have h1 : ¬ (j : Int) ≤ (s.size : Int) := by omega
    have hv : atB s i t = false := by unfold atB; rw [← hj, decide_eq_false h, Bool.false_and]
    have HV := Lib.hid hv
    clear hv h hj
    go_enter Tryz.func100, Tryz.ntmps100
    go_wp2_with (fail)
    go_ret
    exact ⟨by rw [HV.out]; rfl, rfl⟩

theorem atB_two {s : ByteArray} {i : Nat} {a b : UInt8} (h : atB s i ⟨#[a, b]⟩ = true) : i + 2 ≤ s.size ∧ s.data.toList[i]? = some a ∧ s.data.toList[i + 1]? = some b := by
  unfold atB at h
  rw [Bool.and_eq_true, decide_eq_true_iff] at h
  obtain ⟨h1, h2⟩ := h
  have hz : (⟨#[a, b]⟩ : ByteArray).size = 2 := rfl
  rw [hz] at h1 h2
  have h3 : (s.extract i (i + 2)).data.toList = [a, b] := by
    have := eq_of_beq h2
    rw [ByteArray.toList_eq, ByteArray.toList_eq] at this
    exact this
  have h4 : (s.extract i (i + 2)).data.toList = (s.data.toList.take (i + 2)).drop i := by simp [List.drop_take]
  rw [h4] at h3
  refine ⟨h1, ?_, ?_⟩
  · have h5 : ((s.data.toList.take (i + 2)).drop i)[0]? = some a := by rw [h3]; rfl
    rw [List.getElem?_drop, List.getElem?_take] at h5
    simpa using h5
  · have h5 : ((s.data.toList.take (i + 2)).drop i)[1]? = some b := by rw [h3]; rfl
    rw [List.getElem?_drop, List.getElem?_take] at h5
    simpa using h5

def FormR (s : ByteArray) (i : Nat) (w : World) (e : Ending) (w' : World) : Prop :=
  ((∃ (v : UInt8) (n : Nat), formS (s.data.toList.drop i) = some (v, s.data.toList.drop (i + n)) ∧ 1 ≤ n ∧ i + n ≤ s.size ∧ e = .returned (.tuple #[.int .u8 (v.toNat : Int), .int .i64 (n : Nat)])) ∨
   (formS (s.data.toList.drop i) = none ∧ e = .returned (.tuple #[.int .u8 0, .int .i64 0]))) ∧ ∃ m, w' = w.drewN m

theorem formS_34 (r : List UInt8) : formS (34 :: r) = some (34, r) := rfl
theorem formS_92 (r : List UInt8) : formS (92 :: r) = some (92, r) := rfl
theorem formS_110 (r : List UInt8) : formS (110 :: r) = some (10, r) := rfl
theorem formS_116 (r : List UInt8) : formS (116 :: r) = some (9, r) := rfl
theorem formS_120 (r : List UInt8) : formS (120 :: r) = formX r := rfl

set_option maxHeartbeats 1000000 in
theorem r_form_end (s : ByteArray) (i : Nat) (w : World) (hs : s.size ≤ 4096) (hi : i = s.size) : Calls Tryz.prog 222 #[.string s, .int .i64 i] w (FormR s i w) := by
  have k0 : (0 : Int) ≤ (i : Int) := by omega
  have h2 : (s.size : Int) ≤ (i : Int) := by omega
  have h1 : ¬ (i : Int) < (s.size : Int) := by omega
  have HL : Hid (formS (s.data.toList.drop i) = none) := Lib.hid (by rw [List.drop_eq_nil_of_le (by rw [size_toList]; omega)]; rfl)
  clear hi
  go_enter Tryz.func222, Tryz.ntmps222
  go_wp2_with (fail)
  go_ret2
  exact ⟨.inr ⟨HL.out, rfl⟩, 0, rfl⟩

set_option maxHeartbeats 1000000 in
theorem r_form_34 (s : ByteArray) (i : Nat) (w : World) (hs : s.size ≤ 4096) (hk : i + 1 ≤ s.size) (hc : s.data.toList[i]? = some 34) (hr : formS (s.data.toList.drop i) = some (34, s.data.toList.drop (i + 1))) :
    Calls Tryz.prog 222 #[.string s, .int .i64 i] w (FormR s i w) := by
  have k0 : (0 : Int) ≤ (i : Int) := by omega
  have hb := byte_at hc
  have h1 : (i : Int) < (s.size : Int) := by omega
  have h2 : ¬ (s.size : Int) ≤ (i : Int) := by omega
  have HR := Lib.hid hr
  clear hr hc
  go_enter Tryz.func222, Tryz.ntmps222
  go_wp2_with (fail)
  go_ret2
  exact ⟨.inl ⟨34, 1, HR.out, by omega, hk, rfl⟩, 0, rfl⟩
set_option maxHeartbeats 1000000 in
theorem r_form_92 (s : ByteArray) (i : Nat) (w : World) (hs : s.size ≤ 4096) (hk : i + 1 ≤ s.size) (hc : s.data.toList[i]? = some 92) (hr : formS (s.data.toList.drop i) = some (92, s.data.toList.drop (i + 1))) :
    Calls Tryz.prog 222 #[.string s, .int .i64 i] w (FormR s i w) := by
  have k0 : (0 : Int) ≤ (i : Int) := by omega
  have hb := byte_at hc
  have h1 : (i : Int) < (s.size : Int) := by omega
  have h2 : ¬ (s.size : Int) ≤ (i : Int) := by omega
  have HR := Lib.hid hr
  clear hr hc
  go_enter Tryz.func222, Tryz.ntmps222
  go_wp2_with (fail)
  go_ret2
  exact ⟨.inl ⟨92, 1, HR.out, by omega, hk, rfl⟩, 0, rfl⟩
set_option maxHeartbeats 1000000 in
theorem r_form_110 (s : ByteArray) (i : Nat) (w : World) (hs : s.size ≤ 4096) (hk : i + 1 ≤ s.size) (hc : s.data.toList[i]? = some 110) (hr : formS (s.data.toList.drop i) = some (10, s.data.toList.drop (i + 1))) :
    Calls Tryz.prog 222 #[.string s, .int .i64 i] w (FormR s i w) := by
  have k0 : (0 : Int) ≤ (i : Int) := by omega
  have hb := byte_at hc
  have h1 : (i : Int) < (s.size : Int) := by omega
  have h2 : ¬ (s.size : Int) ≤ (i : Int) := by omega
  have HR := Lib.hid hr
  clear hr hc
  go_enter Tryz.func222, Tryz.ntmps222
  go_wp2_with (fail)
  go_ret2
  exact ⟨.inl ⟨10, 1, HR.out, by omega, hk, rfl⟩, 0, rfl⟩
set_option maxHeartbeats 1000000 in
theorem r_form_116 (s : ByteArray) (i : Nat) (w : World) (hs : s.size ≤ 4096) (hk : i + 1 ≤ s.size) (hc : s.data.toList[i]? = some 116) (hr : formS (s.data.toList.drop i) = some (9, s.data.toList.drop (i + 1))) :
    Calls Tryz.prog 222 #[.string s, .int .i64 i] w (FormR s i w) := by
  have k0 : (0 : Int) ≤ (i : Int) := by omega
  have hb := byte_at hc
  have h1 : (i : Int) < (s.size : Int) := by omega
  have h2 : ¬ (s.size : Int) ≤ (i : Int) := by omega
  have HR := Lib.hid hr
  clear hr hc
  go_enter Tryz.func222, Tryz.ntmps222
  go_wp2_with (fail)
  go_ret2
  exact ⟨.inl ⟨9, 1, HR.out, by omega, hk, rfl⟩, 0, rfl⟩

set_option maxHeartbeats 1000000 in
theorem r_form_other (s : ByteArray) (i : Nat) (w : World) (hs : s.size ≤ 4096) (hk : i + 1 ≤ s.size) (c : UInt8) (hc : s.data.toList[i]? = some c) (c1 : c ≠ 34) (c2 : c ≠ 92) (c3 : c ≠ 110) (c4 : c ≠ 116) (c5 : c ≠ 120) (hr : formS (s.data.toList.drop i) = none) :
    Calls Tryz.prog 222 #[.string s, .int .i64 i] w (FormR s i w) := by
  have k0 : (0 : Int) ≤ (i : Int) := by omega
  have hb := byte_at hc
  have h1 : (i : Int) < (s.size : Int) := by omega
  have h2 : ¬ (s.size : Int) ≤ (i : Int) := by omega
  have t1 : ((c.toNat : Int) == 34) = false := bne8 c 34 c1 (by decide)
  have t2 : ((c.toNat : Int) == 92) = false := bne8 c 92 c2 (by decide)
  have t3 : ((c.toNat : Int) == 110) = false := bne8 c 110 c3 (by decide)
  have t4 : ((c.toNat : Int) == 116) = false := bne8 c 116 c4 (by decide)
  have t5 : ((c.toNat : Int) == 120) = false := bne8 c 120 c5 (by decide)
  have HR := Lib.hid hr
  clear hr hc c1 c2 c3 c4 c5
  go_enter Tryz.func222, Tryz.ntmps222
  go_wp2_with (fail)
  go_ret2
  exact ⟨.inr ⟨HR.out, rfl⟩, 0, rfl⟩

set_option maxHeartbeats 1000000 in
theorem r_form_short (s : ByteArray) (i : Nat) (w : World) (hs : s.size ≤ 4096) (hk : i + 1 ≤ s.size) (hsh : ¬ i + 2 < s.size) (hc : s.data.toList[i]? = some 120) (hr : formS (s.data.toList.drop i) = none) :
    Calls Tryz.prog 222 #[.string s, .int .i64 i] w (FormR s i w) := by
  have k0 : (0 : Int) ≤ (i : Int) := by omega
  have hb := byte_at hc
  have h1 : (i : Int) < (s.size : Int) := by omega
  have h2 : ¬ (s.size : Int) ≤ (i : Int) := by omega
  have e2 : IntKind.i64.wrap ((i : Int) + 2) = (i : Int) + 2 := IntWalk.i64_in _ (by omega)
  have h3 : ¬ (i : Int) + 2 < (s.size : Int) := by omega
  have HR := Lib.hid hr
  clear hr hc hsh
  go_enter Tryz.func222, Tryz.ntmps222
  go_wp2_with (fail)
  go_ret2
  exact ⟨.inr ⟨HR.out, rfl⟩, 0, rfl⟩

set_option maxRecDepth 100000 in
set_option maxHeartbeats 1000000 in
theorem r_form_bad1 (s : ByteArray) (i : Nat) (w : World) (hs : s.size ≤ 4096) (hsh : i + 2 < s.size) (hc : s.data.toList[i]? = some 120) (a1 a2 : UInt8) (ha1 : s.data.toList[i + 1]? = some a1) (ha2 : s.data.toList[i + 2]? = some a2)
    (H1 : Hid (∀ w, Calls Tryz.prog 244 #[.int .u8 (a1.toNat : Int)] w fun e w' => e = .returned (.int .i64 (-1)) ∧ w' = w)) (hr : formS (s.data.toList.drop i) = none) :
    Calls Tryz.prog 222 #[.string s, .int .i64 i] w (FormR s i w) := by
  have k0 : (0 : Int) ≤ (i : Int) := by omega
  have hb := byte_at hc
  have h1 : (i : Int) < (s.size : Int) := by omega
  have h2 : ¬ (s.size : Int) ≤ (i : Int) := by omega
  have e1 : IntKind.i64.wrap ((i : Int) + 1) = (i : Int) + 1 := IntWalk.i64_in _ (by omega)
  have e2 : IntKind.i64.wrap ((i : Int) + 2) = (i : Int) + 2 := IntWalk.i64_in _ (by omega)
  have hb1 := byte_at ha1
  have hb2 := byte_at ha2
  have h3 : (i : Int) + 2 < (s.size : Int) := by omega
  have h4 : (i : Int) + 1 < (s.size : Int) := by omega
  have k1 : (0 : Int) ≤ (i : Int) + 1 := by omega
  have k2 : (0 : Int) ≤ (i : Int) + 2 := by omega
  have n1 : ((i : Int) + 1).toNat = i + 1 := by omega
  have n2 : ((i : Int) + 2).toNat = i + 2 := by omega
  have HR := Lib.hid hr
  clear hr hc ha1 ha2
  go_enter Tryz.func222, Tryz.ntmps222
  go_wp2_with (go_at_call 244; ((with_reducible refine (H1.out _).mono ?_); rintro e w' ⟨rfl, rfl⟩))
  go_ret2
  exact ⟨.inr ⟨HR.out, rfl⟩, 0, rfl⟩

set_option maxRecDepth 100000 in
set_option maxHeartbeats 1000000 in
theorem r_form_bad2 (s : ByteArray) (i : Nat) (w : World) (hs : s.size ≤ 4096) (hsh : i + 2 < s.size) (hc : s.data.toList[i]? = some 120) (a1 a2 : UInt8) (ha1 : s.data.toList[i + 1]? = some a1) (ha2 : s.data.toList[i + 2]? = some a2) (x : Nat)
    (H1 : Hid (∀ w, Calls Tryz.prog 244 #[.int .u8 (a1.toNat : Int)] w fun e w' => e = .returned (.int .i64 (x : Nat)) ∧ w' = w))
    (H2 : Hid (∀ w, Calls Tryz.prog 244 #[.int .u8 (a2.toNat : Int)] w fun e w' => e = .returned (.int .i64 (-1)) ∧ w' = w)) (hr : formS (s.data.toList.drop i) = none) :
    Calls Tryz.prog 222 #[.string s, .int .i64 i] w (FormR s i w) := by
  have k0 : (0 : Int) ≤ (i : Int) := by omega
  have hb := byte_at hc
  have h1 : (i : Int) < (s.size : Int) := by omega
  have h2 : ¬ (s.size : Int) ≤ (i : Int) := by omega
  have e1 : IntKind.i64.wrap ((i : Int) + 1) = (i : Int) + 1 := IntWalk.i64_in _ (by omega)
  have e2 : IntKind.i64.wrap ((i : Int) + 2) = (i : Int) + 2 := IntWalk.i64_in _ (by omega)
  have hb1 := byte_at ha1
  have hb2 := byte_at ha2
  have h3 : (i : Int) + 2 < (s.size : Int) := by omega
  have h4 : (i : Int) + 1 < (s.size : Int) := by omega
  have k1 : (0 : Int) ≤ (i : Int) + 1 := by omega
  have k2 : (0 : Int) ≤ (i : Int) + 2 := by omega
  have n1 : ((i : Int) + 1).toNat = i + 1 := by omega
  have n2 : ((i : Int) + 2).toNat = i + 2 := by omega
  have HR := Lib.hid hr
  clear hr hc ha1 ha2
  have x0 : (0 : Int) ≤ (x : Int) := by omega
  go_enter Tryz.func222, Tryz.ntmps222
  go_wp2_with (first | (go_at_call 244; ((with_reducible refine (H1.out _).mono ?_); rintro e w' ⟨rfl, rfl⟩)) | (go_at_call 244; ((with_reducible refine (H2.out _).mono ?_); rintro e w' ⟨rfl, rfl⟩)))
  go_ret2
  exact ⟨.inr ⟨HR.out, rfl⟩, 0, rfl⟩

set_option maxRecDepth 100000 in
set_option maxHeartbeats 2000000 in
theorem r_form_good (s : ByteArray) (i : Nat) (w : World) (hs : s.size ≤ 4096) (hsh : i + 2 < s.size) (hc : s.data.toList[i]? = some 120) (a1 a2 : UInt8) (ha1 : s.data.toList[i + 1]? = some a1) (ha2 : s.data.toList[i + 2]? = some a2) (x y : Nat) (hx : x < 16) (hy : y < 16)
    (H1 : Hid (∀ w, Calls Tryz.prog 244 #[.int .u8 (a1.toNat : Int)] w fun e w' => e = .returned (.int .i64 (x : Nat)) ∧ w' = w))
    (H2 : Hid (∀ w, Calls Tryz.prog 244 #[.int .u8 (a2.toNat : Int)] w fun e w' => e = .returned (.int .i64 (y : Nat)) ∧ w' = w)) (hr : formS (s.data.toList.drop i) = some (UInt8.ofNat (16 * x + y), s.data.toList.drop (i + 3))) :
    Calls Tryz.prog 222 #[.string s, .int .i64 i] w (FormR s i w) := by
  have k0 : (0 : Int) ≤ (i : Int) := by omega
  have hb := byte_at hc
  have h1 : (i : Int) < (s.size : Int) := by omega
  have h2 : ¬ (s.size : Int) ≤ (i : Int) := by omega
  have e1 : IntKind.i64.wrap ((i : Int) + 1) = (i : Int) + 1 := IntWalk.i64_in _ (by omega)
  have e2 : IntKind.i64.wrap ((i : Int) + 2) = (i : Int) + 2 := IntWalk.i64_in _ (by omega)
  have hb1 := byte_at ha1
  have hb2 := byte_at ha2
  have h3 : (i : Int) + 2 < (s.size : Int) := by omega
  have h4 : (i : Int) + 1 < (s.size : Int) := by omega
  have k1 : (0 : Int) ≤ (i : Int) + 1 := by omega
  have k2 : (0 : Int) ≤ (i : Int) + 2 := by omega
  have n1 : ((i : Int) + 1).toNat = i + 1 := by omega
  have n2 : ((i : Int) + 2).toNat = i + 2 := by omega
  have HR := Lib.hid hr
  clear hr hc ha1 ha2
  have x0 : (0 : Int) ≤ (x : Int) := by omega
  have y0 : (0 : Int) ≤ (y : Int) := by omega
  have e3 : IntKind.i64.wrap ((x : Int) * 16) = (x : Int) * 16 := IntWalk.i64_in _ (by omega)
  have e4 : IntKind.i64.wrap ((x : Int) * 16 + (y : Int)) = ((16 * x + y : Nat) : Int) := (IntWalk.i64_in _ (by omega)).trans (by omega)
  have e5 : IntKind.u8.wrap ((16 * x + y : Nat) : Int) = ((16 * x + y : Nat) : Int) := IntWalk.u8_in _ (by omega)
  obtain ⟨z, hz⟩ : ∃ z, z = 16 * x + y := ⟨_, rfl⟩
  have z256 : z < 256 := by omega
  rw [← hz] at e4 e5 HR
  clear hz hx hy
  go_enter Tryz.func222, Tryz.ntmps222
  go_wp2_with (first | (go_at_call 244; ((with_reducible refine (H1.out _).mono ?_); rintro e w' ⟨rfl, rfl⟩)) | (go_at_call 244; ((with_reducible refine (H2.out _).mono ?_); rintro e w' ⟨rfl, rfl⟩)))
  go_quiet ((first | (go_at_call 244; with_reducible exact qeq (H1.out _)) | (go_at_call 244; with_reducible exact qeq (H2.out _))))
  go_wp2_with (fail)
  go_ret2
  exact ⟨.inl ⟨UInt8.ofNat z, 3, HR.out, by omega, by omega, by rw [ofNat8 z256]; rfl⟩, _, rfl⟩

theorem r_form (s : ByteArray) (i : Nat) (w : World) (hs : s.size ≤ 4096) (hi : i ≤ s.size) : Calls Tryz.prog 222 #[.string s, .int .i64 i] w (FormR s i w) := by
  cases hl : s.data.toList.drop i with
  | nil =>
    have hge : i = s.size := by
      have := congrArg List.length hl
      rw [List.length_drop, size_toList] at this
      simp at this
      omega
    exact r_form_end s i w hs hge
  | cons c r =>
    obtain ⟨hc, hr, hk⟩ := drop_at hl
    have hk' : i + 1 ≤ s.size := hk
    by_cases c1 : c = 34
    · subst c1; exact r_form_34 s i w hs hk' hc (by rw [hl, formS_34, hr])
    by_cases c2 : c = 92
    · subst c2; exact r_form_92 s i w hs hk' hc (by rw [hl, formS_92, hr])
    by_cases c3 : c = 110
    · subst c3; exact r_form_110 s i w hs hk' hc (by rw [hl, formS_110, hr])
    by_cases c4 : c = 116
    · subst c4; exact r_form_116 s i w hs hk' hc (by rw [hl, formS_116, hr])
    by_cases c5 : c = 120
    · subst c5
      by_cases hsh : i + 2 < s.size
      · obtain ⟨a1, ha1⟩ : ∃ c, s.data.toList[i + 1]? = some c := ⟨_, List.getElem?_eq_getElem (by rw [size_toList]; omega)⟩
        obtain ⟨a2, ha2⟩ : ∃ c, s.data.toList[i + 2]? = some c := ⟨_, List.getElem?_eq_getElem (by rw [size_toList]; omega)⟩
        have hr3 : r = a1 :: a2 :: s.data.toList.drop (i + 3) := by
          rw [hr]
          obtain ⟨g1, g2⟩ := List.getElem?_eq_some_iff.1 ha1
          obtain ⟨g3, g4⟩ := List.getElem?_eq_some_iff.1 ha2
          rw [List.drop_eq_getElem_cons g1, List.drop_eq_getElem_cons g3, g2, g4]
        have H1 := fun w => r_hex a1 w
        have H2 := fun w => r_hex a2 w
        cases hv1 : hexV a1 with
        | none =>
          have i1 : hexI a1 = -1 := by unfold hexI; rw [hv1]
          rw [i1] at H1
          exact r_form_bad1 s i w hs hsh hc a1 a2 ha1 ha2 (Lib.hid H1) (by rw [hl, formS_120, hr3]; simp [formX, hv1])
        | some x =>
          have i1 : hexI a1 = (x : Int) := by unfold hexI; rw [hv1]
          have x16 := hexV_lt hv1
          rw [i1] at H1
          cases hv2 : hexV a2 with
          | none =>
            have i2 : hexI a2 = -1 := by unfold hexI; rw [hv2]
            rw [i2] at H2
            exact r_form_bad2 s i w hs hsh hc a1 a2 ha1 ha2 x (Lib.hid H1) (Lib.hid H2) (by rw [hl, formS_120, hr3]; simp [formX, hv1, hv2])
          | some y =>
            have i2 : hexI a2 = (y : Int) := by unfold hexI; rw [hv2]
            have y16 := hexV_lt hv2
            rw [i2] at H2
            exact r_form_good s i w hs hsh hc a1 a2 ha1 ha2 x y x16 y16 (Lib.hid H1) (Lib.hid H2) (by rw [hl, formS_120, hr3]; simp [formX, hv1, hv2])
      · exact r_form_short s i w hs hk' hsh hc (by
          rw [hl, formS_120]
          have hlen : r.length < 2 := by rw [hr, List.length_drop, size_toList]; omega
          match r, hlen with
          | [], _ => rfl
          | [_], _ => rfl)
    · exact r_form_other s i w hs hk' c hc c1 c2 c3 c4 c5 (by rw [hl, formS_cons, if_neg c1, if_neg c2, if_neg c3, if_neg c4, if_neg c5])

end Go.Proofs.YtnmpckdggddpoaaGreatDoor

namespace Go.Proofs.YtnmpckdggddpoaaGreatDoor
set_option linter.unusedSimpArgs false
set_option linter.unusedVariables false
open Go.RowKit Go.Shelf Go.Lib

def CmR (s : ByteArray) (k : Nat) (w : World) (e : Ending) (w' : World) : Prop :=
  ((∃ j : Nat, e = .returned (.tuple #[.int .i64 (j : Nat), .bool true]) ∧ k < j ∧ j ≤ s.size ∧ s.data.toList[j - 1]? = some 41) ∨ e = .returned (.tuple #[.int .i64 0, .bool false])) ∧ w' = w

set_option maxRecDepth 100000 in
set_option maxHeartbeats 4000000 in
theorem r_comment (s : ByteArray) (hs : s.size ≤ 4096) : ∀ (n k : Nat), s.size - k ≤ n → k + 2 ≤ s.size → ∀ w, Calls Tryz.prog 101 #[.string s, .int .i64 (k : Nat)] w (CmR s k w)
  | 0, k, h1, h2, w => by omega
  | n + 1, k, h1, h2, w => by
    have IH := Lib.hid (fun (j : Nat) (hj : k < j) (h2 : j + 2 ≤ s.size) w => r_comment s hs n j (by omega) h2 w)
    have e2 : IntKind.i64.wrap ((k : Int) + 2) = ((k + 2 : Nat) : Int) := (IntWalk.i64_in _ (by omega)).trans (by omega)
    go_enter Tryz.func101, Tryz.ntmps101
    go_wp2_with (fail)
    clear e2
    go_loop [1, 6, 7] (fun i _ _ => ∃ j : Nat, i = .int .i64 j ∧ k < j ∧ j ≤ s.size) (fun i _ _ => s.size - (RowKit.intOf i).toNat)
    case atStart => exact ⟨k + 2, by go_num, by omega, by omega⟩
    case round =>
      obtain ⟨j, rfl, hkj, hj⟩ := hrel
      have e1 : IntKind.i64.wrap ((j : Int) + 1) = (j : Int) + 1 := IntWalk.i64_in _ (by omega)
      have e2 : IntKind.i64.wrap ((j : Int) + 2) = (j : Int) + 2 := IntWalk.i64_in _ (by omega)
      rcases Nat.lt_or_ge j s.size with hlt | hge
      · have hlt' : (j : Int) < (s.size : Int) := by omega
        have H1 := Lib.hid (fun w => r_at s ⟨#[42, 41]⟩ j w (by omega) (by omega) (by decide))
        have H2 := Lib.hid (fun w => r_at s ⟨#[40, 42]⟩ j w (by omega) (by omega) (by decide))
        obtain ⟨q1, hq1⟩ : ∃ q, Hid (atB s j ⟨#[42, 41]⟩ = q) := ⟨_, rfl⟩
        obtain ⟨q2, hq2⟩ : ∃ q, Hid (atB s j ⟨#[40, 42]⟩ = q) := ⟨_, rfl⟩
        rw [hq1.out] at H1
        rw [hq2.out] at H2
        cases q1
        · cases q2
          · clear e2
            go_wp2_with (first | (go_at_call 100; ((with_reducible refine (H1.out _).mono ?_); rintro e w' ⟨rfl, rfl⟩)) | (go_at_call 100; ((with_reducible refine (H2.out _).mono ?_); rintro e w' ⟨rfl, rfl⟩)))
            go_round
            case rel => exact ⟨j + 1, by go_num, by omega, by omega⟩
            case measure => simp [RowKit.intOf]; omega
          · obtain ⟨g1, g2, g3⟩ := atB_two hq2.out
            have HI := Lib.hid (fun w => IH.out j hkj g1 w)
            clear e1 e2 g2 g3
            go_wp2_with (first | (go_at_call 100; ((with_reducible refine (H1.out _).mono ?_); rintro e w' ⟨rfl, rfl⟩)) | (go_at_call 100; ((with_reducible refine (H2.out _).mono ?_); rintro e w' ⟨rfl, rfl⟩)))
            refine (HI.out _).mono ?_
            rintro e w' ⟨⟨i, rfl, hi1, hi2, hi3⟩ | rfl, rfl⟩
            · go_wp2_with (fail)
              go_round
              case rel => exact ⟨i, rfl, by omega, by omega⟩
              case measure => simp [RowKit.intOf]; omega
            · go_wp2_with (fail)
              go_ret2
              exact ⟨.inr rfl, rfl⟩
        · obtain ⟨g1, g2, g3⟩ := atB_two hq1.out
          clear e1
          go_wp2_with (first | (go_at_call 100; ((with_reducible refine (H1.out _).mono ?_); rintro e w' ⟨rfl, rfl⟩)))
          go_ret2
          exact ⟨.inl ⟨j + 2, by go_num, by omega, g1, g3⟩, rfl⟩
      · have hlt' : ¬ (j : Int) < (s.size : Int) := by omega
        clear e1 e2
        go_wp2_with (fail)
        go_ret2
        exact ⟨.inr rfl, rfl⟩

end Go.Proofs.YtnmpckdggddpoaaGreatDoor

namespace Go.Proofs.YtnmpckdggddpoaaGreatDoor
set_option linter.unusedSimpArgs false
set_option linter.unusedVariables false
open Go.RowKit Go.Shelf Go.Lib

def TxR (s : ByteArray) (k : Nat) (w : World) (e : Ending) (w' : World) : Prop :=
  ((∃ (x : List UInt8) (n : Nat), textL [] (s.data.toList.drop (k + 1)) = some (x, s.data.toList.drop (k + n)) ∧ 1 ≤ n ∧ k + n ≤ s.size ∧ e = .returned (.tuple #[.string ⟨x.toArray⟩, .int .i64 (n : Nat)])) ∨
   (textL [] (s.data.toList.drop (k + 1)) = none ∧ e = .returned (.tuple #[.string ⟨#[]⟩, .int .i64 0]))) ∧ Below w.heap.size w w'

set_option maxRecDepth 100000 in
set_option maxHeartbeats 8000000 in
theorem r_text (s : ByteArray) (hs : s.size ≤ 4096) (k : Nat) (hk : k < s.size) (w : World) : Calls Tryz.prog 174 #[.string s, .int .i64 (k : Nat)] w (TxR s k w) := by
  obtain ⟨i0, hi, hz0, hz1, hz2⟩ := info_parts info8
  have e0 : IntKind.i64.wrap ((k : Int) + 1) = ((k + 1 : Nat) : Int) := (IntWalk.i64_in _ (by omega)).trans (by omega)
  obtain ⟨T, hT⟩ : ∃ T, Hid (textL [] (s.data.toList.drop (k + 1)) = T) := ⟨_, rfl⟩
  unfold TxR
  rw [hT.out]
  go_enter Tryz.func174, Tryz.ntmps174
  go_wp2_with (fail)
  clear e0
  go_loopw [6, 7, 8, 9] (fun v i _ _ wr => ∃ (j : Nat) (l : List UInt8), i = .int .i64 j ∧ Hid (T = textL l (s.data.toList.drop j)) ∧ k < j ∧ j ≤ s.size ∧ l.length ≤ j ∧ Sl wr v 5 1 l.length (cb8 l) ∧ Upd [] (own v) w wr) (fun _ i _ _ _ => s.size - (RowKit.intOf i).toNat)
  case atStart =>
    refine ⟨k + 1, [], by go_num, hT.out.symm, by omega, by omega, by simp, Sl.ofBlk (Blk.new' (c := []) rfl) rfl (by unfold maxLen; omega), ?_⟩
    exact ((Upd.refl [] w).alloc _).sub (by simp [own, Value.ownBlock])
  case round =>
    obtain ⟨j, l, rfl, hTl, hkj, hj, hlj, hS, hU⟩ := hrel
    have HSa := Lib.hid hS
    have HUa := Lib.hid hU
    have j0 : (0 : Int) ≤ (j : Int) := by omega
    rcases Nat.lt_or_ge j s.size with hlt | hge
    · obtain ⟨c, hc⟩ : ∃ c, s.data.toList[j]? = some c := ⟨_, List.getElem?_eq_getElem (by rw [size_toList]; exact hlt)⟩
      have hdj : s.data.toList.drop j = c :: s.data.toList.drop (j + 1) := by
        obtain ⟨h1, h2⟩ := List.getElem?_eq_some_iff.1 hc
        rw [List.drop_eq_getElem_cons h1, h2]
      have hb := byte_at hc
      have hlt' : (j : Int) < (s.size : Int) := by omega
      have e1 : IntKind.i64.wrap ((j : Int) + 1) = (j : Int) + 1 := IntWalk.i64_in _ (by omega)
      by_cases h34 : c = 34
      · subst h34
        have hTe : T = some (l, s.data.toList.drop (j + 1)) := by rw [hTl.out, hdj]; exact textL_end _ _
        have hcv := sl_string HSa.out
        have e2 : IntKind.i64.wrap ((j : Int) + 1 - (k : Int)) = ((j + 1 - k : Nat) : Int) := (IntWalk.i64_in _ (by omega)).trans (by omega)
        have HTE := Lib.hid hTe
        clear hTe hdj hc hS hU
        go_wp2_with (fail)
        go_ret2
        refine ⟨.inl ⟨l, j + 1 - k, by rw [show k + (j + 1 - k) = j + 1 by omega]; exact HTE.out, by omega, by omega, rfl⟩, HUa.out.fr.below (Nat.le_refl _) (by simp)⟩
      have t34 : ((c.toNat : Int) == 34) = false := bne8 c 34 h34 (by decide)
      by_cases h92 : c = 92
      · subst h92
        have HF := Lib.hid (fun w => r_form s (j + 1) w hs (by omega))
        clear hc hS hU
        go_wp2_with (fail)
        refine (HF.out _).mono ?_
        rintro e w' ⟨⟨v, n, hf, hn1, hn2, rfl⟩ | ⟨hf, rfl⟩, m, rfl⟩
        · have hTe : T = textL (l ++ [v]) (s.data.toList.drop (j + 1 + n)) := by rw [hTl.out, hdj]; exact textL_form _ _ _ hf
          have HTE := Lib.hid hTe
          have e3 : IntKind.i64.wrap ((j : Int) + (n : Int)) = (j : Int) + (n : Int) := IntWalk.i64_in _ (by omega)
          have e4 : IntKind.i64.wrap ((j : Int) + (n : Int) + 1) = (j : Int) + (n : Int) + 1 := IntWalk.i64_in _ (by omega)
          have n0 : ((n : Int) == 0) = false := by rw [beq_eq_false_iff_ne]; omega
          replace HSa := Lib.hid (HSa.out.drewN m)
          replace HUa := Lib.hid (HUa.out.drewN m)
          clear hTe hdj hf e1 hb HF
          go_wp2_with (at_builtin; refine wpList_app _ rfl (.tmp 48) (.tmp 50) 80 rfl 5 i0 (.int .u8 0) 1 1 ul8s hi hz0 hz1 hz2 rfl _ l.length (cb8 l) rfl ?hown _ 1 1 [.int .u8 (v.toNat : Int)] rfl rfl (by exact cell_new1 (by simp)) (by exact one_cell1 rfl) (by unfold maxLen; omega) (by omega) ?go)
          case hown => exact HSa.out.alloc _
          case go =>
            intro ad' cap' w2 hs2 hU2
            have HS2 := Lib.hid hs2
            have HU2 := Lib.hid ((HUa.out.alloc _).trans hU2)
            clear hs2 hU2
            go_wp2_with (fail)
            go_roundw
            case rel =>
              refine ⟨j + n + 1, l ++ [v], by go_num, (by rw [show j + n + 1 = j + 1 + n by omega]; exact HTE), by omega, by omega, by simp; omega, ?_, HU2.out⟩
              rw [cb8_snoc, List.length_append]; exact HS2.out
            case measure => simp [RowKit.intOf]; omega
        · have hTe : T = none := by rw [hTl.out, hdj]; exact textL_bad _ _ hf
          have HTE := Lib.hid hTe
          clear hTe hdj hf e1 hb HF
          go_wp2_with (fail)
          go_ret2
          exact ⟨.inr ⟨HTE.out, rfl⟩, (HUa.out.drewN m).fr.below (Nat.le_refl _) (by simp)⟩
      · have t92 : ((c.toNat : Int) == 92) = false := bne8 c 92 h92 (by decide)
        have t92' : ((c.toNat : Int) != 92) = true := by rw [bne, t92]; rfl
        have hTe : T = textL (l ++ [c]) (s.data.toList.drop (j + 1)) := by rw [hTl.out, hdj]; exact textL_cons _ _ _ h34 h92
        have HTE := Lib.hid hTe
        clear hTe hdj hc hS hU h34 h92
        go_wp2_with (at_builtin; refine wpList_app _ rfl (.tmp 33) (.tmp 37) 80 rfl 5 i0 (.int .u8 0) 1 1 ul8s hi hz0 hz1 hz2 rfl _ l.length (cb8 l) rfl ?hown _ 1 1 [.int .u8 (c.toNat : Int)] rfl rfl (by exact cell_new1 (by simp)) (by exact one_cell1 rfl) (by unfold maxLen; omega) (by omega) ?go)
        case hown => exact HSa.out.alloc _
        case go =>
          intro ad' cap' w2 hs2 hU2
          have HS2 := Lib.hid hs2
          have HU2 := Lib.hid ((HUa.out.alloc _).trans hU2)
          clear hs2 hU2
          go_wp2_with (fail)
          go_roundw
          case rel =>
            refine ⟨j + 1, l ++ [c], by go_num, HTE, by omega, by omega, by simp; omega, ?_, HU2.out⟩
            rw [cb8_snoc, List.length_append]; exact HS2.out
          case measure => simp [RowKit.intOf]; omega
    · have hlt' : ¬ (j : Int) < (s.size : Int) := by omega
      have hTe : T = none := by
        rw [hTl.out, List.drop_eq_nil_of_le (by rw [size_toList]; omega)]
        rfl
      have HTE := Lib.hid hTe
      clear hTe hS hU
      go_wp2_with (fail)
      go_ret2
      exact ⟨.inr ⟨HTE.out, rfl⟩, HUa.out.fr.below (Nat.le_refl _) (by simp)⟩

end Go.Proofs.YtnmpckdggddpoaaGreatDoor

namespace Go.Proofs.YtnmpckdggddpoaaGreatDoor
set_option linter.unusedSimpArgs false
set_option linter.unusedVariables false
open Go.RowKit Go.Shelf Go.Lib

def rWords : List ByteArray := [⟨#[97, 110, 100]⟩, ⟨#[97, 115]⟩, ⟨#[98, 101, 103, 105, 110]⟩, ⟨#[100, 111]⟩, ⟨#[100, 111, 110, 101]⟩, ⟨#[100, 111, 119, 110, 116, 111]⟩, ⟨#[101, 108, 115, 101]⟩, ⟨#[101, 110, 100]⟩, ⟨#[101, 120, 99, 101, 112, 116, 105, 111, 110]⟩, ⟨#[102, 97, 108, 115, 101]⟩, ⟨#[102, 111, 114]⟩, ⟨#[102, 117, 110]⟩, ⟨#[102, 117, 110, 99, 116, 105, 111, 110]⟩, ⟨#[105, 102]⟩, ⟨#[105, 110]⟩, ⟨#[108, 101, 116]⟩, ⟨#[109, 97, 116, 99, 104]⟩, ⟨#[109, 111, 100]⟩, ⟨#[109, 117, 116, 97, 98, 108, 101]⟩, ⟨#[110, 111, 116]⟩, ⟨#[111, 102]⟩, ⟨#[114, 97, 105, 115, 101]⟩, ⟨#[114, 101, 99]⟩, ⟨#[116, 104, 101, 110]⟩, ⟨#[116, 111]⟩, ⟨#[116, 114, 117, 101]⟩, ⟨#[116, 114, 121]⟩, ⟨#[116, 121, 112, 101]⟩, ⟨#[119, 104, 101, 110]⟩, ⟨#[119, 104, 105, 108, 101]⟩, ⟨#[119, 105, 116, 104]⟩]
def rSigns : List ByteArray := [⟨#[91, 124]⟩, ⟨#[124, 93]⟩, ⟨#[59, 59]⟩, ⟨#[58, 58]⟩, ⟨#[58, 61]⟩, ⟨#[60, 45]⟩, ⟨#[45, 62]⟩, ⟨#[124, 124]⟩, ⟨#[38, 38]⟩, ⟨#[60, 62]⟩, ⟨#[60, 61]⟩, ⟨#[62, 61]⟩, ⟨#[46, 40]⟩, ⟨#[40]⟩, ⟨#[41]⟩, ⟨#[91]⟩, ⟨#[93]⟩, ⟨#[123]⟩, ⟨#[125]⟩, ⟨#[59]⟩, ⟨#[44]⟩, ⟨#[58]⟩, ⟨#[124]⟩, ⟨#[61]⟩, ⟨#[60]⟩, ⟨#[62]⟩, ⟨#[43]⟩, ⟨#[45]⟩, ⟨#[42]⟩, ⟨#[47]⟩, ⟨#[94]⟩, ⟨#[33]⟩, ⟨#[46]⟩]
def strs (l : List ByteArray) : List Value := l.map Value.string
theorem rSigns_len (k : Nat) (x : ByteArray) (h : rSigns[k]? = some x) : 1 ≤ x.size ∧ x.size ≤ 2 := by
  have h1 := List.mem_of_getElem? h
  have h2 : (rSigns.all fun x => decide (1 ≤ x.size) && decide (x.size ≤ 2)) = true := by decide
  have h3 := List.all_eq_true.1 h2 x h1
  rw [Bool.and_eq_true, decide_eq_true_iff, decide_eq_true_iff] at h3
  exact h3
theorem strs_get {l : List ByteArray} {k : Nat} {x : ByteArray} (h : l[k]? = some x) : (strs l)[k]? = some (.string x) := by simp [strs, h]

theorem r_Words (w : World) : Calls Tryz.prog 221 #[] w fun e w' => e = .returned (.slice (some ⟨w.heap.size, 0, none⟩) 31 31) ∧ Blk w' w.heap.size (strs rWords) 9 ∧ Below w.heap.size w w' := by
  go_enter Tryz.func221, Tryz.ntmps221
  go_wp2_with (fail)
  go_ret
  exact ⟨rfl, Blk.new w (strs rWords) 9, (Below.refl _ w).alloc (Nat.le_refl _) _⟩
theorem r_Signs (w : World) : Calls Tryz.prog 175 #[] w fun e w' => e = .returned (.slice (some ⟨w.heap.size, 0, none⟩) 33 33) ∧ Blk w' w.heap.size (strs rSigns) 9 ∧ Below w.heap.size w w' := by
  go_enter Tryz.func175, Tryz.ntmps175
  go_wp2_with (fail)
  go_ret
  exact ⟨rfl, Blk.new w (strs rSigns) 9, (Below.refl _ w).alloc (Nat.le_refl _) _⟩

def SomeB (w : World) (e : Ending) (w' : World) : Prop := (∃ q, e = .returned (.bool q)) ∧ Below w.heap.size w w'
set_option maxRecDepth 100000 in
set_option maxHeartbeats 4000000 in
theorem r_IsWord (s : ByteArray) (w : World) : Calls Tryz.prog 172 #[.string s] w (SomeB w) := by
  have HW := Lib.hid (fun w => r_Words w)
  go_enter Tryz.func172, Tryz.ntmps172
  go_wp2_with (fail)
  refine (HW.out _).mono ?_
  rintro e w1 ⟨rfl, hb, hB⟩
  have HB := Lib.hid hB
  have HK := Lib.hid hb
  obtain ⟨b, hbb⟩ : ∃ b, b = w.heap.size := ⟨_, rfl⟩
  rw [← hbb] at HK ⊢
  clear hb hB HW hbb
  go_wp2_with (fail)
  go_loop [4] (fun i => ∃ j : Nat, i = .int .i64 j ∧ j ≤ 31) (fun i => 31 - (RowKit.intOf i).toNat)
  case atStart => exact ⟨0, rfl, by omega⟩
  case round =>
    obtain ⟨j, rfl, hj⟩ := hrel
    have j0 : (0 : Int) ≤ (j : Int) := by omega
    rcases Nat.lt_or_ge j 31 with hlt | hge
    · have hlt' : (j : Int) < 31 := by omega
      obtain ⟨x, hx⟩ : ∃ x, rWords[j]? = some x := ⟨_, List.getElem?_eq_getElem (by show j < 31; exact hlt)⟩
      have cx : w1.cell? ⟨b, j, none⟩ = some (.string x) := by rw [HK.out.cell]; exact strs_get hx
      have e1 : IntKind.i64.wrap ((j : Int) + 1) = (j : Int) + 1 := IntWalk.i64_in _ (by omega)
      clear hx
      by_cases hq : x.toList = s.toList
      · have hq' : (x.toList == s.toList) = true := by rw [hq]; exact beq_self_eq_true _
        clear hq
        go_wp2_with (fail)
        go_ret
        exact ⟨⟨_, rfl⟩, HB.out⟩
      · have hq' : (x.toList == s.toList) = false := by rw [beq_eq_false_iff_ne]; exact hq
        clear hq
        go_wp2_with (fail)
        go_round
        case rel => exact ⟨j + 1, by go_num, by omega⟩
        case measure => simp [RowKit.intOf]; omega
    · have hlt' : ¬ (j : Int) < 31 := by omega
      go_wp2_with (fail)
      go_ret
      exact ⟨⟨_, rfl⟩, HB.out⟩

def SomeI (w : World) (e : Ending) (w' : World) : Prop := (∃ n, I64 n ∧ e = .returned (.int .i64 n)) ∧ w' = w
def SomeW (w : World) (e : Ending) (w' : World) : Prop := (∃ n, U64 n ∧ e = .returned (.int .u64 n)) ∧ w' = w

end Go.Proofs.YtnmpckdggddpoaaGreatDoor

namespace Go.Proofs.YtnmpckdggddpoaaGreatDoor
set_option linter.unusedSimpArgs false
set_option linter.unusedVariables false
open Go.RowKit Go.Shelf Go.Lib

def cutI (n : Int) : Int := if 4611686018427387903 < n then n - 9223372036854775808 else if n < -4611686018427387904 then n + 9223372036854775808 else n
theorem cutI_b {n : Int} (h : I64 n) : -4611686018427387904 ≤ cutI n ∧ cutI n ≤ 4611686018427387903 := by unfold I64 at h; unfold cutI; split <;> (try split) <;> omega
theorem cutI_w {n : Int} (h : I64 n) : (2 * cutI n + 1) % 18446744073709551616 = wInt n := by unfold I64 at h; unfold cutI wInt; split <;> (try split) <;> omega

theorem ret_int {k : IntKind} {a b : Int} (h : a = b) : Ending.returned (.int k a) = .returned (.int k b) := by rw [h]
theorem r01_cut (n : Int) (h : I64 n) (w : World) : Calls Tryz.prog 110 #[.int .i64 n] w fun e w' => e = .returned (.int .i64 (cutI n)) ∧ w' = w := by
  unfold I64 at h
  by_cases h1 : 4611686018427387903 < n
  · have hv : Hid (cutI n = n - 9223372036854775808) := Lib.hid (by unfold cutI; rw [if_pos h1])
    have e1 : IntKind.i64.wrap (n - 4611686018427387903) = n - 4611686018427387903 := IntWalk.i64_in _ (by omega)
    have e2 : IntKind.i64.wrap (n - 4611686018427387903 - 4611686018427387903) = n - 4611686018427387903 - 4611686018427387903 := IntWalk.i64_in _ (by omega)
    have e3 : IntKind.i64.wrap (n - 4611686018427387903 - 4611686018427387903 - 2) = n - 4611686018427387903 - 4611686018427387903 - 2 := IntWalk.i64_in _ (by omega)
    go_enter Tryz.func110, Tryz.ntmps110
    go_wp2_with (fail)
    go_ret
    exact ⟨ret_int (by rw [hv.out]; omega), rfl⟩
  · by_cases h2 : n < -4611686018427387904
    · have hv : Hid (cutI n = n + 9223372036854775808) := Lib.hid (by unfold cutI; rw [if_neg h1, if_pos h2])
      have e1 : IntKind.i64.wrap (n + 4611686018427387903) = n + 4611686018427387903 := IntWalk.i64_in _ (by omega)
      have e2 : IntKind.i64.wrap (n + 4611686018427387903 + 4611686018427387903) = n + 4611686018427387903 + 4611686018427387903 := IntWalk.i64_in _ (by omega)
      have e3 : IntKind.i64.wrap (n + 4611686018427387903 + 4611686018427387903 + 2) = n + 4611686018427387903 + 4611686018427387903 + 2 := IntWalk.i64_in _ (by omega)
      go_enter Tryz.func110, Tryz.ntmps110
      go_wp2_with (fail)
      go_ret
      exact ⟨ret_int (by rw [hv.out]; omega), rfl⟩
    · have hv : Hid (cutI n = n) := Lib.hid (by unfold cutI; rw [if_neg h1, if_neg h2])
      go_enter Tryz.func110, Tryz.ntmps110
      go_wp2_with (fail)
      go_ret
      exact ⟨ret_int (by rw [hv.out]), rfl⟩

theorem ret_u64 {a b : Int} (h : a = b) : Ending.returned (.int .u64 a) = .returned (.int .u64 b) := by rw [h]
theorem r01_Int (n : Int) (h : I64 n) (w : World) : Calls Tryz.prog 62 #[.int .i64 n] w fun e w' => e = .returned (.int .u64 (wInt n)) ∧ w' = w := by
  have hc := cutI_b h
  have HW := Lib.hid (cutI_w h)
  have HC := Lib.hid (fun w => r01_cut n h w)
  clear h
  obtain ⟨m, hm⟩ : ∃ m, m = cutI n := ⟨_, rfl⟩
  rw [← hm] at hc HW HC
  clear hm
  by_cases h1 : m < 0
  · have e1 : IntKind.i64.wrap (0 - m) = 0 - m := IntWalk.i64_in _ (by omega)
    have e2 : IntKind.u64.wrap (0 - m) = 0 - m := IntWalk.u64_in _ (by omega)
    have e3 : IntKind.u64.wrap ((0 - m) * 2) = (0 - m) * 2 := IntWalk.u64_in _ (by omega)
    go_enter Tryz.func62, Tryz.ntmps62
    go_wp2_with (go_at_call 110; ((with_reducible refine (HC.out _).mono ?_); rintro e w' ⟨rfl, rfl⟩))
    go_ret
    exact ⟨ret_u64 (by rw [← HW.out]; simp [IntKind.wrap, IntKind.signed, IntKind.bits]; omega), rfl⟩
  · have h1' : ¬ m < 0 := h1
    have e2 : IntKind.u64.wrap m = m := IntWalk.u64_in _ (by omega)
    have e3 : IntKind.u64.wrap (m * 2) = m * 2 := IntWalk.u64_in _ (by omega)
    have e4 : IntKind.u64.wrap (m * 2 + 1) = m * 2 + 1 := IntWalk.u64_in _ (by omega)
    go_enter Tryz.func62, Tryz.ntmps62
    go_wp2_with (go_at_call 110; ((with_reducible refine (HC.out _).mono ?_); rintro e w' ⟨rfl, rfl⟩))
    go_ret
    exact ⟨ret_u64 (by rw [← HW.out]; omega), rfl⟩
theorem r01_Num (x : Int) (h : U64 x) (w : World) : Calls Tryz.prog 108 #[.int .u64 x] w fun e w' => e = .returned (.int .i64 (wNum x)) ∧ w' = w := by
  unfold U64 at h
  have e0 : IntKind.u64.wrap (x / 2) = x / 2 := IntWalk.u64_in _ (by omega)
  have e1 : IntKind.i64.wrap (x / 2) = x / 2 := IntWalk.i64_in _ (by omega)
  by_cases h1 : 4611686018427387903 < x / 2
  · have hv : Hid (wNum x = x / 2 - 9223372036854775808) := Lib.hid (by unfold wNum; split <;> omega)
    have e2 : IntKind.i64.wrap (x / 2 - 4611686018427387903) = x / 2 - 4611686018427387903 := IntWalk.i64_in _ (by omega)
    have e3 : IntKind.i64.wrap (x / 2 - 4611686018427387903 - 4611686018427387903) = x / 2 - 4611686018427387903 - 4611686018427387903 := IntWalk.i64_in _ (by omega)
    have e4 : IntKind.i64.wrap (x / 2 - 4611686018427387903 - 4611686018427387903 - 2) = x / 2 - 4611686018427387903 - 4611686018427387903 - 2 := IntWalk.i64_in _ (by omega)
    go_enter Tryz.func108, Tryz.ntmps108
    go_wp2_with (fail)
    go_ret
    exact ⟨ret_int (by rw [hv.out]; omega), rfl⟩
  · have hv : Hid (wNum x = x / 2) := Lib.hid (by unfold wNum; split <;> omega)
    go_enter Tryz.func108, Tryz.ntmps108
    go_wp2_with (fail)
    go_ret
    exact ⟨ret_int (by rw [hv.out]), rfl⟩

end Go.Proofs.YtnmpckdggddpoaaGreatDoor

namespace Go.Proofs.YtnmpckdggddpoaaGreatDoor
set_option linter.unusedSimpArgs false
set_option linter.unusedVariables false
open Go.RowKit Go.Shelf Go.Lib

def PaR (w : World) (e : Ending) (w' : World) : Prop := (∃ x er, U64 x ∧ I64 er ∧ e = .returned (.tuple #[.int .u64 x, .int .i64 er])) ∧ w' = w
theorem wrap_I64 (n : Int) : I64 (RowKit.wrap64 n) := by unfold I64 RowKit.wrap64; omega

set_option maxRecDepth 100000 in
set_option maxHeartbeats 4000000 in
theorem r01_Parse (s : ByteArray) (hs : s.size ≤ 4096) (c : UInt8) (hc : s.data.toList[0]? = some c) (hd : 48 ≤ c.toNat ∧ c.toNat ≤ 57) (w : World) :
    Calls Tryz.prog 173 #[.string s] w (PaR w) := by
  have U0 : Hid (U64 0) := Lib.hid (by unfold U64; omega)
  have I0 : Hid (I64 0) := Lib.hid (by unfold I64; omega)
  have I2 : Hid (I64 2) := Lib.hid (by unfold I64; omega)
  have I5 : Hid (I64 5) := Lib.hid (by unfold I64; omega)
  have hb := byte_at hc
  have hsz : 0 < s.size := by rw [← size_toList]; exact (List.getElem?_eq_some_iff.1 hc).1
  have hsz' : (0 : Int) < (s.size : Int) := by omega
  have hs0 : ((s.size : Int) == 0) = false := by rw [beq_eq_false_iff_ne]; omega
  have t45 : ((c.toNat : Int) == 45) = false := by rw [beq_eq_false_iff_ne]; omega
  clear hc
  by_cases h48 : c = 48
  · have t48 : ((c.toNat : Int) == 48) = true := by rw [h48]; rfl
    by_cases h1 : (1 : Int) < (s.size : Int)
    · clear h48 hd
      go_enter Tryz.func173, Tryz.ntmps173
      go_wp2_with (fail)
      go_ret2
      exact ⟨⟨_, _, U0.out, I5.out, rfl⟩, rfl⟩
    · clear h48 hd
      go_enter Tryz.func173, Tryz.ntmps173
      go_wp2_with (fail)
      go_loop [6] (fun i => ∃ j : Nat, i = .int .i64 j ∧ j ≤ s.size) (fun i => s.size - (RowKit.intOf i).toNat)
      case atStart => exact ⟨0, rfl, by omega⟩
      case round =>
        obtain ⟨j, rfl, hj⟩ := hrel
        have j0 : (0 : Int) ≤ (j : Int) := by omega
        rcases Nat.lt_or_ge j s.size with hlt | hge
        · obtain ⟨x, hx⟩ : ∃ c, s.data.toList[j]? = some c := ⟨_, List.getElem?_eq_getElem (by rw [size_toList]; exact hlt)⟩
          have hbx := byte_at hx
          have hlt' : (j : Int) < (s.size : Int) := by omega
          have e1 : IntKind.i64.wrap ((j : Int) + 1) = (j : Int) + 1 := IntWalk.i64_in _ (by omega)
          clear hx
          by_cases hlo : (x.toNat : Int) < 48
          · go_wp2_with (fail)
            go_ret2
            exact ⟨⟨_, _, U0.out, I5.out, rfl⟩, rfl⟩
          · by_cases hhi : (57 : Int) < (x.toNat : Int)
            · go_wp2_with (fail)
              go_ret2
              exact ⟨⟨_, _, U0.out, I5.out, rfl⟩, rfl⟩
            · go_wp2_with (fail)
              go_round
              case rel => exact ⟨j + 1, by go_num, by omega⟩
              case measure => simp [RowKit.intOf]; omega
        · have hlt' : ¬ (j : Int) < (s.size : Int) := by omega
          go_wp2_with (fail)
          go_loop [7, 8, 9] (fun n i _ => ∃ (N : Int) (j : Nat), n = .int .i64 N ∧ Hid (I64 N) ∧ i = .int .i64 j ∧ j ≤ s.size) (fun _ i _ => s.size - (RowKit.intOf i).toNat)
          case atStart => exact ⟨0, 0, rfl, Lib.hid (by unfold I64; omega), rfl, by omega⟩
          case round =>
            obtain ⟨N, j, rfl, hN, rfl, hj⟩ := hrel
            have j0 : (0 : Int) ≤ (j : Int) := by omega
            rcases Nat.lt_or_ge j s.size with hlt | hge
            · obtain ⟨x, hx⟩ : ∃ c, s.data.toList[j]? = some c := ⟨_, List.getElem?_eq_getElem (by rw [size_toList]; exact hlt)⟩
              have hbx := byte_at hx
              have hlt' : (j : Int) < (s.size : Int) := by omega
              have e1 : IntKind.i64.wrap ((j : Int) + 1) = (j : Int) + 1 := IntWalk.i64_in _ (by omega)
              clear hx
              go_wp2_with (fail)
              · go_ret2
                exact ⟨⟨_, _, U0.out, I2.out, rfl⟩, rfl⟩
              · go_round
                case rel => exact ⟨_, j + 1, rfl, Lib.hid (wrap_I64 _), by go_num, by omega⟩
                case measure => simp [RowKit.intOf]; omega
            · have hlt' : ¬ (j : Int) < (s.size : Int) := by omega
              by_cases hl : N = -4611686018427387904
              · have hl' : (N == -4611686018427387904) = true := by rw [beq_iff_eq]; exact hl
                clear hl
                go_wp2_with (fail)
                go_ret2
                exact ⟨⟨_, _, U0.out, I2.out, rfl⟩, rfl⟩
              · have hl' : (N == -4611686018427387904) = false := by rw [beq_eq_false_iff_ne]; exact hl
                clear hl
                go_wp2_with (fail)
                with_reducible refine (r01_Int _ (wrap_I64 _) _).mono ?_
                rintro e w' ⟨rfl, rfl⟩
                go_wp2_with (fail)
                go_ret2
                exact ⟨⟨_, _, wInt_u _, I0.out, rfl⟩, rfl⟩
  · have t48 : ((c.toNat : Int) == 48) = false := bne8 c 48 h48 (by decide)
    clear h48 hd
    go_enter Tryz.func173, Tryz.ntmps173
    go_wp2_with (fail)
    go_loop [6] (fun i => ∃ j : Nat, i = .int .i64 j ∧ j ≤ s.size) (fun i => s.size - (RowKit.intOf i).toNat)
    case atStart => exact ⟨0, rfl, by omega⟩
    case round =>
      obtain ⟨j, rfl, hj⟩ := hrel
      have j0 : (0 : Int) ≤ (j : Int) := by omega
      rcases Nat.lt_or_ge j s.size with hlt | hge
      · obtain ⟨x, hx⟩ : ∃ c, s.data.toList[j]? = some c := ⟨_, List.getElem?_eq_getElem (by rw [size_toList]; exact hlt)⟩
        have hbx := byte_at hx
        have hlt' : (j : Int) < (s.size : Int) := by omega
        have e1 : IntKind.i64.wrap ((j : Int) + 1) = (j : Int) + 1 := IntWalk.i64_in _ (by omega)
        clear hx
        by_cases hlo : (x.toNat : Int) < 48
        · go_wp2_with (fail)
          go_ret2
          exact ⟨⟨_, _, U0.out, I5.out, rfl⟩, rfl⟩
        · by_cases hhi : (57 : Int) < (x.toNat : Int)
          · go_wp2_with (fail)
            go_ret2
            exact ⟨⟨_, _, U0.out, I5.out, rfl⟩, rfl⟩
          · go_wp2_with (fail)
            go_round
            case rel => exact ⟨j + 1, by go_num, by omega⟩
            case measure => simp [RowKit.intOf]; omega
      · have hlt' : ¬ (j : Int) < (s.size : Int) := by omega
        go_wp2_with (fail)
        go_loop [7, 8, 9] (fun n i _ => ∃ (N : Int) (j : Nat), n = .int .i64 N ∧ Hid (I64 N) ∧ i = .int .i64 j ∧ j ≤ s.size) (fun _ i _ => s.size - (RowKit.intOf i).toNat)
        case atStart => exact ⟨0, 0, rfl, Lib.hid (by unfold I64; omega), rfl, by omega⟩
        case round =>
          obtain ⟨N, j, rfl, hN, rfl, hj⟩ := hrel
          have j0 : (0 : Int) ≤ (j : Int) := by omega
          rcases Nat.lt_or_ge j s.size with hlt | hge
          · obtain ⟨x, hx⟩ : ∃ c, s.data.toList[j]? = some c := ⟨_, List.getElem?_eq_getElem (by rw [size_toList]; exact hlt)⟩
            have hbx := byte_at hx
            have hlt' : (j : Int) < (s.size : Int) := by omega
            have e1 : IntKind.i64.wrap ((j : Int) + 1) = (j : Int) + 1 := IntWalk.i64_in _ (by omega)
            clear hx
            go_wp2_with (fail)
            · go_ret2
              exact ⟨⟨_, _, U0.out, I2.out, rfl⟩, rfl⟩
            · go_round
              case rel => exact ⟨_, j + 1, rfl, Lib.hid (wrap_I64 _), by go_num, by omega⟩
              case measure => simp [RowKit.intOf]; omega
          · have hlt' : ¬ (j : Int) < (s.size : Int) := by omega
            by_cases hl : N = -4611686018427387904
            · have hl' : (N == -4611686018427387904) = true := by rw [beq_iff_eq]; exact hl
              clear hl
              go_wp2_with (fail)
              go_ret2
              exact ⟨⟨_, _, U0.out, I2.out, rfl⟩, rfl⟩
            · have hl' : (N == -4611686018427387904) = false := by rw [beq_eq_false_iff_ne]; exact hl
              clear hl
              go_wp2_with (fail)
              with_reducible refine (r01_Int _ (wrap_I64 _) _).mono ?_
              rintro e w' ⟨rfl, rfl⟩
              go_wp2_with (fail)
              go_ret2
              exact ⟨⟨_, _, wInt_u _, I0.out, rfl⟩, rfl⟩

end Go.Proofs.YtnmpckdggddpoaaGreatDoor
