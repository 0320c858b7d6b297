/- The lexer's reader: comment, gap. -/
import Derived.Test.YtnmpckdggddpoaaGreatDoorSp
namespace Go.Proofs.YtnmpckdggddpoaaGreatDoor
set_option linter.unusedSimpArgs false
set_option linter.unusedVariables false
open Go.RowKit Go.Shelf Go.Lib

theorem pre2 {l : List UInt8} {x y : UInt8} (h : Lib.hasPrefix l [x, y] = true) : l[0]? = some x ∧ l[1]? = some y ∧ 2 ≤ l.length := by
  match l, h with
  | [], h => simp [Lib.hasPrefix, List.isPrefixOf] at h
  | [a], h => simp [Lib.hasPrefix, List.isPrefixOf] at h
  | a :: b :: l, h =>
    simp [Lib.hasPrefix, List.isPrefixOf] at h
    simp [h.1, h.2]
theorem pre2_at {s : ByteArray} {j : Nat} {x y : UInt8} (h : Lib.hasPrefix (s.data.toList.drop j) [x, y] = true) : s.data.toList[j]? = some x ∧ s.data.toList[j + 1]? = some y ∧ j + 2 ≤ s.size := by
  obtain ⟨h1, h2, h3⟩ := pre2 h
  rw [List.getElem?_drop] at h1 h2
  rw [List.length_drop, size_toList] at h3
  exact ⟨h1, h2, by omega⟩

theorem pos_less {W : World} {b : Nat} {s : ByteArray} {k : Nat} {out : Value} (h : Rd W b s k out) (n j : Nat) (hkj : k < j) (hk : k < s.size) : s.size - posR ((W.drewN n).setCell ⟨b, 1, none⟩ (.int .i64 (j : Nat))) b < s.size - posR W b := by
  rw [posR_eq (Rd.move (h.drewN n) j), posR_eq h]
  omega


set_option maxRecDepth 100000 in
set_option maxHeartbeats 8000000 in
theorem lx_comment (b : Nat) (s : ByteArray) (k : Nat) (out : Value) (w : World) (h : Rd w b s k out) (hs : s.size ≤ 4096) (hp : Lib.hasPrefix (s.data.toList.drop k) [40, 42] = true) :
    Calls Tryz.prog 205 #[.pointer (some ⟨b, 0, none⟩)] w fun e w' =>
      (∃ j : Nat, e = .returned (.tuple #[]) ∧ k < j ∧ j ≤ s.size ∧ s.data.toList[j - 1]? = some 41 ∧ Rd w' b s j out ∧ Fr [b] w w') ∨ (e = flt 20 k ∧ Fr [b] w w') := by
  have cb := h.cell
  have fb := h.free
  have H := Lib.hid h
  clear h
  have hk2 := (pre2_at hp).2.2
  go_enter Tryz.func205, Tryz.ntmps205
  go_wp2_with (fail)
  go_loopw [3] (fun d wr => ∃ (j dd : Nat), d = .int .i64 dd ∧ k ≤ j ∧ j ≤ s.size ∧ dd ≤ j ∧ Hid (dd = 0 → j = k) ∧ Rd wr b s j out ∧ Upd [b] [b] w wr) (fun _ wr => s.size - posR wr b)
  case atStart => exact ⟨k, 0, rfl, by omega, by omega, by omega, fun _ => rfl, H.out, Upd.refl _ _⟩
  case round =>
    obtain ⟨j, dd, rfl, hkj, hj, hdj, h0, hR, hU⟩ := hrel
    clear cb fb
    have cb := hR.cell
    have fb := hR.free
    have HR := Lib.hid hR
    have HU := Lib.hid hU
    clear hR hU
    rcases Nat.lt_or_ge j s.size with hlt | hge
    · have hne : ((j : Int) == (s.size : Int)) = false := by rw [beq_eq_false_iff_ne]; omega
      have e1 : IntKind.i64.wrap ((j : Int) + 1) = (j : Int) + 1 := IntWalk.i64_in _ (by omega)
      have e2 : IntKind.i64.wrap ((j : Int) + 2) = (j : Int) + 2 := IntWalk.i64_in _ (by omega)
      have e3 : IntKind.i64.wrap ((dd : Int) + 1) = (dd : Int) + 1 := IntWalk.i64_in _ (by omega)
      have e4 : IntKind.i64.wrap ((dd : Int) - 1) = (dd : Int) - 1 := IntWalk.i64_in _ (by omega)
      have HH := Lib.hid (fun n => lx_has b s ⟨#[40, 42]⟩ j out _ (HR.out.drewN n) hj)
      have HG := Lib.hid (fun n => lx_has b s ⟨#[42, 41]⟩ j out _ (HR.out.drewN n) hj)
      obtain ⟨q1, hq1⟩ : ∃ q, Hid (Lib.hasPrefix (s.data.toList.drop j) (⟨#[40, 42]⟩ : ByteArray).data.toList = q) := ⟨_, rfl⟩
      obtain ⟨q2, hq2⟩ : ∃ q, Hid (Lib.hasPrefix (s.data.toList.drop j) (⟨#[42, 41]⟩ : ByteArray).data.toList = q) := ⟨_, rfl⟩
      rw [hq1.out] at HH
      rw [hq2.out] at HG
      cases q1
      · have hdd : dd ≠ 0 := fun e => by
          have := h0.out e
          subst this
          have h1 := hq1.out
          rw [show (⟨#[40, 42]⟩ : ByteArray).data.toList = [40, 42] from rfl, hp] at h1
          cases h1
        have t0 : ((dd : Int) == 0) = false := by rw [beq_eq_false_iff_ne]; omega
        cases q2
        · clear e2 e3 e4
          go_wp2_with (fail)
          go_quiet (fail)
          go_wp2_with (fail)
          refine Calls.mono (HH.out _) ?_
          rintro e w' ⟨rfl, n, rfl⟩
          go_wp2_with (fail)
          refine Calls.mono (HG.out _) ?_
          rintro e w' ⟨rfl, n, rfl⟩
          go_wp2_with (fail)
          go_roundw
          case rel => exact ⟨j + 1, dd, rfl, by omega, by omega, by omega, fun h => absurd h hdd, Rd.move (HR.out.drewN _) (j + 1), (HU.out.drewN _).set (by simp) _ _⟩
          case measure => exact pos_less HR.out _ (j + 1) (by omega) (by omega)
        · obtain ⟨g1, g2, g3⟩ := pre2_at (s := s) hq2.out
          by_cases h1 : dd = 1
          · subst h1
            clear e1 e3 e4 t0
            go_wp2_with (fail)
            go_quiet (fail)
            go_wp2_with (fail)
            refine Calls.mono (HH.out _) ?_
            rintro e w' ⟨rfl, n, rfl⟩
            go_wp2_with (fail)
            refine Calls.mono (HG.out _) ?_
            rintro e w' ⟨rfl, n, rfl⟩
            go_wp2_with (fail)
            refine bodyPost_ret (results_none rfl _ _ _) rfl ?_
            refine .inl ⟨j + 2, rfl, by omega, g3, g2, Rd.move (HR.out.drewN _) (j + 2), ((HU.out.drewN _).set (by simp) _ _).fr⟩
          · have t1 : ((dd : Int) - 1 == 0) = false := by rw [beq_eq_false_iff_ne]; omega
            clear e1 e3 t0
            go_wp2_with (fail)
            go_quiet (fail)
            go_wp2_with (fail)
            refine Calls.mono (HH.out _) ?_
            rintro e w' ⟨rfl, n, rfl⟩
            go_wp2_with (fail)
            refine Calls.mono (HG.out _) ?_
            rintro e w' ⟨rfl, n, rfl⟩
            go_wp2_with (fail)
            go_roundw
            case rel =>
              refine ⟨j + 2, dd - 1, by rw [show ((dd - 1 : Nat) : Int) = (dd : Int) - 1 by omega], by omega, g3, by omega, fun h => by omega, Rd.move (HR.out.drewN _) (j + 2), (HU.out.drewN _).set (by simp) _ _⟩
            case measure => exact pos_less HR.out _ (j + 2) (by omega) (by omega)
      · obtain ⟨g1, g2, g3⟩ := pre2_at (s := s) hq1.out
        have t1 : ((dd : Int) + 1 == 0) = false := by rw [beq_eq_false_iff_ne]; omega
        clear e1 e4
        go_wp2_with (fail)
        go_quiet (fail)
        go_wp2_with (fail)
        refine Calls.mono (HH.out _) ?_
        rintro e w' ⟨rfl, n, rfl⟩
        go_wp2_with (fail)
        go_roundw
        case rel =>
          refine ⟨j + 2, dd + 1, by rw [show ((dd + 1 : Nat) : Int) = (dd : Int) + 1 by omega], by omega, g3, by omega, fun h => by omega, Rd.move (HR.out.drewN _) (j + 2), (HU.out.drewN _).set (by simp) _ _⟩
        case measure => exact pos_less HR.out _ (j + 2) (by omega) (by omega)
    · have hee : ((j : Int) == (s.size : Int)) = true := by rw [beq_iff_eq]; omega
      go_wp2_with (fail)
      go_quiet (fail)
      go_wp2_with (fail)
      exact ⟨rfl, .inr ⟨rfl, (HU.out.drewN _).fr⟩⟩

theorem gap_comment {s : ByteArray} {j i : Nat} (h1 : s.data.toList[j]? = some 40) (h2 : s.data.toList[i - 1]? = some 41) (hi : j < i) (hs : i ≤ s.size) : GapR s.data.toList j i :=
  ⟨by omega, by rw [size_toList]; exact hs, fun h => (by rw [h1] at h; cases h), fun _ h => (by rw [h2] at h; cases h)⟩
def spI (c : UInt8) : Int := Lib.indexByte [32, 9, 10, 13] c
theorem lib_sp (a : UInt8) (w : World) : Calls Tryz.prog 203 #[.string ⟨#[32, 9, 10, 13]⟩, .int .u8 a.toNat] w fun e w' => e = .returned (.int .i64 (spI a)) ∧ w' = w := by
  have h := Tryz.strings_IndexByte ⟨#[32, 9, 10, 13]⟩ (a.toNat : Int) w
  have e : ((a.toNat : Int).toNat.toUInt8) = a := by simp
  rw [e] at h
  exact h

set_option maxRecDepth 100000 in
set_option maxHeartbeats 8000000 in
theorem lx_gap (b : Nat) (s : ByteArray) (k : Nat) (out : Value) (w : World) (h : Rd w b s k out) (hs : s.size ≤ 4096) (hk : k ≤ s.size) :
    Calls Tryz.prog 157 #[.pointer (some ⟨b, 0, none⟩)] w fun e w' =>
      (∃ j : Nat, e = .returned (.tuple #[]) ∧ GapR s.data.toList k j ∧ Rd w' b s j out ∧ Fr [b] w w') ∨ (∃ p : Nat, e = flt 20 p ∧ GapF s.data.toList k ∧ Fr [b] w w') := by
  have H := Lib.hid h
  clear h
  go_enter Tryz.func157, Tryz.ntmps157
  go_wp2_with (fail)
  go_loopw [2] (fun _ wr => ∃ (j : Nat), j ≤ s.size ∧ Hid (GapR s.data.toList k j) ∧ Rd wr b s j out ∧ Fr [b] w wr) (fun _ wr => s.size - posR wr b)
  case atStart => exact ⟨k, hk, GapR.refl (by rw [size_toList]; exact hk), H.out, Fr.refl _ _⟩
  case round =>
    obtain ⟨j, hj, hG, hR, hU⟩ := hrel
    have cb := hR.cell
    have fb := hR.free
    have HR := Lib.hid hR
    have HU := Lib.hid hU
    clear hR hU
    have j0 : (0 : Int) ≤ (j : Int) := by omega
    have js : (j : Int) ≤ (s.size : Int) := by omega
    rcases Nat.lt_or_ge j s.size with hlt | hge
    · have hlt' : (j : Int) < (s.size : Int) := by omega
      have e1 : IntKind.i64.wrap ((j : Int) + 1) = (j : Int) + 1 := IntWalk.i64_in _ (by omega)
      obtain ⟨c, hc⟩ : ∃ c, s.data.toList[j]? = some c := ⟨_, List.getElem?_eq_getElem (by rw [size_toList]; exact hlt)⟩
      have hb := byte_at hc
      have HI := Lib.hid (fun w => lib_sp c w)
      obtain ⟨q, hq⟩ : ∃ q, Hid (spI c = q) := ⟨_, rfl⟩
      rw [hq.out] at HI
      have HC := Lib.hid hc
      clear hc
      by_cases hq0 : 0 ≤ q
      · have hne : c ≠ 34 := fun e => by
          subst e
          have h1 := hq.out
          rw [show spI 34 = -1 by decide] at h1
          omega
        go_wp2_with (fail)
        go_quiet (fail)
        go_wp2_with (fail)
        go_quiet ((go_at_call 203; with_reducible exact qeq2 (HI.out _)))
        go_wp2_with (fail)
        go_roundw
        case rel =>
          refine ⟨j + 1, by omega, hG.out.trans ⟨by omega, by rw [size_toList]; omega, fun h => by rw [HC.out] at h; exact absurd (Option.some.inj h) hne, fun _ h => ?_⟩, Rd.move (HR.out.drewN _) (j + 1), HU.out.then (((Upd.refl [b] _).drewN _).set (by simp) _ _).fr⟩
          rw [Nat.add_sub_cancel, HC.out] at h
          exact hne (Option.some.inj h)
        case measure => exact pos_less HR.out _ (j + 1) (by omega) (by omega)
      · have HH := Lib.hid (fun n => lx_has b s ⟨#[40, 42]⟩ j out _ (HR.out.drewN n) hj)
        obtain ⟨q1, hq1⟩ : ∃ q, Hid (Lib.hasPrefix (s.data.toList.drop j) (⟨#[40, 42]⟩ : ByteArray).data.toList = q) := ⟨_, rfl⟩
        rw [hq1.out] at HH
        cases q1
        · go_wp2_with (fail)
          go_quiet (fail)
          go_wp2_with (fail)
          go_quiet ((go_at_call 203; with_reducible exact qeq2 (HI.out _)))
          go_wp2_with (fail)
          refine Calls.mono (HH.out _) ?_
          rintro e w' ⟨rfl, n, rfl⟩
          go_wp2_with (fail)
          refine bodyPost_ret (results_none rfl _ _ _) rfl ?_
          exact .inl ⟨j, rfl, hG.out, HR.out.drewN _, HU.out.then ((Upd.refl [b] _).drewN _).fr⟩
        · obtain ⟨g1, g2, g3⟩ := pre2_at (s := s) hq1.out
          have HK := Lib.hid (fun n => lx_comment b s j out _ (HR.out.drewN n) hs hq1.out)
          clear e1 g2 g3
          go_wp2_with (fail)
          go_quiet (fail)
          go_wp2_with (fail)
          go_quiet ((go_at_call 203; with_reducible exact qeq2 (HI.out _)))
          go_wp2_with (fail)
          refine Calls.mono (HH.out _) ?_
          rintro e w' ⟨rfl, n, rfl⟩
          go_wp2_with (fail)
          refine Calls.mono (HK.out _) ?_
          rintro e w' (⟨i, rfl, hi1, hi2, hi3, hR2, hF2⟩ | ⟨he, hF2⟩)
          · have HR2 := Lib.hid hR2
            clear hR2
            go_wp2_with (fail)
            go_roundw
            case rel =>
              refine ⟨i, hi2, hG.out.trans (gap_comment g1 hi3 hi1 hi2), HR2.out, HU.out.then (((Upd.refl [b] _).drewN _).fr.then hF2)⟩
            case measure => rw [posR_eq HR2.out, posR_eq HR.out]; omega
          · unfold flt at he
            subst he
            go_wp2_with (fail)
            refine ⟨rfl, .inr ⟨j, rfl, ⟨?_, ?_⟩, HU.out.then (((Upd.refl [b] _).drewN _).fr.then hF2)⟩⟩
            · rw [size_toList]; have := hG.out.le; omega
            · intro hk34
              have := hG.out.q hk34
              subst this
              rw [g1] at hk34
              cases hk34
    · have hlt' : ¬ (j : Int) < (s.size : Int) := by omega
      go_wp2_with (fail)
      go_quiet (fail)
      go_wp2_with (fail)
      go_end0
      exact .inl ⟨j, rfl, hG.out, HR.out.drewN _, HU.out.then ((Upd.refl [b] _).drewN _).fr⟩

end Go.Proofs.YtnmpckdggddpoaaGreatDoor
