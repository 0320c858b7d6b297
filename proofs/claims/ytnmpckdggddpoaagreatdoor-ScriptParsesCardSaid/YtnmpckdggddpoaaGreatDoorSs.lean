/- The lexer's reader: sign; IsWord. -/
import Derived.Test.YtnmpckdggddpoaaGreatDoorSr
namespace Go.Proofs.YtnmpckdggddpoaaGreatDoor
set_option linter.unusedSimpArgs false
set_option linter.unusedVariables false
open Go.RowKit Go.Shelf Go.Lib

theorem cntF_le : ∀ (l : List UInt8) (ws : Bool), Lib.cntF ws l ≤ l.length
  | [], _ => Nat.le_refl _
  | b :: l, ws => by
    unfold Lib.cntF
    have := cntF_le l (isSp b)
    simp only [List.length_cons]
    split <;> omega
theorem fields_any (s : ByteArray) (B : Nat) (w : World) (hE : Env B w) (hs : s.size < 1000) (ha : (s.data.toList.all fun b => decide (b.toNat < 128)) = true) :
    Calls Tryz.prog 242 #[.string s] w fun e w' => ∃ L : List (List UInt8), L.length ≤ 1000 ∧ e = .returned (.slice (some ⟨w.heap.size, 0, none⟩) L.length L.length) ∧ w' = w.alloc (.cells (L.map fun l => Value.string ⟨l.toArray⟩).toArray 9) := by
  refine (Tryz.strings_Fields_laid s w (by omega) (fun j b hj => ?_) hE.sp.here).mono ?_
  · have := List.all_eq_true.1 ha b (List.mem_of_getElem? hj)
    simpa using this
  · rintro e w' ⟨rfl, rfl⟩
    refine ⟨_, ?_, rfl, rfl⟩
    rw [Lib.fields_length]
    have := cntF_le s.data.toList true
    rw [size_toList] at this
    omega

set_option maxRecDepth 100000 in
set_option maxHeartbeats 2000000 in
theorem isWord_any (s : ByteArray) (hs : s.size ≤ 4096) (B : Nat) (w : World) (hE : Env B w) : Calls Tryz.prog 209 #[.string s] w fun e w' => ∃ q, e = .returned (.bool q) ∧ w' = w := by
  obtain ⟨m, hm⟩ := hE.ml
  have H1 := Lib.hid (Tryz.strings_Contains_one s 32 w)
  have H2 := Lib.hid (fun a b h => Tryz.strings_Contains a b m w h hm)
  clear hm
  obtain ⟨q, hq⟩ : ∃ q, Hid (decide (0 ≤ Lib.indexByte s.data.toList 32) = q) := ⟨_, rfl⟩
  rw [hq.out] at H1
  have n3 : ¬ (9223372036854775807 : Nat) < 1 + s.size := by omega
  have n5 : ¬ (9223372036854775807 : Nat) < 1 + s.size + 1 := by omega
  cases he : s.toList.isEmpty <;> cases q
  all_goals
    go_enter Tryz.func209, Tryz.ntmps209
    go_wp2_with (first | (go_at_call 240; with_reducible refine H1.out.mono ?_; rintro e w' ⟨rfl, rfl⟩) | (go_at_call 240; refine (H2.out _ _ (by decide +kernel)).mono ?_; rintro e w' ⟨rfl, rfl⟩))
    go_ret
    first | exact ⟨_, rfl, rfl⟩ | rfl

theorem prefix_len {l p : List UInt8} (h : Lib.hasPrefix l p = true) : p.length ≤ l.length := by
  unfold Lib.hasPrefix at h
  exact (List.isPrefixOf_iff_prefix.1 h).length_le

set_option maxRecDepth 100000 in
set_option maxHeartbeats 8000000 in
theorem lx_sign (b : Nat) (s : ByteArray) (k : Nat) (out : Value) (B : Nat) (w : World) (hE : Env B w) (hBb : B ≤ b) (h : Rd w b s k out) (hs : s.size ≤ 4096) (hk : k < s.size) :
    Calls Tryz.prog 213 #[.pointer (some ⟨b, 0, none⟩)] w fun e w' =>
      (∃ (j : Nat) (t : ByteArray), e = .returned (.string t) ∧ k < j ∧ j ≤ s.size ∧ Rd w' b s j out ∧ Fr [b] w w') ∨ (e = flt 20 k ∧ Fr [b] w w') := by
  have HF := Lib.hid (fun t ht ha => fields_any t B w hE ht ha)
  have HR := Lib.hid h
  clear h hE
  go_enter Tryz.func213, Tryz.ntmps213
  go_wp2_with (fail)
  refine Calls.mono (HF.out _ (by decide +kernel) (by decide +kernel)) ?_
  clear HF
  rintro e w1 ⟨L, hL, rfl, rfl⟩
  have HL := Lib.hid (heap_alloc_new w (.cells (L.map fun l => Value.string ⟨l.toArray⟩).toArray 9))
  have HR1 := Lib.hid (HR.out.alloc (.cells (L.map fun l => Value.string ⟨l.toArray⟩).toArray 9))
  have HF1 := Lib.hid ((((Upd.refl [b] w).alloc (.cells (L.map fun l => Value.string ⟨l.toArray⟩).toArray 9))).fr)
  obtain ⟨N, hN⟩ : ∃ N, N = w.heap.size := ⟨_, rfl⟩
  rw [← hN] at HL ⊢
  clear hN
  obtain ⟨wa, hwa⟩ : ∃ wa, wa = w.alloc (.cells (L.map fun l => Value.string ⟨l.toArray⟩).toArray 9) := ⟨_, rfl⟩
  rw [← hwa] at HL HR1 HF1 ⊢
  clear hwa
  go_wp2_with (fail)
  go_loopw [3, 8] (fun bv iv wr => ∃ (bs : ByteArray) (i n : Nat), bv = .string bs ∧ iv = .int .i64 i ∧ i ≤ L.length ∧ k + bs.size ≤ s.size ∧ wr = wa.drewN n) (fun _ iv _ => L.length - (RowKit.intOf iv).toNat)
  case atStart => exact ⟨ByteArray.empty, 0, 0, rfl, rfl, by omega, by show k + 0 ≤ s.size; omega, rfl⟩
  case round =>
    obtain ⟨bs, i, n, rfl, rfl, hi, hbs, rfl⟩ := hrel
    have cb := (HR1.out.drewN n).cell
    have fb := (HR1.out.drewN n).free
    by_cases hlt : i < L.length
    · obtain ⟨x, hx⟩ : ∃ x, L[i]? = some x := ⟨_, List.getElem?_eq_getElem hlt⟩
      have hc : (wa.drewN n).cell? ⟨N, i, none⟩ = some (.string ⟨x.toArray⟩) := by
        show wa.cell? _ = _
        rw [cell_of_row _ N i _ 9 (0, 0) HL.out]
        simp [hx]
      obtain ⟨y, hy⟩ : ∃ y : ByteArray, y = ⟨x.toArray⟩ := ⟨_, rfl⟩
      rw [← hy] at hc
      clear hy hx
      have HH := Lib.hid (lx_has b s y k out (wa.drewN n) (HR1.out.drewN n) (by omega))
      obtain ⟨q, hq⟩ : ∃ q, Hid (Lib.hasPrefix (s.data.toList.drop k) y.data.toList = q) := ⟨_, rfl⟩
      rw [hq.out] at HH
      have hlt' : (i : Int) < (L.length : Int) := by omega
      have e1 : IntKind.i64.wrap ((i : Int) + 1) = (i : Int) + 1 := IntWalk.i64_in _ (by omega)
      cases q
      · go_wp2_with (fail)
        refine Calls.mono HH.out ?_
        rintro e w' ⟨rfl, m, rfl⟩
        go_wp2_with (fail)
        go_roundw
        case rel => exact ⟨bs, i + 1, n + m, rfl, by go_num, by omega, hbs, rfl⟩
        case measure => simp [RowKit.intOf]; omega
      · have hyl := prefix_len hq.out
        rw [List.length_drop, size_toList, size_toList] at hyl
        by_cases hg : (bs.size : Int) < (y.size : Int)
        · go_wp2_with (fail)
          refine Calls.mono HH.out ?_
          rintro e w' ⟨rfl, m, rfl⟩
          go_wp2_with (fail)
          go_roundw
          case rel => exact ⟨y, i + 1, n + m, rfl, by go_num, by omega, by omega, rfl⟩
          case measure => simp [RowKit.intOf]; omega
        · go_wp2_with (fail)
          refine Calls.mono HH.out ?_
          rintro e w' ⟨rfl, m, rfl⟩
          go_wp2_with (fail)
          go_roundw
          case rel => exact ⟨bs, i + 1, n + m, rfl, by go_num, by omega, hbs, rfl⟩
          case measure => simp [RowKit.intOf]; omega
    · have hlt' : ¬ (i : Int) < (L.length : Int) := by omega
      cases he : bs.toList.isEmpty
      · have hpos : 0 < bs.size := by
          rw [← size_toList]
          cases hl : bs.data.toList with
          | nil => rw [is_empty hl] at he; cases he
          | cons _ _ => simp
        have e1 : IntKind.i64.wrap ((k : Int) + (bs.size : Int)) = (k : Int) + (bs.size : Int) := IntWalk.i64_in _ (by omega)
        go_wp2_with (fail)
        go_ret
        refine .inl ⟨⟨bs, rfl⟩, k + bs.size, by omega, by omega, ?_, HF1.out.then (((Upd.refl [b] wa).drewN n).set (by simp) _ _).fr⟩
        have := Rd.move (HR1.out.drewN n) (k + bs.size)
        rwa [show ((k + bs.size : Nat) : Int) = (k : Int) + (bs.size : Int) by omega] at this
      · go_wp2_with (fail)
        exact ⟨rfl, .inr ⟨rfl, HF1.out.then (((Upd.refl [b] wa).drewN n)).fr⟩⟩

end Go.Proofs.YtnmpckdggddpoaaGreatDoor
