/- lex.quoted, the walk. -/
import Derived.Test.YtnmpckdggddpoaaGreatDoorTa
import Derived.Test.YtnmpckdggddpoaaGreatDoorSx
import Derived.Deep.RegionLaw
namespace Go.Proofs.YtnmpckdggddpoaaGreatDoor
set_option linter.unusedSimpArgs false
set_option linter.unusedVariables false
open Go.RowKit Go.Shelf Go.Lib

theorem cb8_app (a b : List UInt8) : cb8 (a ++ b) = cb8 a ++ cb8 b := by simp [cb8]
theorem cb8_one (l : List UInt8) : ∀ u ∈ cb8 l, u.oneCell' = true := by
  intro u hu
  simp only [cb8, List.mem_map] at hu
  obtain ⟨c, _, rfl⟩ := hu
  rfl
def hexA : ByteArray := ⟨#[48, 49, 50, 51, 52, 53, 54, 55, 56, 57, 97, 98, 99, 100, 101, 102]⟩
theorem hexd_at {k : Nat} (hk : k < 16) : ∀ h' : k < (⟨#[48, 49, 50, 51, 52, 53, 54, 55, 56, 57, 97, 98, 99, 100, 101, 102]⟩ : ByteArray).size, (⟨#[48, 49, 50, 51, 52, 53, 54, 55, 56, 57, 97, 98, 99, 100, 101, 102]⟩ : ByteArray)[k]'h' = hexdL.getD k 0 := byte_at (by
  show hexdL[k]? = some (hexdL.getD k 0)
  rw [List.getD_eq_getElem?_getD, List.getElem?_eq_getElem (show k < hexdL.length from hk)]; rfl)

set_option maxRecDepth 100000 in
theorem and15_lt : ∀ n : Nat, n < 256 → bits .and .u8 (n : Int) 15 = ((n % 16 : Nat) : Int) := by decide
set_option maxRecDepth 100000 in
set_option maxHeartbeats 4000000 in
theorem lx_quoted (s : ByteArray) (w : World) (hs : s.size ≤ 70000) :
    Calls Tryz.prog 59 #[.string s] w fun e w' => e = .returned (.string (bs (quotL s.data.toList))) ∧ Below w.heap.size w w' := by
  obtain ⟨i0, hi, hz0, hz1, hz2⟩ := info_parts info8
  go_enter Tryz.func59, Tryz.ntmps59
  go_wp2_with (fail)
  go_loopw [3, 9] (fun v iv wr => ∃ (i n : Nat) (pr : List UInt8), iv = .int .i64 i ∧ i ≤ s.size ∧ Hid (qpre (s.data.toList.take i) = pr) ∧ Hid (pr.length = n) ∧ n ≤ 4 * i + 1 ∧ Hid (Sl wr v 5 1 n (cb8 pr)) ∧ Hid (Upd [] (own v) w wr)) (fun _ iv _ => s.size - (RowKit.intOf iv).toNat)
  case atStart =>
    refine ⟨0, 1, [34], rfl, by omega, Lib.hid (by simp [qpre]), Lib.hid rfl, by omega, Lib.hid (Sl.ofBlk (Blk.new' (c := [_]) rfl) rfl (by unfold maxLen; omega)), Lib.hid ?_⟩
    exact ((Upd.refl [] w).alloc _).sub (fun q hq => by simp [own, Value.ownBlock] at hq; simp [hq])
  case round =>
    obtain ⟨i, n, pr, rfl, hi2, HPQ, HPL, hn, HS, HU⟩ := hrel
    have e0 : IntKind.i64.wrap ((i : Int) + 1) = (i : Int) + 1 := IntWalk.i64_in _ (by omega)
    rcases Nat.lt_or_ge i s.size with hlt | hge
    · obtain ⟨c, hc⟩ : ∃ c, s.data.toList[i]? = some c := ⟨_, List.getElem?_eq_getElem (by rw [size_toList]; exact hlt)⟩
      have hb := byte_at hc
      have htk : s.data.toList.take (i + 1) = s.data.toList.take i ++ [c] := by rw [List.take_add_one, hc]; rfl
      have HPN : Hid (qpre (s.data.toList.take (i + 1)) = pr ++ escB c) := Lib.hid (by rw [htk, qpre_snoc, HPQ.out])
      have hlt' : (i : Int) < (s.size : Int) := by omega
      have hb0 : (0 : Int) ≤ (i : Int) := by omega
      clear hc htk
      by_cases h1 : c = 34
      · subst h1
        have HPR : Hid (escB 34 = [92, 34]) := Lib.hid (by decide)
        clear HPQ
        go_wp2_with (at_builtin; go_loud (refine wpList_app _ rfl (.tmp 26) (.tmp 28) 80 rfl 5 i0 (.int .u8 0) 1 1 ul8s hi hz0 hz1 hz2 rfl _ n (cb8 pr) rfl ?hown _ 2 2 (cb8 [92, 34]) rfl rfl ?hcell (cb8_one _) (by unfold maxLen; omega) (by omega) ?go))
        case hown => exact HS.out.alloc _
        case hcell => first | exact cell_newL rfl | exact fun _ _ h => h
        case go =>
          intro ad' cap' w2 hs2 hU2
          have HS2 := Lib.hid hs2
          have HU2 := Lib.hid hU2
          clear hs2 hU2
          go_wp2_with (fail)
          go_roundw
          case rel =>
            refine ⟨i + 1, n + 2, pr ++ [92, 34], by go_num, by omega, Lib.hid (by rw [HPN.out, HPR.out]), Lib.hid (by rw [List.length_append, HPL.out]; rfl), by omega, Lib.hid (by rw [cb8_app]; exact HS2.out), Lib.hid ?_⟩
            · exact (HU.out.alloc _).trans (HU2.out.weaken (F := own u3) (fun q hq => hq) (fun q hq => .inr hq))
          case measure => simp [RowKit.intOf, e0]; omega
      have t1 : ((c.toNat : Int) == 34) = false := bne8 c 34 h1 (by decide)
      by_cases h2 : c = 92
      · subst h2
        have HPR : Hid (escB 92 = [92, 92]) := Lib.hid (by decide)
        clear HPQ
        go_wp2_with (at_builtin; go_loud (refine wpList_app _ rfl (.tmp 26) (.tmp 28) 80 rfl 5 i0 (.int .u8 0) 1 1 ul8s hi hz0 hz1 hz2 rfl _ n (cb8 pr) rfl ?hown _ 2 2 (cb8 [92, 92]) rfl rfl ?hcell (cb8_one _) (by unfold maxLen; omega) (by omega) ?go))
        case hown => exact HS.out.alloc _
        case hcell => first | exact cell_newL rfl | exact fun _ _ h => h
        case go =>
          intro ad' cap' w2 hs2 hU2
          have HS2 := Lib.hid hs2
          have HU2 := Lib.hid hU2
          clear hs2 hU2
          go_wp2_with (fail)
          go_roundw
          case rel =>
            refine ⟨i + 1, n + 2, pr ++ [92, 92], by go_num, by omega, Lib.hid (by rw [HPN.out, HPR.out]), Lib.hid (by rw [List.length_append, HPL.out]; rfl), by omega, Lib.hid (by rw [cb8_app]; exact HS2.out), Lib.hid ?_⟩
            · exact (HU.out.alloc _).trans (HU2.out.weaken (F := own u3) (fun q hq => hq) (fun q hq => .inr hq))
          case measure => simp [RowKit.intOf, e0]; omega
      have t2 : ((c.toNat : Int) == 92) = false := bne8 c 92 h2 (by decide)
      by_cases h3 : c = 10
      · subst h3
        have HPR : Hid (escB 10 = [92, 110]) := Lib.hid (by decide)
        clear HPQ
        go_wp2_with (at_builtin; go_loud (refine wpList_app_str _ rfl (.tmp 33) (.const (.string ⟨#[92, 110]⟩)) 80 9 rfl 5 i0 ul8s ulStr hi hz0 hz1 hz2 _ n (cb8 pr) rfl ?hown ⟨#[92, 110]⟩ rfl (by unfold maxLen; show n + 2 ≤ _; omega) (by show n + 2 ≤ _; omega) ?go))
        case hown => exact HS.out
        case go =>
          intro ad' cap' w2 hs2 hU2
          have HS2 := Lib.hid hs2
          have HU2 := Lib.hid hU2
          clear hs2 hU2
          go_wp2_with (fail)
          go_roundw
          case rel =>
            refine ⟨i + 1, n + 2, pr ++ [92, 110], by go_num, by omega, Lib.hid (by rw [HPN.out, HPR.out]), Lib.hid (by rw [List.length_append, HPL.out]; rfl), by omega, Lib.hid (by rw [cb8_app]; exact HS2.out), Lib.hid ?_⟩
            · exact (HU.out).trans (HU2.out.weaken (F := own u3) (fun q hq => hq) (fun q hq => .inr hq))
          case measure => simp [RowKit.intOf, e0]; omega
      have t3 : ((c.toNat : Int) == 10) = false := bne8 c 10 h3 (by decide)
      by_cases h4 : c = 9
      · subst h4
        have HPR : Hid (escB 9 = [92, 116]) := Lib.hid (by decide)
        clear HPQ
        go_wp2_with (at_builtin; go_loud (refine wpList_app_str _ rfl (.tmp 38) (.const (.string ⟨#[92, 116]⟩)) 80 9 rfl 5 i0 ul8s ulStr hi hz0 hz1 hz2 _ n (cb8 pr) rfl ?hown ⟨#[92, 116]⟩ rfl (by unfold maxLen; show n + 2 ≤ _; omega) (by show n + 2 ≤ _; omega) ?go))
        case hown => exact HS.out
        case go =>
          intro ad' cap' w2 hs2 hU2
          have HS2 := Lib.hid hs2
          have HU2 := Lib.hid hU2
          clear hs2 hU2
          go_wp2_with (fail)
          go_roundw
          case rel =>
            refine ⟨i + 1, n + 2, pr ++ [92, 116], by go_num, by omega, Lib.hid (by rw [HPN.out, HPR.out]), Lib.hid (by rw [List.length_append, HPL.out]; rfl), by omega, Lib.hid (by rw [cb8_app]; exact HS2.out), Lib.hid ?_⟩
            · exact (HU.out).trans (HU2.out.weaken (F := own u3) (fun q hq => hq) (fun q hq => .inr hq))
          case measure => simp [RowKit.intOf, e0]; omega
      have t4 : ((c.toNat : Int) == 9) = false := bne8 c 9 h4 (by decide)
      have h256 : c.toNat < 256 := c.toNat_lt
      by_cases h5 : c.toNat < 32 ∨ 126 < c.toNat
      · have HPR : Hid (escB c = [92, 120, hexdL.getD (c.toNat / 16) 0, hexdL.getD (c.toNat % 16) 0]) := Lib.hid (by unfold escB; rw [if_neg (by rintro (h | h) <;> contradiction), if_neg h3, if_neg h4, if_pos h5])
        clear HPQ
        by_cases h6 : c.toNat < 32
        · have t6 : (c.toNat : Int) < 32 := by omega
          obtain ⟨k1, hk1⟩ : ∃ k1, k1 = c.toNat / 16 := ⟨_, rfl⟩
          have k1l : k1 < 16 := by omega
          have q1 : ((c.toNat : Int) / 16) = (k1 : Int) := by omega
          have q2 : (k1 : Int) < 16 := by omega
          have q3 := hexd_at k1l
          obtain ⟨x1, hx1⟩ : ∃ x1, hexdL.getD k1 0 = x1 := ⟨_, rfl⟩
          rw [hx1] at q3
          rw [← hk1, hx1] at HPR
          have q4 := and15_lt c.toNat h256
          obtain ⟨k2, hk2⟩ : ∃ k2, k2 = c.toNat % 16 := ⟨_, rfl⟩
          have k2l : k2 < 16 := by omega
          rw [← hk2] at HPR q4
          have q5 : (k2 : Int) < 16 := by omega
          have q6 := hexd_at k2l
          obtain ⟨x2, hx2⟩ : ∃ x2, hexdL.getD k2 0 = x2 := ⟨_, rfl⟩
          rw [hx2] at q6
          rw [hx2] at HPR
          clear hx2 hk2
          clear h1 h2 h3 h4 h5 hx1 hk1
          go_wp2_with (fail)
          go_region_law (refine step_app rfl (.tmp 47) (.tmp 54) 80 rfl 5 i0 (.int .u8 0) 1 1 ul8s hi hz0 hz1 hz2 rfl _ n (cb8 pr) rfl (by exact HS.out.drew.alloc _) ⟨wr.heap.size, 0, none⟩ 4 4 (cb8 [92, 120, x1, x2]) rfl rfl (by exact cell_newL rfl) (cb8_one _) (by unfold maxLen; omega) (by omega) ?_; intro ad' cap' w2 hs2 hU2; have HS2 := Lib.hid hs2; have HU2 := Lib.hid hU2; clear hs2 hU2)
          all_goals
            go_wp2_with (fail)
            go_roundw
            case rel =>
              refine ⟨i + 1, n + 4, pr ++ [92, 120, x1, x2], by go_num, by omega, Lib.hid (by rw [HPN.out, HPR.out]), Lib.hid (by rw [List.length_append, HPL.out]; rfl), by omega, Lib.hid (by rw [cb8_app]; exact HS2.out), Lib.hid ?_⟩
              · exact (HU.out.drew.alloc _).trans (HU2.out.weaken (F := own u3) (fun q hq => hq) (fun q hq => .inr hq))
            case measure => simp [RowKit.intOf, e0]; omega
        · have t6 : ¬ (c.toNat : Int) < 32 := by omega
          have t7 : (126 : Int) < (c.toNat : Int) := by omega
          obtain ⟨k1, hk1⟩ : ∃ k1, k1 = c.toNat / 16 := ⟨_, rfl⟩
          have k1l : k1 < 16 := by omega
          have q1 : ((c.toNat : Int) / 16) = (k1 : Int) := by omega
          have q2 : (k1 : Int) < 16 := by omega
          have q3 := hexd_at k1l
          obtain ⟨x1, hx1⟩ : ∃ x1, hexdL.getD k1 0 = x1 := ⟨_, rfl⟩
          rw [hx1] at q3
          rw [← hk1, hx1] at HPR
          have q4 := and15_lt c.toNat h256
          obtain ⟨k2, hk2⟩ : ∃ k2, k2 = c.toNat % 16 := ⟨_, rfl⟩
          have k2l : k2 < 16 := by omega
          rw [← hk2] at HPR q4
          have q5 : (k2 : Int) < 16 := by omega
          have q6 := hexd_at k2l
          obtain ⟨x2, hx2⟩ : ∃ x2, hexdL.getD k2 0 = x2 := ⟨_, rfl⟩
          rw [hx2] at q6
          rw [hx2] at HPR
          clear hx2 hk2
          clear h1 h2 h3 h4 h5 hx1 hk1
          go_wp2_with (fail)
          go_region_law (refine step_app rfl (.tmp 47) (.tmp 54) 80 rfl 5 i0 (.int .u8 0) 1 1 ul8s hi hz0 hz1 hz2 rfl _ n (cb8 pr) rfl (by exact HS.out.drew.alloc _) ⟨wr.heap.size, 0, none⟩ 4 4 (cb8 [92, 120, x1, x2]) rfl rfl (by exact cell_newL rfl) (cb8_one _) (by unfold maxLen; omega) (by omega) ?_; intro ad' cap' w2 hs2 hU2; have HS2 := Lib.hid hs2; have HU2 := Lib.hid hU2; clear hs2 hU2)
          all_goals
            go_wp2_with (fail)
            go_roundw
            case rel =>
              refine ⟨i + 1, n + 4, pr ++ [92, 120, x1, x2], by go_num, by omega, Lib.hid (by rw [HPN.out, HPR.out]), Lib.hid (by rw [List.length_append, HPL.out]; rfl), by omega, Lib.hid (by rw [cb8_app]; exact HS2.out), Lib.hid ?_⟩
              · exact (HU.out.drew.alloc _).trans (HU2.out.weaken (F := own u3) (fun q hq => hq) (fun q hq => .inr hq))
            case measure => simp [RowKit.intOf, e0]; omega
      · have HPR : Hid (escB c = [c]) := Lib.hid (by unfold escB; rw [if_neg (by rintro (h | h) <;> contradiction), if_neg h3, if_neg h4, if_neg h5])
        have t6 : ¬ (c.toNat : Int) < 32 := by omega
        have t7 : ¬ (126 : Int) < (c.toNat : Int) := by omega
        clear HPQ h1 h2 h3 h4 h5
        go_wp2_with (at_builtin; go_loud (refine wpList_app _ rfl (.tmp 15) (.tmp 17) 80 rfl 5 i0 (.int .u8 0) 1 1 ul8s hi hz0 hz1 hz2 rfl _ n (cb8 pr) rfl ?hown _ 1 1 (cb8 [c]) rfl rfl ?hcell (cb8_one _) (by unfold maxLen; omega) (by omega) ?go))
        case hown => exact HS.out.alloc _
        case hcell => first | exact cell_newL rfl | exact fun _ _ h => h
        case go =>
          intro ad' cap' w2 hs2 hU2
          have HS2 := Lib.hid hs2
          have HU2 := Lib.hid hU2
          clear hs2 hU2
          go_wp2_with (fail)
          go_roundw
          case rel =>
            refine ⟨i + 1, n + 1, pr ++ [c], by go_num, by omega, Lib.hid (by rw [HPN.out, HPR.out]), Lib.hid (by rw [List.length_append, HPL.out]; rfl), by omega, Lib.hid (by rw [cb8_app]; exact HS2.out), Lib.hid ?_⟩
            · exact (HU.out.alloc _).trans (HU2.out.weaken (F := own u3) (fun q hq => hq) (fun q hq => .inr hq))
          case measure => simp [RowKit.intOf, e0]; omega
    · have he : i = s.size := by omega
      subst he
      have HQ : Hid (qpre s.data.toList = pr) := Lib.hid (by have h1 := HPQ.out; rw [List.take_of_length_le (by rw [size_toList]; omega)] at h1; exact h1)
      clear HPQ
      go_wp2_with (at_builtin; go_loud (refine wpList_app _ rfl (.tmp 57) (.tmp 58) 80 rfl 5 i0 (.int .u8 0) 1 1 ul8s hi hz0 hz1 hz2 rfl _ n (cb8 pr) rfl ?hown _ 1 1 (cb8 [34]) rfl rfl ?hcell (cb8_one _) (by unfold maxLen; omega) (by omega) ?go))
      case hown => exact HS.out.alloc _
      case hcell => first | exact cell_newL rfl | exact fun _ _ h => h
      case go =>
        intro ad' cap' w2 hs2 hU2
        have hl : n + 1 = (pr ++ [34]).length := by rw [List.length_append, HPL.out]; rfl
        rw [← cb8_app, hl] at hs2
        have hcv := sl_string hs2
        have HU2 := Lib.hid hU2
        rw [← hl] at hcv
        clear hs2 hU2 hl
        go_wp2_with (fail)
        go_ret
        refine ⟨by rw [quotL, HQ.out]; rfl, ?_⟩
        exact ((HU.out.alloc _).trans (HU2.out.weaken (F := own u3) (fun q hq => hq) (fun q hq => .inr hq))).fr.below (Nat.le_refl _) (by simp)

end Go.Proofs.YtnmpckdggddpoaaGreatDoor
