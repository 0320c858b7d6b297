/- The lexer's reader: text. -/
import Derived.Test.YtnmpckdggddpoaaGreatDoorSo
import Derived.Laws.IdiomStrings
import Derived.Laws.BytesArg
namespace Go.Proofs.YtnmpckdggddpoaaGreatDoor
set_option linter.unusedSimpArgs false
set_option linter.unusedVariables false
open Go.RowKit Go.Shelf Go.Lib

def cb8 (l : List UInt8) : List Value := l.map fun c => .int .u8 (c.toNat : Int)
theorem ul8s : Tryz.prog.underlying 80 = some (.slice 5) := by kernel_rfl
theorem ul8 : Tryz.prog.underlying 5 = some (.int .u8) := by kernel_rfl
theorem ulStr : Tryz.prog.underlying 9 = some .string := by kernel_rfl
theorem info8 : (Tryz.prog.info? 5).map (fun i => (i.zero, i.size, i.bytes)) = some (some (.int .u8 0), 1, 1) := by kernel_rfl
theorem cb8_snoc (l : List UInt8) (c : UInt8) : cb8 (l ++ [c]) = cb8 l ++ [.int .u8 (c.toNat : Int)] := by simp [cb8]
theorem cb8_len (l : List UInt8) : (cb8 l).length = l.length := by simp [cb8]
/-- Bytes of a call's own, as a string. -/
theorem sl_string {w : World} {v : Value} {l : List UInt8} (h : Sl w v 5 1 l.length (cb8 l)) : (convert 80 9 v).run Tryz.prog w = .ok (.string ⟨l.toArray⟩) w := by
  obtain ⟨a, cap, rfl, _, _, hn, hc⟩ := h.form
  cases a with
  | none =>
    have hl : l = [] := List.eq_nil_of_length_eq_zero (hn rfl)
    subst hl
    exact run_convert_bytes_nil w _ _ ul8s ul8 _ _ _ ulStr
  | some ad =>
    refine run_convert_bytes_back w _ _ _ ad cap l ul8s ul8 ulStr (fun j hj => (hc ad rfl).2 j _ ?_)
    simp [cb8, hj]

theorem _root_.Go.Proofs.YtnmpckdggddpoaaGreatDoor.Fr.then {F : List Nat} {w w1 w2 : World} (h : Fr F w w1) (k : Fr F w1 w2) : Fr F w w2 :=
  ⟨k.os.trans h.os, k.tape.trans h.tape, k.output.trans h.output, Nat.le_trans h.size k.size, fun i hi hn => (k.block i (Nat.lt_of_lt_of_le hi h.size) hn).trans (h.block i hi hn)⟩

set_option maxRecDepth 100000 in
set_option maxHeartbeats 8000000 in
theorem lx_text (b : Nat) (s : ByteArray) (k : Nat) (out : Value) (w : World) (h : Rd w b s k out) (hs : s.size ≤ 4096) (hk : k < s.size) :
    Calls Tryz.prog 212 #[.pointer (some ⟨b, 0, none⟩)] w fun e w' =>
      (∃ (x : List UInt8) (j : Nat), textL [] (s.data.toList.drop (k + 1)) = some (x, s.data.toList.drop j) ∧ k < j ∧ j ≤ s.size ∧ e = .returned (.string ⟨x.toArray⟩) ∧ Rd w' b s j out ∧ Fr [b] w w') ∨
      (textL [] (s.data.toList.drop (k + 1)) = none ∧ e = flt 20 k ∧ Fr [b] w w') := by
  obtain ⟨i0, hi, hz0, hz1, hz2⟩ := info_parts info8
  have cb := h.cell
  have fb := h.free
  have H := Lib.hid h
  clear h
  have e0 : IntKind.i64.wrap ((k : Int) + 1) = (k : Int) + 1 := IntWalk.i64_in _ (by omega)
  obtain ⟨T, hT⟩ : ∃ T, Hid (textL [] (s.data.toList.drop (k + 1)) = T) := ⟨_, rfl⟩
  rw [hT.out]
  go_enter Tryz.func212, Tryz.ntmps212
  go_wp2_with (fail)
  go_loopw [4] (fun v wr => ∃ (j : Nat) (l : List UInt8), Hid (T = textL l (s.data.toList.drop j)) ∧ k < j ∧ j ≤ s.size ∧ l.length ≤ j ∧ Sl wr v 5 1 l.length (cb8 l) ∧ Rd wr b s j out ∧ Upd [b] (b :: own v) w wr) (fun _ wr => s.size - posR wr b)
  case atStart => 
    refine ⟨k + 1, [], hT.out.symm, by omega, by omega, by simp, Sl.nil _ _ _, Rd.move H.out (k + 1), ?_⟩
    exact ((Upd.refl [b] w).set (by simp) _ _).sub (by simp [own, Value.ownBlock])
  case round =>
    obtain ⟨j, l, hTl, hkj, hj, hlj, hS, hR, hU⟩ := hrel
    clear cb fb e0
    have cb := hR.cell
    have fb := hR.free
    have hbv : b ∉ _ := hS.ne hR (by decide)
    have HBV := Lib.hid hbv
    have HS := Lib.hid hS
    have HR := Lib.hid hR
    have HU := Lib.hid hU
    clear hS hR hU hbv
    have j0 : (0 : Int) ≤ (j : Int) := by omega
    have js : (j : Int) ≤ (s.size : Int) := by omega
    rcases Nat.lt_or_ge j s.size with hlt | hge
    · obtain ⟨c, hc⟩ : ∃ c, s.data.toList[j]? = some c := ⟨_, List.getElem?_eq_getElem (by rw [size_toList]; exact hlt)⟩
      have hdj : s.data.toList.drop j = c :: s.data.toList.drop (j + 1) := by
        obtain ⟨h1, h2⟩ := List.getElem?_eq_some_iff.1 hc
        rw [List.drop_eq_getElem_cons h1, h2]
      have hb := byte_at hc
      have hlt' : (j : Int) < (s.size : Int) := by omega
      have hne : ((j : Int) == (s.size : Int)) = false := by rw [beq_eq_false_iff_ne]; omega
      have e1 : IntKind.i64.wrap ((j : Int) + 1) = (j : Int) + 1 := IntWalk.i64_in _ (by omega)
      by_cases h34 : c = 34
      · subst h34
        have hTe : T = some (l, s.data.toList.drop (j + 1)) := by rw [hTl.out, hdj]; exact textL_end _ _
        have hcv := fun n q => sl_string ((HS.out.drewN n).set HBV.out 1 q)
        have HTE := Lib.hid hTe
        clear hTe hdj hc
        go_wp2_with (fail)
        go_quiet (fail)
        go_wp2_with (fail)
        go_quiet (fail)
        go_wp2_with (fail)
        go_ret
        refine .inl ⟨l, j + 1, HTE.out, by omega, by omega, rfl, Rd.move (HR.out.drewN _) (j + 1), ?_⟩
        exact ((HU.out.drewN _).set (by simp) _ _).fr
      have t34 : ((c.toNat : Int) == 34) = false := bne8 c 34 h34 (by decide)
      by_cases h92 : c = 92
      · subst h92
        cases hf : formS (s.data.toList.drop (j + 1)) with
        | none =>
          have hTe : T = none := by rw [hTl.out, hdj]; exact textL_bad _ _ hf
          have HTE := Lib.hid hTe
          have HF := Lib.hid (fun n => lx_form_no b s (j + 1) out (k : Int) _ (Rd.move (HR.out.drewN n) (j + 1)) (by omega) hs hf)
          clear hTe hdj hc hf
          go_wp2_with (fail)
          go_quiet (fail)
          go_wp2_with (fail)
          go_quiet (fail)
          go_wp2_with (fail)
          refine Calls.mono (HF.out _) ?_
          rintro e w' ⟨he, hU2⟩
          unfold flt at he
          subst he
          go_wp2_with (fail)
          exact ⟨rfl, .inr ⟨HTE.out, rfl, (((HU.out.drewN _).set (by simp) _ _).fr.then hU2.fr)⟩⟩
        | some p =>
          have hTe : T = textL (l ++ [p.1]) p.2 := by rw [hTl.out, hdj]; exact textL_form _ _ _ hf
          have HTE := Lib.hid hTe
          have HF := Lib.hid (fun n => lx_form_ok b s (j + 1) out (k : Int) _ (Rd.move (HR.out.drewN n) (j + 1)) hs p hf)
          clear hTe hdj hc hf
          go_wp2_with (fail)
          go_quiet (fail)
          go_wp2_with (fail)
          go_quiet (fail)
          go_wp2_with (fail)
          refine Calls.mono (HF.out _) ?_
          rintro e w' ⟨i, rfl, hi1, hi2, hpd, hR2, hU2⟩
          have HBa := Lib.hid (fun q (hq : q ∈ own u4) => hU2.fr.block q (((HS.out.drewN _).set HBV.out 1 _).lt q hq) (by have h1 := HBV.out; intro hm; simp at hm; subst hm; exact h1 hq))
          have HSa := Lib.hid (((HS.out.drewN _).set HBV.out 1 _).go HBa.out)
          have HRa := Lib.hid hR2
          have HUa := Lib.hid ((((HU.out.drewN _).set (by simp) 1 _)).trans (hU2.weaken (F := b :: own u4) (F' := b :: own u4) (fun q hq => by simp at hq ⊢; exact .inl hq) (fun q hq => .inl hq)))
          rw [hpd] at HTE
          clear hR2 hU2 hb HF HBa
          go_wp2_with (at_builtin; go_loud (refine wpList_app _ rfl (.tmp 57) (.tmp 61) 80 rfl 5 i0 (.int .u8 0) 1 1 ul8s hi hz0 hz1 hz2 rfl _ l.length (cb8 l) rfl ?hown _ 1 1 [.int .u8 (p.1.toNat : Int)] rfl rfl (by exact cell_new1 (by simp)) (by exact one_cell1 rfl) (by unfold maxLen; omega) (by omega) ?go))
          case hown => exact HSa.out.alloc _
          case go =>
            intro ad' cap' w2 hs2 hU2
            have HS2 := Lib.hid hs2
            have HU2 := Lib.hid hU2
            clear hs2 hU2
            go_wp2_with (fail)
            have hR2 : Rd w2 b s (i) out := HU2.out.fr.keep (HRa.out.alloc _) HBV.out
            have HR2 := Lib.hid hR2
            clear hR2
            go_roundw
            case rel =>
              refine ⟨i, l ++ [p.1], HTE, by omega, by omega, by simp; omega, ?_, HR2.out, ?_⟩
              · rw [cb8_snoc, List.length_append]; exact HS2.out
              · exact (HUa.out.alloc _).trans (HU2.out.weaken (F := b :: own u4) (fun q hq => by simp [hq]) (fun q hq => (List.mem_cons.1 hq).elim (fun e => .inl (by simp [e])) .inr))
            case measure =>
              rw [posR_eq HR2.out, posR_eq HR.out]
              omega
      · have t92 : ((c.toNat : Int) == 92) = false := bne8 c 92 h92 (by decide)
        have hTe : T = textL (l ++ [c]) (s.data.toList.drop (j + 1)) := by rw [hTl.out, hdj]; exact textL_cons _ _ _ h34 h92
        have HTE := Lib.hid hTe
        have HSa := Lib.hid (fun n => (HS.out.drewN n).set HBV.out 1 (.int .i64 ((j : Int) + 1)))
        have HRa := Lib.hid (fun n => Rd.move (HR.out.drewN n) (j + 1))
        have HUa := Lib.hid (fun n => ((HU.out.drewN n).set (b := b) (by simp) 1 (.int .i64 ((j : Int) + 1))))
        clear hTe hdj hc h34 h92
        go_wp2_with (fail)
        go_quiet (fail)
        obtain ⟨nq0, hnq0⟩ : ∃ n, n = nq := ⟨_, rfl⟩
        rw [← hnq0]
        clear hnq0
        go_wp2_with (fail)
        go_quiet (fail)
        obtain ⟨n, hn⟩ : ∃ n, n = nq0 + nq := ⟨_, rfl⟩
        rw [World.drewN_drewN, ← hn]
        clear hn
        replace HSa := Lib.hid (HSa.out n)
        replace HRa := Lib.hid (HRa.out n)
        replace HUa := Lib.hid (HUa.out n)
        clear hb
        go_wp2_with (at_builtin; go_loud (refine wpList_app _ rfl (.tmp 47) (.tmp 49) 80 rfl 5 i0 (.int .u8 0) 1 1 ul8s hi hz0 hz1 hz2 rfl _ l.length (cb8 l) rfl ?hown _ 1 1 [.int .u8 (c.toNat : Int)] rfl rfl (by exact cell_new1 (by simp)) (by exact one_cell1 rfl) (by unfold maxLen; omega) (by omega) ?go))
        case hown => exact HSa.out.alloc _
        case go =>
          intro ad' cap' w2 hs2 hU2
          have HS2 := Lib.hid hs2
          have HU2 := Lib.hid hU2
          clear hs2 hU2
          go_wp2_with (fail)
          have hR2 : Rd w2 b s (j + 1) out := HU2.out.fr.keep (HRa.out.alloc _) HBV.out
          have HR2 := Lib.hid hR2
          clear hR2
          go_roundw
          case rel =>
            refine ⟨j + 1, l ++ [c], HTE, by omega, by omega, by simp; omega, ?_, HR2.out, ?_⟩
            · rw [cb8_snoc, List.length_append]; exact HS2.out
            · exact (HUa.out.alloc _).trans (HU2.out.weaken (F := b :: own u4) (fun q hq => by simp [hq]) (fun q hq => (List.mem_cons.1 hq).elim (fun e => .inl (by simp [e])) .inr))
          case measure =>
            rw [posR_eq HR2.out, posR_eq HR.out]
            omega
    · have he : j = s.size := by omega
      have hee : ((j : Int) == (s.size : Int)) = true := by rw [beq_iff_eq]; omega
      have hTe : T = none := by
        rw [hTl.out, List.drop_eq_nil_of_le (by rw [size_toList]; omega)]
        rfl
      have HTE := Lib.hid hTe
      clear hTe
      go_wp2_with (fail)
      go_quiet (fail)
      go_wp2_with (fail)
      exact ⟨rfl, .inr ⟨HTE.out, rfl, ((HU.out.drewN _)).fr⟩⟩

end Go.Proofs.YtnmpckdggddpoaaGreatDoor
