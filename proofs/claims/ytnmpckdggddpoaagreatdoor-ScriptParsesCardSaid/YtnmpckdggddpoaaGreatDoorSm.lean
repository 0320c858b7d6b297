/- The lexer's reader: run, form. -/
import Derived.Test.YtnmpckdggddpoaaGreatDoorSk
namespace Go.Proofs.YtnmpckdggddpoaaGreatDoor
set_option linter.unusedSimpArgs false
set_option linter.unusedVariables false
open Go.RowKit Go.Shelf Go.Lib

/-- Where it stands. -/
def posR (W : World) (b : Nat) : Nat := match W.cell? ⟨b, 1, none⟩ with | some (.int _ n) => n.toNat | _ => 0
theorem posR_eq {W : World} {b : Nat} {s : ByteArray} {k : Nat} {out : Value} (h : Rd W b s k out) : posR W b = k := by
  unfold posR; rw [h.cell 1]; rfl
theorem Rd.move {W : World} {b : Nat} {s : ByteArray} {k : Nat} {out : Value} (h : Rd W b s k out) (j : Nat) : Rd (W.setCell ⟨b, 1, none⟩ (.int .i64 j)) b s j out := h.set 1 _
theorem size_toList (s : ByteArray) : s.data.toList.length = s.size := Array.length_toList

set_option maxHeartbeats 2000000 in
theorem lx_run (b : Nat) (s : ByteArray) (k : Nat) (out : Value) (w : World) (h : Rd w b s k out) (hk : k ≤ s.size) (hs : s.size ≤ 4096) :
    Calls Tryz.prog 208 #[.pointer (some ⟨b, 0, none⟩)] w fun e w' =>
      ∃ j, e = .returned (.string (s.extract k j)) ∧ k ≤ j ∧ j ≤ s.size ∧ (∀ c : UInt8, s.data.toList[k]? = some c → inNameB c.toNat = true → k < j) ∧ Rd w' b s j out ∧ Upd [b] [b] w w' := by
  have cb := h.cell
  have H := Lib.hid h
  clear h
  go_enter Tryz.func208, Tryz.ntmps208
  go_wp2_with (fail)
  go_loopw [8] (fun _ wr => ∃ j : Nat, k ≤ j ∧ j ≤ s.size ∧ Rd wr b s j out ∧ Upd [b] [b] w wr) (fun _ wr => s.size - posR wr b)
  case atStart => exact ⟨k, Nat.le_refl _, hk, H.out, Upd.refl _ _⟩
  case round =>
    obtain ⟨j, hkj, hj, hR, hU⟩ := hrel
    clear cb
    have cb := hR.cell
    have fb := hR.free
    have HR := Lib.hid hR
    have HU := Lib.hid hU
    clear hR hU
    have j0 : (0 : Int) ≤ (j : Int) := by omega
    have k0 : (0 : Int) ≤ (k : Int) := by omega
    have kj : (k : Int) ≤ (j : Int) := by omega
    have js : (j : Int) ≤ (s.size : Int) := by omega
    by_cases hlt : j < s.size
    · have hlt' : (j : Int) < (s.size : Int) := by omega
      obtain ⟨c, hc⟩ : ∃ c, s.data.toList[j]? = some c := ⟨_, List.getElem?_eq_getElem (by rw [size_toList]; exact hlt)⟩
      have hb := byte_at hc
      have HN := Lib.hid (fun n : Nat => lx_inName (c.toNat : Int) (wr.drewN n))
      obtain ⟨q, hq⟩ : ∃ q, Hid (inNameB (c.toNat : Int) = q) := ⟨_, rfl⟩
      rw [hq.out] at HN
      have HC := Lib.hid hc
      clear hc
      have e1 : IntKind.i64.wrap ((j : Int) + 1) = (j : Int) + 1 := IntWalk.i64_in _ (by omega)
      cases q
      · clear e1
        go_wp2_with (fail)
        go_quiet ((go_at_call 239; exact qeq (HN.out _)))
        go_wp2_with (fail)
        go_quiet (fail)
        go_wp2_with (fail)
        go_ret
        refine ⟨j, rfl, hkj, hj, fun c' hc' hi => ?_, ?_, ?_⟩
        · rcases Nat.lt_or_ge k j with h | h
          · exact h
          · have : k = j := by omega
            subst this
            rw [HC.out] at hc'
            cases hc'
            rw [hq.out] at hi
            cases hi
        · exact (HR.out.drewN _).drewN _
        · exact (HU.out.drewN _).drewN _
      · go_wp2_with (fail)
        go_quiet ((go_at_call 239; exact qeq (HN.out _)))
        go_wp2_with (fail)
        go_roundw
        case rel => exact ⟨j + 1, by omega, by omega, Rd.move (HR.out.drewN nq) (j + 1), (HU.out.drewN nq).set (by simp) _ _⟩
        case measure =>
          have e2 := posR_eq (Rd.move (HR.out.drewN nq) (j + 1))
          have e3 := posR_eq HR.out
          have e4 : ((j + 1 : Nat) : Int) = (j : Int) + 1 := by omega
          rw [e4] at e2
          rw [e2, e3]
          omega
    · have hlt' : ¬ (j : Int) < (s.size : Int) := by omega
      go_wp2_with (fail)
      go_quiet (fail)
      go_wp2_with (fail)
      go_quiet (fail)
      go_wp2_with (fail)
      go_ret
      refine ⟨j, rfl, hkj, hj, fun c' hc' hi => ?_, ?_, ?_⟩
      · have := (List.getElem?_eq_some_iff.1 hc').1
        rw [size_toList] at this
        omega
      · exact (HR.out.drewN _).drewN _
      · exact (HU.out.drewN _).drewN _

end Go.Proofs.YtnmpckdggddpoaaGreatDoor
