/- From a row's list to what the walks read: Env. -/
import Derived.Test.YtnmpckdggddpoaaGreatDoorSr
import Derived.Test.YtnmpckdggddpoaaGreatDoorRows
import Derived.LaidSub
import Derived.LaidLaws
import Derived.MakeChecks
import Derived.Lib.LaidTab
namespace Go.Proofs.YtnmpckdggddpoaaGreatDoor
set_option linter.unusedSimpArgs false
set_option linter.unusedVariables false
open Go.RowKit Go.Shelf Go.Lib

/-- What all five rows list. -/
def laidS : List (String × DataW Unit) := Rows.scriptCutsRow.laid
theorem pick1 {W : World} (h : laidMetH Tryz.prog laidS W) (name : String) (d : DataW Unit) (hf : laidS.filter (fun x => x.1 == name) = [(name, d)]) (hd : d.handleName?.isNone = true) : laidMet Tryz.prog [(name, d)] W := by
  have h1 := h.filter (fun x => x.1 == name)
  rw [hf, MakeChecks.laidMetH_plain _ _ _ (by simp [hd])] at h1
  exact h1
theorem iface_cell {W : World} {name nm : String} {g : Nat} {ti : TypeId} {ms : Array (String × TypeId)} {d : DataW Unit} (hg : Tryz.prog.globalNamed name = some g) (hty : (Tryz.prog.globals[g]?).map (·.type) = some ti) (hi : Tryz.prog.underlying ti = some (.interface ms))
    (h : laidMet Tryz.prog [(name, .iface nm d)] W) : ∃ te pe, W.cell? ⟨g, 0, none⟩ = some (.iface te pe) := by
  obtain ⟨ps, ⟨g', t', cs, fuel, p, q, hg', ht', hvar, hd, _, _⟩, _⟩ := h
  obtain rfl := Option.some.inj (hg.symm.trans hg')
  obtain rfl := Option.some.inj (hty.symm.trans ht')
  obtain ⟨_, u, v, hcs, _, _⟩ := iface_of_trod hi hd
  refine ⟨u, v, ?_⟩
  have h0 := World.var?_cell hg hvar 0
  rw [h0]
  have : cs = #[.iface u v] := by cases cs; simp_all
  subst this
  rfl
theorem gES : Tryz.prog.globalNamed "strconv.ErrSyntax" = some 2 := by kernel_rfl
theorem gER : Tryz.prog.globalNamed "strconv.ErrRange" = some 3 := by kernel_rfl
theorem gSp : Tryz.prog.globalNamed "strings.asciiSpace" = some 8 := by kernel_rfl
theorem gP10 : Tryz.prog.globalNamed "internal/strconv.uint64pow10" = some 1 := by kernel_rfl
theorem ulErr : (Tryz.prog.underlying 112).map (fun d => match d with | .interface _ => true | _ => false) = some true := by kernel_rfl
theorem env_of {W : World} (hL : laidMetH Tryz.prog laidS W) (hS : W.ShapedOpen Tryz.prog) : Env W.heap.size W := by
  obtain ⟨m, hm⟩ := Tryz.laysM143.s1_3 W hS
  obtain ⟨ms, hms⟩ : ∃ ms, Tryz.prog.underlying 112 = some (.interface ms) := by
    have := ulErr
    cases hu : Tryz.prog.underlying 112 with
    | none => rw [hu] at this; cases this
    | some d => rw [hu] at this; cases d <;> first | exact ⟨_, rfl⟩ | cases this
  obtain ⟨te, pe, hes⟩ := iface_cell (nm := "*errors.errorString") (d := .ptr (.agg [.lit (.string [105, 110, 118, 97, 108, 105, 100, 32, 115, 121, 110, 116, 97, 120])])) gES (by kernel_rfl) hms (pick1 hL _ Rows.laid_strconv_ErrSyntax (by kernel_rfl) (by kernel_rfl))
  obtain ⟨tr, pr, her⟩ := iface_cell (nm := "*errors.errorString") (d := .ptr (.agg [.lit (.string [118, 97, 108, 117, 101, 32, 111, 117, 116, 32, 111, 102, 32, 114, 97, 110, 103, 101])])) gER (by kernel_rfl) hms (pick1 hL _ Rows.laid_strconv_ErrRange (by kernel_rfl) (by kernel_rfl))
  have hsp : Lib.TabIs Tryz.prog W "strings.asciiSpace" .u8 Lib.asciiSpaceTab := Lib.tabIs_of_head (t := 276) (e := 5) (n := 256) (rest := []) gSp (by kernel_rfl) (by kernel_rfl) (by kernel_rfl) (by kernel_rfl) (by kernel_rfl)
    (pick1 hL _ _ (by kernel_rfl) (by kernel_rfl))
  have hp10 : Lib.TabIs Tryz.prog W "internal/strconv.uint64pow10" .u64 Lib.pow10Tab := Lib.tabIs_of_head (t := 226) (e := 94) (n := 20) (rest := []) gP10 (by kernel_rfl) (by kernel_rfl) (by kernel_rfl) (by kernel_rfl) (by kernel_rfl)
    (pick1 hL _ _ (by kernel_rfl) (by kernel_rfl))
  have h9 : 9 ≤ W.heap.size := by
    have := block_lt_of_cell (hsp.cell gSp 0 (by rw [show Lib.asciiSpaceTab.length = 256 by kernel_rfl]; omega))
    exact this
  exact ⟨Nat.le_refl _, h9, ⟨m, hm⟩, ⟨_, hes, .inr ⟨_, _, rfl⟩⟩, ⟨_, her, .inr ⟨_, _, rfl⟩⟩, Lib.tabBelow_of_tabIs hsp, Lib.tabBelow_of_tabIs hp10⟩

end Go.Proofs.YtnmpckdggddpoaaGreatDoor
