/- Results that lie in cells. -/
import Derived.Test.YtnmpckdggddpoaaGreatDoorSr
namespace Go.Proofs.YtnmpckdggddpoaaGreatDoor
set_option linter.unusedSimpArgs false
set_option linter.unusedVariables false
open Go.RowKit Go.Shelf Go.Lib

theorem ret_tok {fn : Func} {p : Tmp} (h : fn.results = #[.cell p 84]) {tmps : Array Value} {r0 : Nat} {x y z u : Value} (hp : tmps.getD p undef = .pointer (some ⟨r0, 0, none⟩)) {w : World} (hb : Blk w r0 [x, y, z, u] 84) :
    (results fn tmps).run Tryz.prog w = .ok (.agg #[x, y, z, u]) w := by
  have c0 := hb.cell 0
  have c1 := hb.cell 1
  have c2 := hb.cell 2
  have c3 := hb.cell 3
  simp only [List.getElem?_cons_zero, List.getElem?_cons_succ] at c0 c1 c2 c3
  have hp' : tmps[p]?.getD undef = .pointer (some ⟨r0, 0, none⟩) := by simpa using hp
  simp [results, h, go_sem, hp', c0, c1, c2, c3]

/-- A struct's three cells, and two numbers: Parse's and Lex's results. -/
theorem ret_script {fn : Func} {p q r : Tmp} (h : fn.results = #[.cell p 25, .cell q 26, .cell r 3]) {tmps : Array Value} {a b c : Nat} {x y z u v : Value}
    (hp : tmps.getD p undef = .pointer (some ⟨a, 0, none⟩)) (hq : tmps.getD q undef = .pointer (some ⟨b, 0, none⟩)) (hr : tmps.getD r undef = .pointer (some ⟨c, 0, none⟩)) {w : World}
    (ha : Blk w a [x, y, z] 25) (hb : Blk w b [u] 26) (hc : Blk w c [v] 3) :
    (results fn tmps).run Tryz.prog w = .ok (.tuple #[.agg #[x, y, z], u, v]) w := by
  have a0 := ha.cell 0
  have a1 := ha.cell 1
  have a2 := ha.cell 2
  have b0 := hb.cell 0
  have c0 := hc.cell 0
  simp only [List.getElem?_cons_zero, List.getElem?_cons_succ] at a0 a1 a2 b0 c0
  have hp' : tmps[p]?.getD undef = .pointer (some ⟨a, 0, none⟩) := by simpa using hp
  have hq' : tmps[q]?.getD undef = .pointer (some ⟨b, 0, none⟩) := by simpa using hq
  have hr' : tmps[r]?.getD undef = .pointer (some ⟨c, 0, none⟩) := by simpa using hr
  simp [results, h, go_sem, hp', hq', hr', a0, a1, a2, b0, c0]
theorem ret_lex {fn : Func} {p q r : Tmp} (h : fn.results = #[.cell p 115, .cell q 26, .cell r 3]) {tmps : Array Value} {a b c : Nat} {x u v : Value}
    (hp : tmps.getD p undef = .pointer (some ⟨a, 0, none⟩)) (hq : tmps.getD q undef = .pointer (some ⟨b, 0, none⟩)) (hr : tmps.getD r undef = .pointer (some ⟨c, 0, none⟩)) {w : World}
    (ha : Blk w a [x] 115) (hb : Blk w b [u] 26) (hc : Blk w c [v] 3) :
    (results fn tmps).run Tryz.prog w = .ok (.tuple #[x, u, v]) w := by
  have a0 := ha.cell 0
  have b0 := hb.cell 0
  have c0 := hc.cell 0
  simp only [List.getElem?_cons_zero, List.getElem?_cons_succ] at a0 b0 c0
  have hp' : tmps[p]?.getD undef = .pointer (some ⟨a, 0, none⟩) := by simpa using hp
  have hq' : tmps[q]?.getD undef = .pointer (some ⟨b, 0, none⟩) := by simpa using hq
  have hr' : tmps[r]?.getD undef = .pointer (some ⟨c, 0, none⟩) := by simpa using hr
  simp [results, h, go_sem, hp', hq', hr', a0, b0, c0]
theorem ret_act {fn : Func} {p q : Tmp} (h : fn.results = #[.cell p 55, .tmp q]) {tmps : Array Value} {a : Nat} {x y z : Value}
    (hp : tmps.getD p undef = .pointer (some ⟨a, 0, none⟩)) {w : World} (ha : Blk w a [x, y, z] 55) :
    (results fn tmps).run Tryz.prog w = .ok (.tuple #[.agg #[x, y, z], tmps.getD q undef]) w := by
  have a0 := ha.cell 0
  have a1 := ha.cell 1
  have a2 := ha.cell 2
  simp only [List.getElem?_cons_zero, List.getElem?_cons_succ] at a0 a1 a2
  have hp' : tmps[p]?.getD undef = .pointer (some ⟨a, 0, none⟩) := by simpa using hp
  simp [results, h, go_sem, hp', a0, a1, a2]

end Go.Proofs.YtnmpckdggddpoaaGreatDoor
