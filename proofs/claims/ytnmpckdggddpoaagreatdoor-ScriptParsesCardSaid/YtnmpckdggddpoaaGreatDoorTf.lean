/- The machine is not made of an image of nothing: Play says so. -/
import Derived.Test.YtnmpckdggddpoaaGreatDoorHq
import Derived.Test.YtnmpckdggddpoaaGreatDoorSr
import Derived.Deep.OwnRows
namespace Go.Proofs.YtnmpckdggddpoaaGreatDoor
set_option linter.unusedSimpArgs false
set_option linter.unusedVariables false
open Go.RowKit Go.Shelf Go.Lib

theorem infoWord : (Tryz.prog.info? 95).map (fun i => (i.zero, i.size, i.bytes)) = some (some (.int .u64 0), 1, 8) := by kernel_rfl
theorem ulWords : Tryz.prog.underlying 101 = some (.slice 95) := by kernel_rfl
theorem below_of_alloc {w w' : World} {o : Obj} (h : Below (w.alloc o).heap.size (w.alloc o) w') : Below w.heap.size w w' := ((Below.refl _ w).alloc (Nat.le_refl _) _).trans (h.mono (by simp))

theorem w_arena_New (n : Nat) (h1 : 2 ≤ n) (h2 : n ≤ 32768) (w : World) :
    Calls Tryz.prog 63 #[.int .i64 n] w fun e w' => ∃ a, e = .returned (.pointer (some ⟨a, 0, none⟩)) ∧ Below w.heap.size w w' := by
  obtain ⟨os, hos⟩ : ∃ os : Obj, os = .cells (madeCells #[Value.int .u64 0] (2 * n)) 95 := ⟨_, rfl⟩
  have hmk : ∀ w : World, (Instr.makeSlice 101 (.int .i64 (2 * (n : Int))) (.int .i64 (2 * (n : Int)))).run Tryz.prog w = .ok (.slice (some ⟨w.heap.size, 0, none⟩) (2 * n) (2 * n)) (w.alloc os) := by
    intro w
    have := run_make_row' (P := Tryz.prog) 101 95 (.int .u64 0) 8 ulWords infoWord rfl .i64 .i64 (2 * n) (by omega) (by omega) w
    rw [show ((2 * n : Nat) : Int) = 2 * (n : Int) by omega] at this
    rw [hos]
    exact this
  clear hos
  go_enter Tryz.func63, Tryz.ntmps63
  go_wp2
  go_ret
  exact ⟨_, rfl, (((Below.refl _ w).alloc (Nat.le_refl _) _).alloc (by simp) _).alloc (by simp; omega) _⟩

theorem w_mem_New (n : Nat) (h1 : 2 ≤ n) (h2 : n ≤ 32768) (w : World) :
    Calls Tryz.prog 38 #[.int .i64 n] w fun e w' => ∃ a, e = .returned (.pointer (some ⟨a, 0, none⟩)) ∧ Below w.heap.size w w' := by
  have hst : ∀ (w : World) (x y z : Value) (t : TypeId) (fn : Fn) (first cap : Array Value), (store ⟨w.heap.size, 2, none⟩ (.func fn first cap)).run Tryz.prog (w.alloc (.cells #[x, y, z] t)) = .ok () ((w.alloc (.cells #[x, y, z] t)).setCell ⟨w.heap.size, 2, none⟩ (.func fn first cap)) := by
    intro w x y z t fn first cap
    rw [run_store _ _ _ _ _ rfl]
    simp
  have hmf : ∀ (fn : Fn) (first cap : Array Value) (w : World), (Instr.makeFunc fn first cap).run Tryz.prog w = .ok (.func fn first cap) w := fun _ _ _ _ => rfl
  go_enter Tryz.func38, Tryz.ntmps38
  go_wp2_with (fail)
  refine (w_arena_New n h1 h2 _).mono ?_
  rintro e w' ⟨a, rfl, hB⟩
  have HB := Lib.hid hB
  clear hB
  go_wp2_with (fail)
  go_ret
  exact ⟨_, rfl, HB.out.alloc HB.out.size _⟩

theorem w_exns (w : World) : Calls Tryz.prog 65 #[.slice none 0 0] w fun e w' => e = .returned (.bool false) ∧ Below w.heap.size w w' := by
  go_enter Tryz.func65, Tryz.ntmps65
  go_wp2_with (fail)
  go_ret
  exact ⟨rfl, (Below.refl _ w).alloc (Nat.le_refl _) _⟩

theorem w_May (w : World) : Calls Tryz.prog 39 #[.agg #[.slice none 0 0, .slice none 0 0, .slice none 0 0]] w fun e w' => e = .returned (.bool false) ∧ Below w.heap.size w w' := by
  go_enter Tryz.func39, Tryz.ntmps39
  go_wp2_with (fail)
  refine (w_exns _).mono ?_
  rintro e w' ⟨rfl, hB⟩
  have HB := Lib.hid (below_of_alloc hB)
  clear hB
  go_wp2_with (fail)
  go_ret
  exact ⟨rfl, HB.out⟩

theorem w_machine_New (n : Nat) (h1 : 2 ≤ n) (h2 : n ≤ 32768) (st : Int) (w : World) :
    Calls Tryz.prog 18 #[.agg #[.slice none 0 0, .slice none 0 0, .slice none 0 0], .int .i64 n, .int .i64 st] w fun e w' => e = .returned (.pointer none) ∧ Below w.heap.size w w' := by
  go_enter Tryz.func18, Tryz.ntmps18
  go_wp2_with (fail)
  refine (w_mem_New n h1 h2 _).mono ?_
  rintro e w' ⟨a, rfl, hB⟩
  have hb0 := blk_below (Blk.new' (c := [_, _, _]) (t := 45) rfl) hB
  have HB := Lib.hid (below_of_alloc hB)
  have cb := hb0.cell
  clear hB hb0
  go_wp2_with (fail)
  refine (w_May _).mono ?_
  rintro e w2 ⟨rfl, hB2⟩
  have HB2 := Lib.hid (HB.out.trans (hB2.mono HB.out.size))
  clear hB2
  go_wp2_with (fail)
  go_ret
  exact ⟨rfl, HB2.out⟩

theorem ret_play {fn : Func} {p q : Tmp} (h : fn.results = #[.cell p 49, .tmp q]) {tmps : Array Value} {a : Nat} {x y z u v : Value}
    (hp : tmps.getD p undef = .pointer (some ⟨a, 0, none⟩)) {w : World} (ha : Blk w a [x, y, z, u, v] 49) :
    (results fn tmps).run Tryz.prog w = .ok (.tuple #[.agg #[x, y, z, u, v], tmps.getD q undef]) w := by
  have a0 := ha.cell 0
  have a1 := ha.cell 1
  have a2 := ha.cell 2
  have a3 := ha.cell 3
  have a4 := ha.cell 4
  simp only [List.getElem?_cons_zero, List.getElem?_cons_succ] at a0 a1 a2 a3 a4
  have hp' : tmps[p]?.getD undef = .pointer (some ⟨a, 0, none⟩) := by simpa using hp
  simp [results, h, go_sem, hp', a0, a1, a2, a3, a4]

theorem w_Play (n : Nat) (h1 : 2 ≤ n) (h2 : n ≤ 32768) (st : Int) (v : Value) (w : World) :
    Calls Tryz.prog 17 #[.agg #[.slice none 0 0, .slice none 0 0, .slice none 0 0], .agg #[.int .i64 n, .int .i64 st, v]] w fun e w' =>
      e = .returned (.tuple #[.agg #[.int .i64 0, .int .i64 0, .string ⟨#[]⟩, .string ⟨#[]⟩, .int .i64 0], .int .i64 5]) ∧ Below w.heap.size w w' := by
  go_enter Tryz.func17, Tryz.ntmps17
  go_wp2_with (fail)
  refine (w_machine_New n h1 h2 st _).mono ?_
  rintro e w' ⟨rfl, hB⟩
  have hb0 := blk_below (b := w.heap.size + 1 + 1) (Blk.new' (c := [.int .i64 0, .int .i64 0, .string ⟨#[]⟩, .string ⟨#[]⟩, .int .i64 0]) (t := 49) (by simp)) hB
  have cb := hb0.cell
  have fb := hb0.free
  have HB0 := Lib.hid hb0
  have HB := Lib.hid (below_of_alloc (below_of_alloc (below_of_alloc hB)))
  clear hB hb0
  go_wp2_with (fail)
  refine ⟨rfl, _, ret_play (a := w.heap.size + 1 + 1) rfl rfl (((((HB0.out.set 0 _).set 1 _).set 2 _).set 3 _).set 4 _), rfl, ?_⟩
  have hp : w.heap.size ≤ w.heap.size + 1 + 1 := by omega
  exact ((((HB.out.setCell (p := ⟨w.heap.size + 1 + 1, 0, none⟩) hp _).setCell (p := ⟨w.heap.size + 1 + 1, 1, none⟩) hp _).setCell (p := ⟨w.heap.size + 1 + 1, 2, none⟩) hp _).setCell (p := ⟨w.heap.size + 1 + 1, 3, none⟩) hp _).setCell (p := ⟨w.heap.size + 1 + 1, 4, none⟩) hp _

end Go.Proofs.YtnmpckdggddpoaaGreatDoor
