/- lex.Lex: its deferred closure. -/
import Derived.Test.YtnmpckdggddpoaaGreatDoorSt
import Derived.Defers
import Derived.Recover
namespace Go.Proofs.YtnmpckdggddpoaaGreatDoor
set_option linter.unusedSimpArgs false
set_option linter.unusedVariables false
open Go.RowKit Go.Shelf Go.Lib

theorem ta_nil (w : World) : (Instr.typeAssert .nilIface 20 204 true).run Tryz.prog w = .ok (.tuple #[.agg #[.int .i64 0, .int .i64 0], .bool false]) w := by
  simp [Instr.typeAssert, go_sem]
theorem ta_flt (w : World) (x : Value) : (Instr.typeAssert (.iface 204 x) 20 204 true).run Tryz.prog w = .ok (.tuple #[x, .bool true]) w := by
  simp [Instr.typeAssert, go_sem]

set_option maxRecDepth 100000 in
set_option maxHeartbeats 2000000 in
theorem lx_idle (a b c : Nat) (w : World) :
    CallsD Tryz.prog 156 #[.pointer (some ⟨a, 0, none⟩), .pointer (some ⟨b, 0, none⟩), .pointer (some ⟨c, 0, none⟩)] .returning w fun e u' w' => e = .returned (.tuple #[]) ∧ u' = .returning ∧ Below w.heap.size w w' := by
  refine callsD_of_wpS Tryz.func156 rfl fun c₀ cs hu => ?_
  simp only [Tryz.ntmps156, List.size_toArray, List.length_cons, List.length_nil, Nat.reduceAdd, Nat.reduceSub, Array.replicate_succ, Array.replicate_zero, List.push_toArray, List.append_toArray, List.nil_append, List.cons_append]
  apply wpS_seq
  apply wpS_region
  simp [wpOpsS, go_sem, recoverD, hu, ta_nil]
  refine wpS_of_wp ?_
  go_wp2_with (fail)
  simp [bodyPostS, results, Tryz.results156, hu]
  refine ⟨.returning, ?_, rfl, (Below.refl _ w).alloc (Nat.le_refl _) _⟩
  cases c₀
  simp_all

set_option maxRecDepth 100000 in
set_option maxHeartbeats 4000000 in
theorem lx_catch (a b c : Nat) (er at_ : Int) (x y z : Value) (w : World) (ha : Blk w a [x] 115) (hb : Blk w b [y] 26) (hc : Blk w c [z] 3) (hab : a ≠ b) (hac : a ≠ c) (hbc : b ≠ c) :
    CallsD Tryz.prog 156 #[.pointer (some ⟨a, 0, none⟩), .pointer (some ⟨b, 0, none⟩), .pointer (some ⟨c, 0, none⟩)] (.panicking [{ v := .iface 204 (.agg #[.int .i64 er, .int .i64 at_]), recovered := false }]) w fun e u' w' =>
      e = .returned (.tuple #[]) ∧ u' = .panicking [{ v := .iface 204 (.agg #[.int .i64 er, .int .i64 at_]), recovered := true }] ∧ Blk w' a [.slice none 0 0] 115 ∧ Blk w' b [.int .i64 er] 26 ∧ Blk w' c [.int .i64 at_] 3 ∧ Fr [a, b, c] w w' := by
  refine callsD_of_wpS Tryz.func156 rfl fun c₀ cs hu => ?_
  simp only [Tryz.ntmps156, List.size_toArray, List.length_cons, List.length_nil, Nat.reduceAdd, Nat.reduceSub, Array.replicate_succ, Array.replicate_zero, List.push_toArray, List.append_toArray, List.nil_append, List.cons_append]
  apply wpS_seq
  apply wpS_region
  simp [wpOpsS, go_sem, recoverD, hu, ta_flt]
  refine wpS_of_wp ?_
  obtain ⟨f, hf⟩ : ∃ f, f = w.heap.size := ⟨_, rfl⟩
  rw [← hf]
  have hla := ha.lt
  have hlb := hb.lt
  have hlc := hc.lt
  obtain ⟨wa, hwa⟩ : ∃ wa, wa = w.alloc (.cells #[.int .i64 er, .int .i64 at_] 204) := ⟨_, rfl⟩
  have hfa : Blk wa f [.int .i64 er, .int .i64 at_] 204 := by rw [hwa]; exact Blk.new' (c := [_, _]) hf
  have ha' : Blk wa a [x] 115 := by rw [hwa]; exact ha.alloc _
  have hb' : Blk wa b [y] 26 := by rw [hwa]; exact hb.alloc _
  have hc' : Blk wa c [z] 3 := by rw [hwa]; exact hc.alloc _
  have hF : Fr [a, b, c] w wa := by rw [hwa]; exact ((Upd.refl [a, b, c] w).alloc _).fr
  have na : f ≠ a := by omega
  have nb : f ≠ b := by omega
  have nc : f ≠ c := by omega
  rw [← hwa]
  have cf := hfa.cell
  have ff := hfa.free
  have ca := ha'.cell
  have fa := ha'.free
  have cb := hb'.cell
  have fb := hb'.free
  have cc := hc'.cell
  have fc := hc'.free
  have HA := Lib.hid ha'
  have HB := Lib.hid hb'
  have HC := Lib.hid hc'
  have HF := Lib.hid hF
  clear hwa hf hla hlb hlc ha hb hc ha' hb' hc' hF hfa
  have hab' := hab.symm
  have hac' := hac.symm
  have hbc' := hbc.symm
  go_wp2_with (fail)
  go_region
  go_wp2_with (fail)
  simp [bodyPostS, results, Tryz.results156, hu]
  refine ⟨?_, ?_, ?_, ?_⟩
  · exact ((((HA.out.set 0 _).other hab _ _).other hac _ _)).drew
  · exact ((((HB.out.other hab' _ _).set 0 _).other hbc _ _)).drew
  · exact ((((HC.out.other hac' _ _).other hbc' _ _).set 0 _)).drew
  · exact HF.out.then ((((((Upd.refl [a, b, c] wa).set (by simp) _ _).set (by simp) _ _).set (by simp) _ _)).drew).fr

end Go.Proofs.YtnmpckdggddpoaaGreatDoor
