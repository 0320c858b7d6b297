/- More plain words on slices of a call's own. -/
import Derived.Test.YtnmpckdggddpoaaGreatDoorHp
import Derived.Deep.QuietTactic
namespace Go.Proofs.YtnmpckdggddpoaaGreatDoor
set_option linter.unusedSimpArgs false
set_option linter.unusedVariables false
open Go.RowKit

/-- A slice that isn't empty, of elements of one cell: where it begins, each cell, and what a store does. -/
theorem Sl.at {w : World} {v : Value} {e : TypeId} {n : Nat} {xs : List Value} (h : Sl w v e 1 n xs) (hn : 0 < n) :
    ∃ g off cap, v = .slice (some ⟨g, off, none⟩) n cap ∧ n ≤ cap ∧ own v = [g] ∧ (∀ j u, xs[j]? = some u → w.cell? ⟨g, off + j, none⟩ = some u) ∧ (∀ o, w.frozen? ⟨g, o, none⟩ = false) ∧
      ∀ k u, k < n → Sl (w.setCell ⟨g, off + k, none⟩ u) v e 1 n (xs.set k u) := by
  rcases h.2 with ⟨rfl, h0⟩ | ⟨g, off, cap, cur, rfl, hg, h1, h2, h3, h4⟩
  · omega
  · have hl := h.1
    refine ⟨g, off, cap, rfl, h1, by simp [own, Value.ownBlock], fun j u hu => ?_, fun o => frozen_of_row w g o cur e hg, fun k u hk => ⟨by simpa using hl, .inr ⟨g, off, cap, cur.setIfInBounds (off + k) u, rfl, heap_setCell_same w g (off + k) cur e u hg, h1, h2, by simpa using h3, ?_⟩⟩⟩
    · rw [cell_of_row w g (off + j) cur e (0, 0) hg]
      rw [← h4, List.getElem?_take] at hu
      split at hu
      · simpa using hu
      · cases hu
    · rw [Array.toList_setIfInBounds, List.drop_set, if_neg (by omega), List.take_set, show off + k - off = k by omega, h4]

/-- Nothing is appended: the slice is as it was. -/
theorem run_app_none {P : Program} (w : World) (t ty e : TypeId) (i : TypeInfo) (ht : P.underlying t = some (.slice e)) (hi : P.info? e = some i) (ad : Option Addr) (n cap : Nat) (hn : n ≤ cap) :
    (Builtin.append_ #[t, t] ty #[.slice ad n cap, .slice none 0 0]).run P w = .ok (.slice ad n cap) w := by
  cases ad <;> simp [Builtin.append_, run_underlying ht, sizeOf, typeInfo, hi, Builtin.lenOf, Builtin.firstCells, hn, storeCells]

theorem wp_app_nil {P : Program} (w : World) {o : Oper} {a : Act} {K : Act → World → Prop} {Q : Exit → Act → World → Prop} (s x : Operand) (t : TypeId)
    (ho : o.op = .call { callee := .builtin .append, args := #[s, x], argTypes := #[t, t] })
    (e : TypeId) (i : TypeInfo) (size : Nat) (ht : P.underlying t = some (.slice e)) (hi : P.info? e = some i)
    (v : Value) (n : Nat) (xs : List Value) (hs : a.eval s = v) (hown : Sl w v e size n xs) (hx : a.eval x = .slice none 0 0)
    (h : ∀ ad' cap' w', Sl w' (.slice ad' n cap') e size n xs → Upd (own v) (own (.slice ad' n cap')) w w' → K (a.put o.dst (.slice ad' n cap')) w') : o.wp P a w K Q := by
  obtain ⟨ad, cap, rfl, hn, _⟩ := hown.form
  have hr := run_app_none (P := P) w t o.type e i ht hi ad n cap hn
  unfold Oper.wp execOp
  simp only [ho, resolve, invoke, builtin, Sem.run_bind, Sem.run_pure, Result.andThen_ok, List.map_toArray, List.map_cons, List.map_nil, hs, hx, hr]
  exact h ad cap w hown (Upd.refl _ _)

/-- Nothing is appended to a slice of the call's own. -/
theorem wpList_app_nil {P : Program} (w : World) {ops : Array Oper} {rest : List Oper} {o : Oper} {a : Act} {Q : Exit → Act → World → Prop} (hgd : o.guard = none) (s x : Operand) (t : TypeId)
    (ho : o.op = .call { callee := .builtin .append, args := #[s, x], argTypes := #[t, t] })
    (e : TypeId) (i : TypeInfo) (size : Nat) (ht : P.underlying t = some (.slice e)) (hi : P.info? e = some i)
    (v : Value) (n : Nat) (xs : List Value) (hs : a.eval s = v) (hown : Sl w v e size n xs) (hx : a.eval x = .slice none 0 0)
    (h : ∀ ad' cap' w', Sl w' (.slice ad' n cap') e size n xs → Upd (own v) (own (.slice ad' n cap')) w w' → wpList P ops Q rest (a.put o.dst (.slice ad' n cap')) w') : wpList P ops Q (o :: rest) a w :=
  wpList_plain hgd fun _ hK => wp_app_nil w s x t ho e i size ht hi v n xs hs hown hx fun ad' cap' w' h2 h3 => hK _ _ (h ad' cap' w' h2 h3)

/-- A callee's contract in a region that only reads, behind earlier draws. -/
theorem qsame2 {P : Program} {f : FuncId} {args : Array Value} {w : World} {k n : Nat} {v : Value}
    (h : Calls P f args (w.drewN (k + n)) fun e w' => e = .returned v ∧ w.drewN (k + n) = w') : Calls P f args (w.drewN (k + n)) fun e w'' => e = .returned v ∧ ∃ m, w'' = w.drewN (k + m) :=
  h.mono fun _ _ ⟨he, hm⟩ => ⟨he, n, hm.symm⟩
theorem qread {P : Program} {f : FuncId} {args : Array Value} {w : World} {n : Nat} {v : Value}
    (h : Calls P f args (w.drewN n) fun e w' => e = .returned v ∧ ∃ m, w' = (w.drewN n).drewN m) : Calls P f args (w.drewN n) fun e w'' => e = .returned v ∧ ∃ m, w'' = w.drewN m :=
  h.mono fun _ _ ⟨he, m, hm⟩ => ⟨he, n + m, by rw [hm, World.drewN_drewN]⟩
theorem qread2 {P : Program} {f : FuncId} {args : Array Value} {w : World} {k n : Nat} {v : Value}
    (h : Calls P f args (w.drewN (k + n)) fun e w' => e = .returned v ∧ ∃ m, w' = (w.drewN (k + n)).drewN m) : Calls P f args (w.drewN (k + n)) fun e w'' => e = .returned v ∧ ∃ m, w'' = w.drewN (k + m) :=
  h.mono fun _ _ ⟨he, m, hm⟩ => ⟨he, n + m, by rw [hm, World.drewN_drewN, Nat.add_assoc]⟩

end Go.Proofs.YtnmpckdggddpoaaGreatDoor
