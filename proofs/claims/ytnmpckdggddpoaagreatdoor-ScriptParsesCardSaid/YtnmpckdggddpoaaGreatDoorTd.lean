/- script.Print: what it writes, and the small calls. -/
import Derived.Test.YtnmpckdggddpoaaGreatDoorTc
import Derived.Test.YtnmpckdggddpoaaGreatDoorSz
import Derived.Lib.ItoaLen
namespace Go.Proofs.YtnmpckdggddpoaaGreatDoor
set_option linter.unusedSimpArgs false
set_option linter.unusedVariables false
open Go.RowKit Go.Shelf Go.Lib

/-- An act as a value has it. -/
structure AcI where
  kind : Int
  n : Int
  s : ByteArray
def wLineS : List UInt8 := [108, 105, 110, 101, 32]
def wRunS : List UInt8 := [114, 117, 110, 32]
def wCollN : List UInt8 := [99, 111, 108, 108, 101, 99, 116, 10]
/-- An act's line. -/
def encA (a : AcI) : Option (List UInt8) :=
  if a.kind = 1 ∧ a.n = 0 ∧ a.s.size ≤ 65536 then some (wLineS ++ quotL a.s.data.toList ++ [10])
  else if a.kind = 2 ∧ a.s.data.toList = [] then some (wRunS ++ Lib.itoa a.n ++ [10])
  else if a.kind = 3 ∧ a.n = 0 ∧ a.s.data.toList = [] then some wCollN
  else none
def goP (out : List UInt8) : List AcI → Option (List UInt8)
  | [] => some out
  | a :: r => match encA a with
    | none => none
    | some x => if 65536 < (out ++ x).length then none else goP (out ++ x) r
def headP (cells stack : Int) : List UInt8 := [99, 101, 108, 108, 115, 32] ++ Lib.itoa cells ++ [10, 115, 116, 97, 99, 107, 32] ++ Lib.itoa stack ++ [10]
def printS (cells stack : Int) (l : List AcI) : Option (List UInt8) :=
  if 998 < l.length then none
  else match goP (headP cells stack) l with
    | none => none
    | some t => match parseS t with
      | .inl _ => none
      | .inr _ => some t
def acI (a : AcI) : List Value := [.int .i64 a.kind, .int .i64 a.n, .string a.s]
def actsI (l : List AcI) : List Value := l.flatMap acI
theorem actsI_get : ∀ (l : List AcI) (k : Nat) (a : AcI), l[k]? = some a → (actsI l)[k * 3]? = some (.int .i64 a.kind) ∧ (actsI l)[k * 3 + 1]? = some (.int .i64 a.n) ∧ (actsI l)[k * 3 + 2]? = some (.string a.s)
  | [], k, a, h => by simp at h
  | b :: l, 0, a, h => by simp at h; subst h; simp [actsI, acI]
  | b :: l, k + 1, a, h => by
    have := actsI_get l k a (by simpa using h)
    have e : actsI (b :: l) = acI b ++ actsI l := rfl
    rw [e]
    refine ⟨?_, ?_, ?_⟩
    · rw [List.getElem?_append_right (by simp [acI]; omega)]; simp only [acI, List.length_cons, List.length_nil]; rw [show (k + 1) * 3 - (0 + 1 + 1 + 1) = k * 3 by omega]; exact this.1
    · rw [List.getElem?_append_right (by simp [acI]; omega)]; simp only [acI, List.length_cons, List.length_nil]; rw [show (k + 1) * 3 + 1 - (0 + 1 + 1 + 1) = k * 3 + 1 by omega]; exact this.2.1
    · rw [List.getElem?_append_right (by simp [acI]; omega)]; simp only [acI, List.length_cons, List.length_nil]; rw [show (k + 1) * 3 + 2 - (0 + 1 + 1 + 1) = k * 3 + 2 by omega]; exact this.2.2
theorem below_grown {w : World} (k : Nat) (os : Array Obj) : Below w.heap.size w (Sort.grow (w.drewN k) os) := by
  refine ⟨rfl, rfl, rfl, by simp [Sort.grow], fun j hj => ?_⟩
  exact Array.getElem?_append_left hj
theorem itoa_any (n : Int) (h0 : -9223372036854775808 ≤ n) (h1 : n ≤ 9223372036854775807) (B : Nat) (w : World) (hE : Env B w) :
    Calls Tryz.prog 33 #[.int .i64 n] w fun e w' => e = .returned (.string (bs (Lib.itoa n))) ∧ Below w.heap.size w w' :=
  (Tryz.strconv_Itoa n h0 h1 w hE.p10.here).mono fun _ _ ⟨he, k, os, hw⟩ => ⟨he, by rw [hw]; exact below_grown k os⟩
theorem fmt_any (n : Int) (h0 : -9223372036854775808 ≤ n) (h1 : n ≤ 9223372036854775807) (B : Nat) (w : World) (hE : Env B w) :
    Calls Tryz.prog 35 #[.int .i64 n, .int .i64 10] w fun e w' => e = .returned (.string (bs (Lib.itoa n))) ∧ Below w.heap.size w w' :=
  (Tryz.strconv_FormatInt_10 n h0 h1 w hE.p10.here).mono fun _ _ ⟨he, k, os, hw⟩ => ⟨he, by rw [hw]; exact below_grown k os⟩

theorem lx_Text (s : ByteArray) (w : World) (hs : s.size ≤ 70000) :
    Calls Tryz.prog 34 #[.agg #[.int .i64 2, .int .i64 0, .int .i64 0, .string s]] w fun e w' => e = .returned (.string (bs (quotL s.data.toList))) ∧ Below w.heap.size w w' := by
  have HQ := Lib.hid (fun w => lx_quoted s w hs)
  go_enter Tryz.func34, Tryz.ntmps34
  go_wp2_with (fail)
  refine (HQ.out _).mono ?_
  rintro e w' ⟨rfl, hB⟩
  have HB := Lib.hid (below_act hB)
  clear hB
  go_wp2_with (fail)
  go_ret
  exact ⟨rfl, HB.out⟩

end Go.Proofs.YtnmpckdggddpoaaGreatDoor
