/-
  No cell of these rows narrows 'for every input' (looked for: loops, veiled, ifaces, maps, wideKeys, modest, calm, conditions, laid).
  DERIVED. THE GIVEN ROWS OF THIS SEAT. 5 by the template 'for every input the law returns true; each argument reads behind the call as it read before'; 0 by the template 'total and deterministic' (their statements: YtcfmemnokecgbaaTotals.lean).
  GIVEN WITH THE SEED: the statements are not yours to turn. If you find one false, say at which input.
  Laid BY PROGRAM, IN A SANDBOX (cutbox-rows.mjs): the forced cells as the released guide's own fill.sh prints them over the translation be26cc83befefb97… (all of the seat's roots in one cut). By AI agents, Wed Nov 11 2026. No macro, syntax, notation, axiom, sorry.
-/
import Derived.Test.YtcfmemnokecgbaaChecked
import GoSem.Claim
import GoSem.ClaimJoined
import GoSem.ClaimMapViews
import Derived.JoinedTies
import Derived.KernelRfl
namespace Go.Proofs.Ytcfmemnokecgbaa
/- THE CELL 'sum', in the pinned program and in every row, IS THE sha256 OF THE DUMP (.gsa) THAT YtcfmemnokecgbaaProg.lean LOADS. Nothing in Lean hashes anything: it is a label: what it is worth is what the hold of that sum in a sandbox is worth. -/
noncomputable def Try.pinned : Pinned := { name := "ytcfmemnokecgbaa", sum := "be26cc83befefb97cfcfee57770080a23c56373e05c1687dce3da950e76f755f", checked := Try.checked }
namespace Rows
def none {H : Type} : Left H := { results := [], args := [] }

/-- 'grapnellaw02.ArenaFills': WHATEVER THE INPUT: true; the input reads as it did. -/
def arenaFillsSpec : ChangeSpec := { name := "arenaFills", fn := fun _ => fun
  | [d1, d2] => { results := [.lit (.bool true)], args := [d1, d2] }
  | _ => none }
def arenaFillsRow : OpenClaim := { program := "ytcfmemnokecgbaa", sum := "be26cc83befefb97cfcfee57770080a23c56373e05c1687dce3da950e76f755f", func := "grapnel/grapnellaw02.ArenaFills", spec := "arenaFills", apart := false }
def ArenaFillsSaid : Prop := arenaFillsRow.holds Try.pinned (OpenSpec.ofChange arenaFillsSpec)

/-- ITS FALSE NEIGHBOUR: 'it returns false'. Refute it at one input. -/
def arenaFillsWrong : ChangeSpec := { name := "arenaFills", fn := fun _ => fun
  | [d1, d2] => { results := [.lit (.bool false)], args := [d1, d2] }
  | _ => none }
def ArenaFillsWrongFalsely : Prop := arenaFillsRow.holds Try.pinned (OpenSpec.ofChange arenaFillsWrong)

/-- 'grapnellaw02.ArenaFlips': WHATEVER THE INPUT: true; the input reads as it did. -/
def arenaFlipsSpec : ChangeSpec := { name := "arenaFlips", fn := fun _ => fun
  | [d1, d2, d3] => { results := [.lit (.bool true)], args := [d1, d2, d3] }
  | _ => none }
def arenaFlipsRow : OpenClaim := { program := "ytcfmemnokecgbaa", sum := "be26cc83befefb97cfcfee57770080a23c56373e05c1687dce3da950e76f755f", func := "grapnel/grapnellaw02.ArenaFlips", spec := "arenaFlips", apart := false }
def ArenaFlipsSaid : Prop := arenaFlipsRow.holds Try.pinned (OpenSpec.ofChange arenaFlipsSpec)

/-- ITS FALSE NEIGHBOUR: 'it returns false'. Refute it at one input. -/
def arenaFlipsWrong : ChangeSpec := { name := "arenaFlips", fn := fun _ => fun
  | [d1, d2, d3] => { results := [.lit (.bool false)], args := [d1, d2, d3] }
  | _ => none }
def ArenaFlipsWrongFalsely : Prop := arenaFlipsRow.holds Try.pinned (OpenSpec.ofChange arenaFlipsWrong)

/-- 'grapnellaw02.ArenaInner': WHATEVER THE INPUT: true; the input reads as it did. -/
def arenaInnerSpec : ChangeSpec := { name := "arenaInner", fn := fun _ => fun
  | [d1, d2] => { results := [.lit (.bool true)], args := [d1, d2] }
  | _ => none }
def arenaInnerRow : OpenClaim := { program := "ytcfmemnokecgbaa", sum := "be26cc83befefb97cfcfee57770080a23c56373e05c1687dce3da950e76f755f", func := "grapnel/grapnellaw02.ArenaInner", spec := "arenaInner", apart := false }
def ArenaInnerSaid : Prop := arenaInnerRow.holds Try.pinned (OpenSpec.ofChange arenaInnerSpec)

/-- ITS FALSE NEIGHBOUR: 'it returns false'. Refute it at one input. -/
def arenaInnerWrong : ChangeSpec := { name := "arenaInner", fn := fun _ => fun
  | [d1, d2] => { results := [.lit (.bool false)], args := [d1, d2] }
  | _ => none }
def ArenaInnerWrongFalsely : Prop := arenaInnerRow.holds Try.pinned (OpenSpec.ofChange arenaInnerWrong)

/-- 'grapnellaw02.ArenaApart': WHATEVER THE INPUT: true; the input reads as it did. -/
def arenaApartSpec : ChangeSpec := { name := "arenaApart", fn := fun _ => fun
  | [d1, d2] => { results := [.lit (.bool true)], args := [d1, d2] }
  | _ => none }
def arenaApartRow : OpenClaim := { program := "ytcfmemnokecgbaa", sum := "be26cc83befefb97cfcfee57770080a23c56373e05c1687dce3da950e76f755f", func := "grapnel/grapnellaw02.ArenaApart", spec := "arenaApart", apart := false }
def ArenaApartSaid : Prop := arenaApartRow.holds Try.pinned (OpenSpec.ofChange arenaApartSpec)

/-- ITS FALSE NEIGHBOUR: 'it returns false'. Refute it at one input. -/
def arenaApartWrong : ChangeSpec := { name := "arenaApart", fn := fun _ => fun
  | [d1, d2] => { results := [.lit (.bool false)], args := [d1, d2] }
  | _ => none }
def ArenaApartWrongFalsely : Prop := arenaApartRow.holds Try.pinned (OpenSpec.ofChange arenaApartWrong)

/-- 'grapnellaw02.ArenaDoes': WHATEVER THE INPUT: true; the input reads as it did. -/
def arenaDoesSpec : ChangeSpec := { name := "arenaDoes", fn := fun _ => fun
  | [d1, d2, d3] => { results := [.lit (.bool true)], args := [d1, d2, d3] }
  | _ => none }
def arenaDoesRow : OpenClaim := { program := "ytcfmemnokecgbaa", sum := "be26cc83befefb97cfcfee57770080a23c56373e05c1687dce3da950e76f755f", func := "grapnel/grapnellaw02.ArenaDoes", spec := "arenaDoes", apart := false }
def ArenaDoesSaid : Prop := arenaDoesRow.holds Try.pinned (OpenSpec.ofChange arenaDoesSpec)

/-- ITS FALSE NEIGHBOUR: 'it returns false'. Refute it at one input. -/
def arenaDoesWrong : ChangeSpec := { name := "arenaDoes", fn := fun _ => fun
  | [d1, d2, d3] => { results := [.lit (.bool false)], args := [d1, d2, d3] }
  | _ => none }
def ArenaDoesWrongFalsely : Prop := arenaDoesRow.holds Try.pinned (OpenSpec.ofChange arenaDoesWrong)

/- THE SECOND FORM. 'bulk': how many values and letters a reading holds, each counted each time it is reached (what is shared counts as often as it is met; a slice's spare places count too). A statement '..UptoSaid' is the law's where the arguments, and the package variables that the reading takes, are together of bulk at most 1048576: NARROWER than '..Said'. Prove '..Said' where nothing that the law and all that it calls make is longer than what came in: it says more and counts as full. Else prove '..UptoSaid'. A law counts once. -/
mutual
def uptoBulk {H : Type} : DataW H → Nat
  | .lit (.string bytes) => bytes.length + 1
  | .lit _ => 1
  | .nil => 1
  | .ptr d => uptoBulk d + 1
  | .slice elems spare => uptoBulkAll elems + uptoBulkAll spare + 1
  | .agg parts => uptoBulkAll parts + 1
  | .iface _ d => uptoBulk d + 1
  | .map entries => uptoBulkEntries entries + 1
  | .held _ => 1
def uptoBulkAll {H : Type} : List (DataW H) → Nat
  | [] => 0
  | d :: r => uptoBulk d + uptoBulkAll r
def uptoBulkEntries {H : Type} : List (Lit × DataW H) → Nat
  | [] => 0
  | x :: r => uptoBulkEntry x + uptoBulkEntries r
def uptoBulkEntry {H : Type} : Lit × DataW H → Nat
  | (.string bytes, d) => bytes.length + uptoBulk d + 1
  | (_, d) => uptoBulk d + 1
 end
def uptoSmall : (H : Type) → List (DataW H) → Bool := fun _ ds => decide (uptoBulkAll ds ≤ 1048576)
def OpenSpec.upto (s : _root_.Go.ChangeSpec) : _root_.Go.OpenSpec := { _root_.Go.OpenSpec.ofChange s with cond := some uptoSmall }

/-- 'grapnellaw02.ArenaFills', WHERE WHAT IT READS IS OF BULK AT MOST 1048576: true; the input reads as it did. -/
def arenaFillsUptoRow : OpenClaim := { program := "ytcfmemnokecgbaa", sum := "be26cc83befefb97cfcfee57770080a23c56373e05c1687dce3da950e76f755f", func := "grapnel/grapnellaw02.ArenaFills", spec := "arenaFills", apart := false, narrowed := true }
def ArenaFillsUptoSaid : Prop := arenaFillsUptoRow.holds Try.pinned (OpenSpec.upto arenaFillsSpec)

/-- 'grapnellaw02.ArenaFlips', WHERE WHAT IT READS IS OF BULK AT MOST 1048576: true; the input reads as it did. -/
def arenaFlipsUptoRow : OpenClaim := { program := "ytcfmemnokecgbaa", sum := "be26cc83befefb97cfcfee57770080a23c56373e05c1687dce3da950e76f755f", func := "grapnel/grapnellaw02.ArenaFlips", spec := "arenaFlips", apart := false, narrowed := true }
def ArenaFlipsUptoSaid : Prop := arenaFlipsUptoRow.holds Try.pinned (OpenSpec.upto arenaFlipsSpec)

/-- 'grapnellaw02.ArenaInner', WHERE WHAT IT READS IS OF BULK AT MOST 1048576: true; the input reads as it did. -/
def arenaInnerUptoRow : OpenClaim := { program := "ytcfmemnokecgbaa", sum := "be26cc83befefb97cfcfee57770080a23c56373e05c1687dce3da950e76f755f", func := "grapnel/grapnellaw02.ArenaInner", spec := "arenaInner", apart := false, narrowed := true }
def ArenaInnerUptoSaid : Prop := arenaInnerUptoRow.holds Try.pinned (OpenSpec.upto arenaInnerSpec)

/-- 'grapnellaw02.ArenaApart', WHERE WHAT IT READS IS OF BULK AT MOST 1048576: true; the input reads as it did. -/
def arenaApartUptoRow : OpenClaim := { program := "ytcfmemnokecgbaa", sum := "be26cc83befefb97cfcfee57770080a23c56373e05c1687dce3da950e76f755f", func := "grapnel/grapnellaw02.ArenaApart", spec := "arenaApart", apart := false, narrowed := true }
def ArenaApartUptoSaid : Prop := arenaApartUptoRow.holds Try.pinned (OpenSpec.upto arenaApartSpec)

/-- 'grapnellaw02.ArenaDoes', WHERE WHAT IT READS IS OF BULK AT MOST 1048576: true; the input reads as it did. -/
def arenaDoesUptoRow : OpenClaim := { program := "ytcfmemnokecgbaa", sum := "be26cc83befefb97cfcfee57770080a23c56373e05c1687dce3da950e76f755f", func := "grapnel/grapnellaw02.ArenaDoes", spec := "arenaDoes", apart := false, narrowed := true }
def ArenaDoesUptoSaid : Prop := arenaDoesUptoRow.holds Try.pinned (OpenSpec.upto arenaDoesSpec)

end Rows
end Go.Proofs.Ytcfmemnokecgbaa
