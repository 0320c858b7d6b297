/- What the rows' proofs share: a slice of numbers that came in. -/
import Derived.Test.YtcfmemnokecgbaaRows
import Derived.Test.YtcfmemnokecgbaaLf
import Derived.ProofKit
import Derived.OpenShut
import Derived.ShutString
import Derived.ChangeOld
namespace Go.Proofs.Ytcfmemnokecgbaa
open Go.ChangeShapes Go.WideShapes Go.ChangeAt Go.RowKit

theorem own_knob : ownKnob Try.prog.godebug = none := by kernel_rfl
theorem laid_out : laidOutB Try.prog = true := by kernel_rfl

def IsRow (k : IntKind) (w : World) (a : Option Addr) (len cap : Nat) (zs : List Int) : Prop :=
  (a = none ∧ len = 0 ∧ cap = 0 ∧ zs = []) ∨
  ∃ x, a = some x ∧ len ≤ cap ∧ cap ≤ maxLen ∧ zs.length = cap ∧ (∀ i, i < zs.length → w.cell? (x.add i) = some (.int k (zs.getD i 0))) ∧ ∀ n ∈ zs, (Lit.int k n).wf = true

theorem inRow {k : IntKind} {w : World} {a : Option Addr} {len cap : Nat} {zs : List Int} (h : IsRow k w a len cap zs) : InRow k w a len (zs.take len) := by
  rcases h with ⟨rfl, rfl, rfl, rfl⟩ | ⟨x, rfl, hlc, hcm, hz, hcell, hwf⟩
  · exact ⟨by simp, by omega, by simp, .inl rfl⟩
  · refine ⟨by simp; omega, by unfold maxLen at hcm; omega, fun z hz => hwf z (List.mem_of_mem_take hz), ?_⟩
    rcases Nat.eq_zero_or_pos len with h0 | h0
    · exact .inl h0
    · obtain ⟨g, off, rfl, hcell2⟩ := ints_at hcell (by omega)
      clear hcell
      have hg := block_lt_of_cell (hcell2 0 (by omega))
      refine .inr ⟨g, off, rfl, hg, fun j z hj => ?_⟩
      rw [List.getElem?_take] at hj
      split at hj
      · have hjl := (List.getElem?_eq_some_iff.1 hj).1
        have := hcell2 j hjl
        rw [this]
        simp [List.getD, hj]
      · cases hj

end Go.Proofs.Ytcfmemnokecgbaa
