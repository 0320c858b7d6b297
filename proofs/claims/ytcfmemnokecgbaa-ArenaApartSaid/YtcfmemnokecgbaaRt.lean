/- The steps that came in. -/
import Derived.Test.YtcfmemnokecgbaaRs
import Derived.Test.YtcfmemnokecgbaaRp
import Derived.Deep.Slices
namespace Go.Proofs.Ytcfmemnokecgbaa
open Go.ChangeShapes Go.WideShapes Go.ChangeAt Go.RowKit

theorem Try.stepShape : (match Try.prog.underlying 66 with | some (.struct fs) => fs.toList.map (fun f => (f.type, f.offset)) | _ => []) = [(3, 0), (3, 1), (3, 2), (28, 3), (28, 4)] := by kernel_rfl
theorem Try.cellsInt : Try.prog.cellsOf 3 = 1 := by kernel_rfl
theorem Try.cellsWord : Try.prog.cellsOf 28 = 1 := by kernel_rfl
theorem Try.cellsStep : Try.prog.cellsOf 66 = 5 := by kernel_rfl
theorem Try.ulInt : Try.prog.underlying 3 = some (.int .i64) := by kernel_rfl
theorem Try.ulWord : Try.prog.underlying 28 = some (.int .u64) := by kernel_rfl
theorem Try.ulSteps : Try.prog.underlying 39 = some (.slice 66) := by kernel_rfl

instance : Inhabited St := ⟨⟨0, 0, 0, 0, 0⟩⟩

theorem wf_word {x : Int} (h : (Lit.int .u64 x).wf = true) : U64 x := by
  have : 0 ≤ x ∧ x ≤ 18446744073709551615 := by simpa [Lit.wf, IntKind.min, IntKind.max, IntKind.bits, IntKind.signed] using h
  exact this

theorem step_in {H : Type} {enc : TypeId × Value → H} {w : World} {base fuel : Nat} {sp : Nat → Bool} {held : Bool} {cs : List Value} {x : DataW H × List MemPlace}
    (h : DataW.trod enc Try.prog w base sp held fuel 66 cs = some x) : ∃ s : St, cs = stC s ∧ U64 s.w ∧ U64 s.x := by
  have hsh := Try.stepShape
  split at hsh
  · rename_i fs hfs
    obtain ⟨xs, n, _, _, hcl, hxl, hf⟩ := DataW.trod_struct hfs h
    rw [Try.cellsStep] at hcl
    have hlen : fs.size = 5 := by
      have := congrArg List.length hsh
      simpa using this
    have get : ∀ (i : Nat) (t o : Nat), [(3, 0), (3, 1), (3, 2), (28, 3), (28, 4)][i]? = some (t, o) → ∃ y, DataW.trod enc Try.prog w base sp held n t ((cs.drop o).take (Try.prog.cellsOf t)) = some y := fun i t o hi => by
      rw [← hsh, List.getElem?_map] at hi
      obtain ⟨f, hfi, hft⟩ := Option.map_eq_some_iff.1 hi
      have hfi' : fs[i]? = some f := by simpa using hfi
      have hil : i < xs.length := by rw [hxl]; exact (Array.getElem?_eq_some_iff.1 hfi').1
      have := hf i f hfi'
      injection hft with e1 e2
      rw [e1, e2] at this
      exact ⟨_, this.trans (List.getElem?_eq_getElem hil)⟩
    match cs, hcl with
    | [c0, c1, c2, c3, c4], _ =>
      obtain ⟨y0, g0⟩ := get 0 _ _ rfl
      obtain ⟨y1, g1⟩ := get 1 _ _ rfl
      obtain ⟨y2, g2⟩ := get 2 _ _ rfl
      obtain ⟨y3, g3⟩ := get 3 _ _ rfl
      obtain ⟨y4, g4⟩ := get 4 _ _ rfl
      rw [Try.cellsInt] at g0 g1 g2
      rw [Try.cellsWord] at g3 g4
      obtain ⟨z0, e0, _, _⟩ := DataW.trod_int Try.ulInt g0
      obtain ⟨z1, e1, _, _⟩ := DataW.trod_int Try.ulInt g1
      obtain ⟨z2, e2, _, _⟩ := DataW.trod_int Try.ulInt g2
      obtain ⟨z3, e3, _, w3⟩ := DataW.trod_int Try.ulWord g3
      obtain ⟨z4, e4, _, w4⟩ := DataW.trod_int Try.ulWord g4
      simp at e0 e1 e2 e3 e4
      subst e0 e1 e2 e3 e4
      exact ⟨⟨z0, z1, z2, z3, z4⟩, rfl, wf_word w3, wf_word w4⟩
  · cases hsh

theorem steps_in {H : Type} {enc : TypeId × Value → H} {w : World} {fuel : Nat} {held : Bool} {ad : Option Addr} {len cap : Nat} {x : DataW H × List MemPlace}
    (h : DataW.trod enc Try.prog w 0 (fun _ => true) held fuel 39 [.slice ad len cap] = some x) : ∃ S, InSteps w ad len S := by
  rcases Deep.open_slice Try.ulSteps h with ⟨h0, _⟩ | ⟨a, l, c, m, n, D, Pl, hcs, _, hlc, hcm, hm, _, hx⟩
  · simp at h0
    obtain ⟨rfl, rfl, rfl⟩ := h0
    exact ⟨[], rfl, by omega, by simp, .inl rfl⟩
  · simp at hcs
    obtain ⟨rfl, rfl, rfl⟩ := hcs
    rw [Try.cellsStep] at hx
    simp at hm
    subst hm
    have each : ∀ i, i < len → ∃ s : St, (∀ o u, (stC s)[o]? = some u → w.cell? (a.add (i * 5 + o)) = some u) ∧ U64 s.w ∧ U64 s.x := fun i hi => by
      obtain ⟨cs', h1, h2⟩ := hx i (by omega)
      obtain ⟨s, rfl, u1, u2⟩ := step_in h2
      obtain ⟨_, hl, hcell⟩ := World.cells?_some h1
      refine ⟨s, fun o u hu => ?_, u1, u2⟩
      have := hcell o (by have := (List.getElem?_eq_some_iff.1 hu).1; simpa [stC] using this)
      rw [Deep.add_add, hu] at this
      exact this
    obtain ⟨q, hq⟩ := Deep.choose_lt each
    refine ⟨(List.range len).map q, by simp, by unfold maxLen at hcm; omega, fun s hs => ?_, ?_⟩
    · obtain ⟨i, hi, rfl⟩ := List.mem_map.1 hs
      exact (hq i (List.mem_range.1 hi)).2
    · rcases Nat.eq_zero_or_pos len with h0 | h0
      · exact .inl h0
      · obtain ⟨b, off, sp⟩ := a
        have hc0 := (hq 0 h0).1 0 _ rfl
        have hspot : sp = none := by simpa [Addr.add] using World.cell?_spot hc0
        subst hspot
        refine .inr ⟨b, off, rfl, ?_, fun k s hk o u hu => ?_⟩
        · exact block_lt_of_cell hc0
        · have hkl := (List.getElem?_eq_some_iff.1 hk).1
          simp at hkl
          simp [List.getElem?_range hkl] at hk
          subst hk
          have := (hq k hkl).1 o u hu
          rwa [show (⟨b, off, none⟩ : Addr).add (k * 5 + o) = ⟨b, off + k * 5 + o, none⟩ by unfold Addr.add; split <;> simp_all [Nat.add_assoc]] at this

end Go.Proofs.Ytcfmemnokecgbaa
