/- The walks of package arena: Leads, Tag, Size, field, Get, Top, Base, Half. -/
import Derived.Test.YtcfmemnokecgbaaAf
namespace Go.Proofs.Ytcfmemnokecgbaa
open Go.RowKit

/-- What is known of a block's cells. -/
theorem block_facts {w : World} {a : Nat} {A : Ar} {hb cb : Nat} {sv : Value} {cells : List Int} (p : IsArP w a A hb cb sv cells) (hok : A.ok) {i : Nat} {b : Bk} (hi : A.L[i]? = some b) :
    ∃ (s : Nat) (hw : Int), Hid (adr A.base A.L i = s) ∧ 1 ≤ s ∧ s + b.fs.length ≤ 2 * A.n ∧ A.n ≤ 32768 ∧ b.fs.length ≤ 4096 ∧ (cels cells)[s - 1]? = some (.int .u64 hw) ∧ U64 hw ∧ wSize hw = b.fs.length ∧ wTag hw = b.tag ∧
      Hid (∀ k v, b.fs[k]? = some v → (cels cells)[s + k]? = some (.int .u64 v)) ∧ Hid (A.base < s) := by
  have hbk : b.ok := hok.2.2.2 b (List.mem_of_getElem? hi)
  have hil := (List.getElem?_eq_some_iff.1 hi).1
  have hlo := adr_lo A.base A.L i hil
  have hhi := adr_hi A.base A.L i b hi
  have hbl := A.base_le
  have hfl := hok.2.2.1
  have hbt := hbk.1
  have hbl2 := hbk.2.1
  refine ⟨adr A.base A.L i, wHead b.tag b.fs.length, rfl, by omega, by omega, hok.2.1, hbl2, ?_, wHead_u _ _, wSize_head (by omega) (by omega) (by omega) (by omega), wTag_head (by omega) (by omega) (by omega) (by omega), fun k v hk => ?_, by show _ < _; omega⟩
  · have := cell_at p.fl _ _ (flat_head A.base A.L i b hi)
    rw [show A.base + (adr A.base A.L i - 1 - A.base) = adr A.base A.L i - 1 by omega] at this
    simp [cels, this]
  · have hkl := (List.getElem?_eq_some_iff.1 hk).1
    have := flat_field A.base A.L i k b hi hkl
    rw [hk] at this
    have := cell_at p.fl _ _ this
    rw [show A.base + (adr A.base A.L i + k - A.base) = adr A.base A.L i + k by omega] at this
    simp [cels, this]

def Ar.blk (A : Ar) (x : Int) : Option Bk := (A.find x).bind fun r => A.L[r.1]?
def Ar.leads (A : Ar) (x : Int) : Int × Int := match A.find x with
  | some r => (wPtr (adr A.base A.L r.1 : Nat), (r.2 : Nat))
  | none => (0, 0)
def Ar.tagOf (A : Ar) (x : Int) : Int := match A.blk x with
  | some b => (b.tag : Nat)
  | none => -1
def Ar.sizeOf (A : Ar) (x : Int) : Int := match A.blk x with
  | some b => (b.fs.length : Nat)
  | none => -1
def Ar.getF (A : Ar) (x i : Int) : Int × Int := match A.blk x with
  | some b => if 0 ≤ i ∧ i < (b.fs.length : Nat) then (b.fs.getD i.toNat 0, 0) else (0, 2)
  | none => (0, 6)

theorem find_some {A : Ar} {x : Int} {r : Nat × Nat} (h : A.find x = some r) : ∃ b, A.L[r.1]? = some b ∧ A.blk x = some b := by
  have hl : r.1 < A.L.length := by
    unfold Ar.find at h
    split at h
    · cases h
    · exact (look_lt h).1
  exact ⟨_, List.getElem?_eq_getElem hl, by unfold Ar.blk; rw [h]; simp [List.getElem?_eq_getElem hl]⟩
theorem find_none {A : Ar} {x : Int} (h : A.find x = none) : A.blk x = none := by unfold Ar.blk; rw [h]; rfl

set_option maxHeartbeats 400000 in
theorem arena_Leads {w : World} {a : Nat} {A : Ar} {F : List Nat} (h : IsAr w a A F) (hok : A.ok) (x : Int) (hx : U64 x) :
    Calls Try.prog 21 #[.pointer (some ⟨a, 0, none⟩), .int .u64 x] w fun e w' => e = .returned (.tuple #[.int .u64 (A.leads x).1, .int .i64 (A.leads x).2]) ∧ ∃ n, w' = w.drewN n := by
  have hf := Lib.hid (arena_find h hok x hx)
  cases hr : A.find x with
  | none =>
    have H1 := Lib.hid (findAt_no hr)
    have H2 := Lib.hid (show A.leads x = (0, 0) by unfold Ar.leads; rw [hr])
    clear hr
    go_enter Try.func21, Try.ntmps21
    go_wp2_with (fail)
    refine Calls.mono hf.out ?_
    rintro e w' ⟨rfl, n, rfl⟩
    rw [H1.out]
    go_wp2
    go_ret2
    exact ⟨by rw [H2.out]; rfl, n, rfl⟩
  | some r =>
    have H1 := Lib.hid (findAt_yes (i := r.1) (d := r.2) hr)
    have H2 := Lib.hid (show A.leads x = (wPtr (adr A.base A.L r.1 : Nat), ((r.2 : Nat) : Int)) by unfold Ar.leads; rw [hr])
    clear hr
    generalize adr A.base A.L r.1 = s at *
    go_enter Try.func21, Try.ntmps21
    go_wp2_with (fail)
    refine Calls.mono hf.out ?_
    rintro e w' ⟨rfl, n, rfl⟩
    rw [H1.out]
    go_wp2_with ((go_at_call 28; with_reducible refine Calls.mono (word_Ptr _ _) ?_; rintro e w' ⟨rfl, rfl⟩))
    go_ret2
    exact ⟨by rw [H2.out]; rfl, n, rfl⟩

set_option maxHeartbeats 400000 in
theorem arena_Tag {w : World} {a : Nat} {A : Ar} {F : List Nat} (h : IsAr w a A F) (hok : A.ok) (x : Int) (hx : U64 x) :
    Calls Try.prog 12 #[.pointer (some ⟨a, 0, none⟩), .int .u64 x] w fun e w' => e = .returned (.int .i64 (A.tagOf x)) ∧ ∃ n, w' = w.drewN n := by
  have hf := Lib.hid (arena_find h hok x hx)
  cases hr : A.find x with
  | none =>
    have H1 := Lib.hid (findAt_no hr)
    have H2 := Lib.hid (show A.tagOf x = -1 by unfold Ar.tagOf; rw [find_none hr])
    clear hr
    go_enter Try.func12, Try.ntmps12
    go_wp2_with (fail)
    refine Calls.mono hf.out ?_
    rintro e w' ⟨rfl, n, rfl⟩
    rw [H1.out]
    go_wp2
    go_ret
    exact ⟨by rw [H2.out]; rfl, n, rfl⟩
  | some r =>
    obtain ⟨b, hb1, hb2⟩ := find_some hr
    obtain ⟨hb, cb, sv, cells, rfl, p⟩ := h
    obtain ⟨s, hw, HS, s1, s2, s3, s4, hc, hu, _, ht, _⟩ := block_facts p hok hb1
    have ca := p.ba.cell
    have ch := p.bh.cell
    have cc := p.bc.cell
    have H1 := Lib.hid (findAt_yes (i := r.1) (d := r.2) hr)
    have H2 := Lib.hid (show A.tagOf x = b.tag by unfold Ar.tagOf; rw [hb2])
    clear hr hb1 hb2 p hok
    rw [HS.out] at H1
    go_enter Try.func12, Try.ntmps12
    go_wp2_with (fail)
    refine Calls.mono hf.out ?_
    rintro e w' ⟨rfl, n, rfl⟩
    rw [H1.out]
    go_wp2_with ((go_at_call 31; with_reducible refine Calls.mono (word_Tag _ hu _) ?_; rintro e w' ⟨rfl, rfl⟩))
    go_ret
    exact ⟨by rw [H2.out]; rfl, n, rfl⟩

set_option maxHeartbeats 400000 in
theorem arena_Size {w : World} {a : Nat} {A : Ar} {F : List Nat} (h : IsAr w a A F) (hok : A.ok) (x : Int) (hx : U64 x) :
    Calls Try.prog 11 #[.pointer (some ⟨a, 0, none⟩), .int .u64 x] w fun e w' => e = .returned (.int .i64 (A.sizeOf x)) ∧ ∃ n, w' = w.drewN n := by
  have hf := Lib.hid (arena_find h hok x hx)
  cases hr : A.find x with
  | none =>
    have H1 := Lib.hid (findAt_no hr)
    have H2 := Lib.hid (show A.sizeOf x = -1 by unfold Ar.sizeOf; rw [find_none hr])
    clear hr
    go_enter Try.func11, Try.ntmps11
    go_wp2_with (fail)
    refine Calls.mono hf.out ?_
    rintro e w' ⟨rfl, n, rfl⟩
    rw [H1.out]
    go_wp2
    go_ret
    exact ⟨by rw [H2.out]; rfl, n, rfl⟩
  | some r =>
    obtain ⟨b, hb1, hb2⟩ := find_some hr
    obtain ⟨hb, cb, sv, cells, rfl, p⟩ := h
    obtain ⟨s, hw, HS, s1, s2, s3, s4, hc, hu, hz, _, _⟩ := block_facts p hok hb1
    have ca := p.ba.cell
    have ch := p.bh.cell
    have cc := p.bc.cell
    have H1 := Lib.hid (findAt_yes (i := r.1) (d := r.2) hr)
    have H2 := Lib.hid (show A.sizeOf x = b.fs.length by unfold Ar.sizeOf; rw [hb2])
    clear hr hb1 hb2 p hok
    rw [HS.out] at H1
    go_enter Try.func11, Try.ntmps11
    go_wp2_with (fail)
    refine Calls.mono hf.out ?_
    rintro e w' ⟨rfl, n, rfl⟩
    rw [H1.out]
    go_wp2_with ((go_at_call 30; with_reducible refine Calls.mono (word_Size _ hu _) ?_; rintro e w' ⟨rfl, rfl⟩))
    go_ret
    exact ⟨by rw [H2.out]; rfl, n, rfl⟩

/-- The cell of a field, or what is wrong. -/
def Ar.fieldAt (A : Ar) (x i : Int) : Int × Int := match A.find x with
  | some r => if 0 ≤ i ∧ i < ((A.L.getD r.1 ⟨0, []⟩).fs.length : Nat) then ((adr A.base A.L r.1 : Nat) + i, 0) else (0, 2)
  | none => (0, 6)

set_option maxHeartbeats 800000 in
theorem arena_field {w : World} {a : Nat} {A : Ar} {F : List Nat} (h : IsAr w a A F) (hok : A.ok) (x i : Int) (hx : U64 x) :
    Calls Try.prog 35 #[.pointer (some ⟨a, 0, none⟩), .int .u64 x, .int .i64 i] w fun e w' => e = .returned (.tuple #[.int .i64 (A.fieldAt x i).1, .int .i64 (A.fieldAt x i).2]) ∧ ∃ n, w' = w.drewN n := by
  have hf := Lib.hid (arena_find h hok x hx)
  cases hr : A.find x with
  | none =>
    have H1 := Lib.hid (findAt_no hr)
    have H2 := Lib.hid (show A.fieldAt x i = (0, 6) by unfold Ar.fieldAt; rw [hr])
    clear hr
    go_enter Try.func35, Try.ntmps35
    go_wp2_with (fail)
    refine Calls.mono hf.out ?_
    rintro e w' ⟨rfl, n, rfl⟩
    rw [H1.out]
    go_wp2
    go_ret2
    exact ⟨by rw [H2.out]; rfl, n, rfl⟩
  | some r =>
    obtain ⟨b, hb1, hb2⟩ := find_some hr
    obtain ⟨hb, cb, sv, cells, rfl, p⟩ := h
    obtain ⟨s, hw, HS, s1, s2, s3, s4, hc, hu, hz, _, _⟩ := block_facts p hok hb1
    have ca := p.ba.cell
    have ch := p.bh.cell
    have cc := p.bc.cell
    have H1 := Lib.hid (findAt_yes (i := r.1) (d := r.2) hr)
    have H2 := Lib.hid (show A.fieldAt x i = if 0 ≤ i ∧ i < (b.fs.length : Nat) then (((s : Nat) : Int) + i, 0) else (0, 2) by
      unfold Ar.fieldAt
      rw [hr]
      simp only [List.getD, hb1, Option.getD_some, HS.out])
    clear hr hb1 hb2 p hok
    rw [HS.out] at H1
    by_cases i1 : i < 0
    · go_enter Try.func35, Try.ntmps35
      go_wp2_with (fail)
      refine Calls.mono hf.out ?_
      rintro e w' ⟨rfl, n, rfl⟩
      rw [H1.out]
      go_wp2_with ((go_at_call 30; with_reducible refine Calls.mono (word_Size _ hu _) ?_; rintro e w' ⟨rfl, rfl⟩))
      go_ret2
      exact ⟨by rw [H2.out, if_neg (by omega)]; rfl, _, rfl⟩
    by_cases i2 : i < b.fs.length
    · have i1' : decide (i < 0) = false := by simpa using i1
      have i1'' : 0 ≤ i := by omega
      have i2' : decide ((b.fs.length : Int) ≤ i) = false := by simpa using i2
      go_enter Try.func35, Try.ntmps35
      go_wp2_with (fail)
      refine Calls.mono hf.out ?_
      rintro e w' ⟨rfl, n, rfl⟩
      rw [H1.out]
      go_wp2_with ((go_at_call 30; with_reducible refine Calls.mono (word_Size _ hu _) ?_; rintro e w' ⟨rfl, rfl⟩))
      go_ret2
      exact ⟨by rw [H2.out, if_pos (by omega)]; rfl, _, rfl⟩
    · have i1' : decide (i < 0) = false := by simpa using i1
      go_enter Try.func35, Try.ntmps35
      go_wp2_with (fail)
      refine Calls.mono hf.out ?_
      rintro e w' ⟨rfl, n, rfl⟩
      rw [H1.out]
      go_wp2_with ((go_at_call 30; with_reducible refine Calls.mono (word_Size _ hu _) ?_; rintro e w' ⟨rfl, rfl⟩))
      go_ret2
      exact ⟨by rw [H2.out, if_neg (by omega)]; rfl, _, rfl⟩

end Go.Proofs.Ytcfmemnokecgbaa
