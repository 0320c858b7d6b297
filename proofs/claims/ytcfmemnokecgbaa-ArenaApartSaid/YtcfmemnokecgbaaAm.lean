/- The walks of package arena: Get, Top, Base, Half, Set, Flip. -/
import Derived.Test.YtcfmemnokecgbaaAg
import Derived.StillTailTactics
namespace Go.Proofs.Ytcfmemnokecgbaa
open Go.RowKit

theorem fieldAt_none {A : Ar} {x i : Int} (h : A.find x = none) : A.fieldAt x i = (0, 6) := by unfold Ar.fieldAt; rw [h]
theorem fieldAt_some {A : Ar} {x i : Int} {r : Nat × Nat} {b : Bk} {s : Nat} (h : A.find x = some r) (hb : A.L[r.1]? = some b) (hs : adr A.base A.L r.1 = s) :
    A.fieldAt x i = if 0 ≤ i ∧ i < (b.fs.length : Nat) then (((s : Nat) : Int) + i, 0) else (0, 2) := by
  unfold Ar.fieldAt
  rw [h]
  simp only [List.getD, hb, Option.getD_some, hs]

set_option maxHeartbeats 400000 in
theorem arena_Get {w : World} {a : Nat} {A : Ar} {F : List Nat} (h : IsAr w a A F) (hok : A.ok) (x i : Int) (hx : U64 x) :
    Calls Try.prog 22 #[.pointer (some ⟨a, 0, none⟩), .int .u64 x, .int .i64 i] w fun e w' => e = .returned (.tuple #[.int .u64 (A.getF x i).1, .int .i64 (A.getF x i).2]) ∧ ∃ n, w' = w.drewN n := by
  have hf := Lib.hid (arena_field h hok x i hx)
  cases hr : A.find x with
  | none =>
    have H1 := Lib.hid (fieldAt_none (i := i) hr)
    have H2 := Lib.hid (show A.getF x i = (0, 6) by unfold Ar.getF; rw [find_none hr])
    clear hr
    go_enter Try.func22, Try.ntmps22
    go_wp2_with (fail)
    refine Calls.mono hf.out ?_
    rintro e w' ⟨rfl, n, rfl⟩
    rw [H1.out]
    go_wp2
    go_ret2
    exact ⟨by rw [H2.out]; rfl, n, rfl⟩
  | some r =>
    obtain ⟨b, hb1, hb2⟩ := find_some hr
    obtain ⟨hb, cb, sv, cells, rfl, p⟩ := h
    obtain ⟨s, hw, HS, s1, s2, s3, s4, _, _, _, _, hfs, _⟩ := block_facts p hok hb1
    have ca := p.ba.cell
    have ch := p.bh.cell
    have cc := p.bc.cell
    by_cases hi : 0 ≤ i ∧ i < (b.fs.length : Nat)
    · obtain ⟨k, rfl⟩ := Int.eq_ofNat_of_zero_le hi.1
      have hk : k < b.fs.length := by omega
      obtain ⟨v, hv⟩ : ∃ v, b.fs[k]? = some v := ⟨_, List.getElem?_eq_getElem hk⟩
      have hcv := hfs.out k v hv
      have H1 := Lib.hid (fieldAt_some (i := (k : Int)) hr hb1 HS.out)
      have H2 := Lib.hid (show A.getF x k = (v, 0) by unfold Ar.getF; rw [hb2]; simp only []; rw [if_pos (by omega)]; simp [List.getD, hv])
      clear hr hb1 hb2 p hok hi hv
      go_enter Try.func22, Try.ntmps22
      go_wp2_with (fail)
      refine Calls.mono hf.out ?_
      rintro e w' ⟨rfl, n, rfl⟩
      rw [H1.out, if_pos (by omega)]
      go_wp2
      go_ret2
      exact ⟨by rw [H2.out]; rfl, n, rfl⟩
    · have H1 := Lib.hid (fieldAt_some (i := i) hr hb1 HS.out)
      have H2 := Lib.hid (show A.getF x i = (0, 2) by unfold Ar.getF; rw [hb2]; simp only []; rw [if_neg hi])
      have HI := Lib.hid hi
      clear hr hb1 hb2 p hok hi
      go_enter Try.func22, Try.ntmps22
      go_wp2_with (fail)
      refine Calls.mono hf.out ?_
      rintro e w' ⟨rfl, n, rfl⟩
      rw [H1.out, if_neg HI.out]
      go_wp2
      go_ret2
      exact ⟨by rw [H2.out]; rfl, n, rfl⟩

theorem halves_Top {w : World} {a : Nat} {A : Ar} {hb cb : Nat} {sv : Value} {cells : List Int} (p : IsArP w a A hb cb sv cells) :
    Calls Try.prog 13 #[.pointer (some ⟨hb, 0, none⟩)] w fun e w' => e = .returned (.int .i64 (A.top : Nat)) ∧ w = w' := by
  have ch := p.bh.cell
  clear p
  go_enter Try.func13, Try.ntmps13
  go_wp2
  go_ret
  exact ⟨rfl, rfl⟩
theorem halves_Base {w : World} {a : Nat} {A : Ar} {hb cb : Nat} {sv : Value} {cells : List Int} (p : IsArP w a A hb cb sv cells) :
    Calls Try.prog 17 #[.pointer (some ⟨hb, 0, none⟩)] w fun e w' => e = .returned (.int .i64 (A.base : Nat)) ∧ w = w' := by
  have ch := p.bh.cell
  clear p
  go_enter Try.func17, Try.ntmps17
  go_wp2
  go_ret
  exact ⟨rfl, rfl⟩
theorem halves_Half {w : World} {a : Nat} {A : Ar} {hb cb : Nat} {sv : Value} {cells : List Int} (p : IsArP w a A hb cb sv cells) :
    Calls Try.prog 37 #[.pointer (some ⟨hb, 0, none⟩)] w fun e w' => e = .returned (.int .i64 (A.n : Nat)) ∧ w = w' := by
  have ch := p.bh.cell
  clear p
  go_enter Try.func37, Try.ntmps37
  go_wp2
  go_ret
  exact ⟨rfl, rfl⟩

def Ar.setF (A : Ar) (x i v : Int) : Ar := match A.find x with
  | some r => if 0 ≤ i ∧ i < ((A.L.getD r.1 ⟨0, []⟩).fs.length : Nat) then { A with L := putF A.L r.1 i.toNat v } else A
  | none => A
def Ar.setE (A : Ar) (x i : Int) : Int := (A.fieldAt x i).2

theorem setF_none {A : Ar} {x i v : Int} (h : A.find x = none) : A.setF x i v = A := by unfold Ar.setF; rw [h]
theorem setF_in {A : Ar} {x v : Int} {k : Nat} {r : Nat × Nat} {b : Bk} (h : A.find x = some r) (hb : A.L[r.1]? = some b) (hi : k < b.fs.length) :
    A.setF x k v = { A with L := putF A.L r.1 k v } := by
  unfold Ar.setF
  rw [h]
  simp only [List.getD, hb, Option.getD_some]
  rw [if_pos (by omega)]
  simp
theorem setF_out {A : Ar} {x i v : Int} {r : Nat × Nat} {b : Bk} (h : A.find x = some r) (hb : A.L[r.1]? = some b) (hi : ¬ (0 ≤ i ∧ i < (b.fs.length : Nat))) : A.setF x i v = A := by
  unfold Ar.setF
  rw [h]
  simp only [List.getD, hb, Option.getD_some]
  rw [if_neg hi]

theorem cels_set (l : List Int) (k : Nat) (v : Int) : (cels l).set k (.int .u64 v) = cels (l.set k v) := by simp [cels, List.map_set]

theorem take_set {α : Type} (l : List α) (k n : Nat) (v : α) : (l.set k v).take n = (l.take n).set k v := by
  rw [List.take_set]

/-- The arena behind a field's store. -/
theorem ar_set {w w' : World} {a : Nat} {A : Ar} {hb cb : Nat} {sv : Value} {cells : List Int} (p : IsArP w a A hb cb sv cells) {i k : Nat} {b : Bk} (hi : A.L[i]? = some b) (hk : k < b.fs.length) {s : Nat} (hs : adr A.base A.L i = s) (hsb : A.base < s) {v : Int} (hv : U64 v)
    (hw : w'.heap = (w.setCell ⟨cb, s + k, none⟩ (.int .u64 v)).heap) : IsArP w' a { A with L := putF A.L i k v } hb cb sv (cells.set (s + k) v) := by
  have hbase : ({ A with L := putF A.L i k v } : Ar).base = A.base := rfl
  have htop : ({ A with L := putF A.L i k v } : Ar).top = A.top := by show A.base + (flat (putF A.L i k v)).length = A.base + (flat A.L).length; rw [putF_flat_length]
  have h1 := p.ba.ne p.bc (by decide)
  have h2 := p.bh.ne p.bc (by decide)
  have h3 := p.st.ne p.bc (by decide)
  refine IsArP.eq (w := w.setCell ⟨cb, s + k, none⟩ (.int .u64 v)) ?_ hw
  refine ⟨p.ba.other h1 _ _, ?_, ?_, by simpa using p.len, fun x hx => ?_, ?_, ?_⟩
  · rw [htop]; exact p.bh.other h2 _ _
  · have := p.bc.set (s + k) (.int .u64 v)
    rw [cels_set] at this
    exact this
  · rcases List.mem_or_eq_of_mem_set hx with hx | rfl
    · exact p.u x hx
    · exact hv
  · show ((cells.set (s + k) v).drop A.base).take (flat (putF A.L i k v)).length = flat (putF A.L i k v)
    rw [putF_flat_length, putF_flat A.base A.L i k v b hi hk, hs, List.drop_set, if_neg (by omega), List.take_set, p.fl]
  · show Sl _ sv _ 1 (putF A.L i k v).length (nums (starts A.base (putF A.L i k v)))
    rw [putF_length, putF_starts]
    exact p.st.go (fun k hk => heap_setCell_other w _ k _ (fun e => h3 (by subst e; exact hk)))

set_option maxHeartbeats 400000 in
theorem arena_Set {w : World} {a : Nat} {A : Ar} {F : List Nat} (h : IsAr w a A F) (hok : A.ok) (x i v : Int) (hx : U64 x) (hv : U64 v) :
    Calls Try.prog 20 #[.pointer (some ⟨a, 0, none⟩), .int .u64 x, .int .i64 i, .int .u64 v] w fun e w' => e = .returned (.int .i64 (A.setE x i)) ∧ IsAr w' a (A.setF x i v) F ∧ Upd F F w w' := by
  have hf := Lib.hid (arena_field h hok x i hx)
  have Hh := Lib.hid h
  cases hr : A.find x with
  | none =>
    have H1 := Lib.hid (fieldAt_none (i := i) hr)
    have H2 := Lib.hid (setF_none (i := i) (v := v) hr)
    clear hr
    go_enter Try.func20, Try.ntmps20
    go_wp2_with (fail)
    refine Calls.mono hf.out ?_
    rintro e w' ⟨rfl, n, rfl⟩
    rw [H1.out]
    go_wp2
    go_ret
    exact ⟨by unfold Ar.setE; rw [H1.out]; rfl, by rw [H2.out]; exact Hh.out.drewN n, (Upd.refl F w).drewN n⟩
  | some r =>
    obtain ⟨b, hb1, hb2⟩ := find_some hr
    obtain ⟨hb, cb, sv, cells, rfl, p⟩ := h
    obtain ⟨s, hw, HS, s1, s2, s3, s4, _, _, _, _, hfs, hsb⟩ := block_facts p hok hb1
    have ca := p.ba.cell
    have ch := p.bh.cell
    have cc := p.bc.cell
    have fc := p.bc.free
    by_cases hi : 0 ≤ i ∧ i < (b.fs.length : Nat)
    · obtain ⟨k, rfl⟩ := Int.eq_ofNat_of_zero_le hi.1
      have hk : k < b.fs.length := by omega
      obtain ⟨v0, hv0⟩ : ∃ v, b.fs[k]? = some v := ⟨_, List.getElem?_eq_getElem hk⟩
      have hcv := hfs.out k v0 hv0
      have H1 := Lib.hid (fieldAt_some (i := (k : Int)) hr hb1 HS.out)
      have H2 := Lib.hid (setF_in (v := v) hr hb1 hk)
      have HB := Lib.hid hb1
      clear hr hb1 hb2 hok hi hv0
      go_enter Try.func20, Try.ntmps20
      go_wp2_with (fail)
      refine Calls.mono hf.out ?_
      rintro e w' ⟨rfl, n, rfl⟩
      rw [H1.out, if_pos (by omega)]
      go_wp2
      go_ret
      refine ⟨by unfold Ar.setE; rw [H1.out, if_pos (by omega)]; rfl, ?_, ?_⟩
      · rw [H2.out]
        exact ⟨hb, cb, sv, _, rfl, ar_set p HB.out hk HS.out hsb.out hv rfl⟩
      · exact ((Upd.refl _ w).drewN n).set (by simp) _ _
    · have H1 := Lib.hid (fieldAt_some (i := i) hr hb1 HS.out)
      have H2 := Lib.hid (setF_out (v := v) hr hb1 hi)
      have HI := Lib.hid hi
      clear hr hb1 hb2 p hok hi
      go_enter Try.func20, Try.ntmps20
      go_wp2_with (fail)
      refine Calls.mono hf.out ?_
      rintro e w' ⟨rfl, n, rfl⟩
      rw [H1.out, if_neg HI.out]
      go_wp2
      go_ret
      exact ⟨by unfold Ar.setE; rw [H1.out, if_neg HI.out]; rfl, by rw [H2.out]; exact Hh.out.drewN n, (Upd.refl _ w).drewN n⟩


def Ar.flip (A : Ar) : Ar := ⟨A.n, !A.hi, []⟩

theorem flip_base (A : Ar) : A.flip.base = A.n - A.base := by
  unfold Ar.flip Ar.base
  cases A.hi <;> simp

set_option maxHeartbeats 800000 in
theorem arena_Flip {w : World} {a : Nat} {A : Ar} {F : List Nat} (h : IsAr w a A F) (hok : A.ok) :
    Calls Try.prog 16 #[.pointer (some ⟨a, 0, none⟩)] w fun e w' => e = .returned (.tuple #[]) ∧ (∃ F', IsAr w' a A.flip F' ∧ Upd F F' w w') := by
  obtain ⟨hb, cb, sv, cells, rfl, p⟩ := h
  have ca := p.ba.cell
  have ch := p.bh.cell
  have fa := p.ba.free
  have fh := p.bh.free
  have hne := p.ba.ne p.bh (by decide)
  have hn := hok.2.1
  have hbl := A.base_le
  have e1 : IntKind.i64.wrap ((A.n : Int) - (A.base : Int)) = (A.n : Int) - (A.base : Int) := IntWalk.i64_in _ (by omega)
  go_enter Try.func16, Try.ntmps16
  go_wp2
  go_still_tail 21, (by kernel_rfl)
  change wpList _ _ _ _ _ w.drew
  clear e1
  go_wp2
  go_region
  go_wp2
  go_end0
  have h1 := p.ba.ne p.bc (by decide)
  have h2 := p.bh.ne p.bc (by decide)
  have eb : A.flip.base = A.n - A.base := flip_base A
  have et : A.flip.top = A.n - A.base := by unfold Ar.top; rw [eb]; simp [Ar.flip, flat]
  have ex : Value.int .i64 ((A.n : Int) - (A.base : Int)) = .int .i64 (A.flip.base : Nat) := by rw [eb]; congr 1; omega
  have ex2 : Value.int .i64 ((A.n : Int) - (A.base : Int)) = .int .i64 (A.flip.top : Nat) := by rw [et]; congr 1; omega
  refine ⟨rfl, ?_⟩
  generalize hx : Value.int .i64 ((A.n : Int) - (A.base : Int)) = x at *
  refine ⟨[a, hb, cb], ⟨hb, cb, .slice none 0 0, cells, by simp [own, Value.ownBlock], ⟨?_, ?_, ?_, p.len, p.u, by simp [Ar.flip, flat], Sl.nil _ _ _⟩⟩, ?_⟩
  · exact ((p.ba.other hne 2 x).other hne 3 x).set 1 (.slice none 0 0)
  · show Blk _ _ [_, .int .i64 (A.n : Nat), .int .i64 (A.flip.base : Nat), .int .i64 (A.flip.top : Nat)] _
    rw [← ex, ← ex2]
    exact ((p.bh.set 2 x).set 3 x).other (Ne.symm hne) 1 (.slice none 0 0)
  · exact (((p.bc.other (Ne.symm h2) 2 x).other (Ne.symm h2) 3 x).other (Ne.symm h1) 1 (.slice none 0 0))
  · refine Upd.sub (F' := a :: hb :: cb :: own sv) ?_ (by simp <;> omega)
    exact ((((Upd.refl _ w).set (by simp) _ _).set (by simp) _ _).set (by simp) _ _).drew.drew

theorem flip_ok {A : Ar} (h : A.ok) : A.flip.ok := ⟨h.1, h.2.1, by simp [Ar.flip, flat], by simp [Ar.flip]⟩

end Go.Proofs.Ytcfmemnokecgbaa
