/- The reference's arena: Top, Find. -/
import Derived.Test.YtcfmemnokecgbaaRa
namespace Go.Proofs.Ytcfmemnokecgbaa
open Go.RowKit

theorem flat_take_succ (L : List Bk) (k : Nat) (b : Bk) (h : L[k]? = some b) : (flat (L.take (k + 1))).length = (flat (L.take k)).length + (1 + b.fs.length) := by
  rw [List.take_add_one, h, Option.toList_some, flat_append]
  simp [flat]
  omega
theorem flat_take_le (L : List Bk) (k : Nat) : (flat (L.take k)).length ≤ (flat L).length := by
  have : flat L = flat (L.take k) ++ flat (L.drop k) := by rw [← flat_append, List.take_append_drop]
  rw [this]; simp

set_option maxRecDepth 100000 in
set_option maxHeartbeats 800000 in
theorem ref_Top {w : World} {b : Nat} {A : Ar} {F : List Nat} (h : IsRf w b A F) (hok : A.ok) :
    Calls Try.prog 39 #[.pointer (some ⟨b, 0, none⟩)] w fun e w' => e = .returned (.int .i64 (A.top : Nat)) ∧ ∃ n, w' = w.drewN n := by
  have HB := Lib.hid (ref_Base h hok)
  have hcnt : A.L.length ≤ 32768 := by have := flat_count A.L; have := hok.2.2.1; have := hok.2.1; omega
  have hn := hok.2.1
  have hbl := A.base_le
  have hfl := hok.2.2.1
  have Hok := Lib.hid hok
  obtain ⟨lv, fvs, rfl, p⟩ := h
  have Hp := Lib.hid p
  rcases Nat.eq_zero_or_pos A.L.length with h0 | h0
  · obtain ⟨ad, cap, hlv, _⟩ := p.sl.form
    rw [h0] at hlv
    have H0 := Lib.hid h0
    subst hlv
    have cb := p.bb.cell
    clear p h0 hok
    go_enter Try.func39, Try.ntmps39
    go_wp2_with (fail)
    refine Calls.mono HB.out ?_
    rintro e w' ⟨rfl, n, rfl⟩
    go_wp2
    go_loopw [3, 4] (fun u i wr => u = .int .i64 (A.base : Nat) ∧ i = .int .i64 0 ∧ wr = w.drewN n) (fun _ _ _ => 0)
    case atStart => exact ⟨rfl, rfl, rfl⟩
    case round =>
      obtain ⟨rfl, rfl, rfl⟩ := hrel
      go_wp2
      go_ret
      have hL : A.L = [] := List.eq_nil_of_length_eq_zero H0.out
      have e : A.top = A.base := by unfold Ar.top; rw [hL]; simp [flat]
      exact ⟨by rw [e]; rfl, n, rfl⟩
  · obtain ⟨g, off, cap, hlv, hcap, how, hcell, hfree⟩ := p.sl.atn h0
    subst hlv
    have cb := p.bb.cell
    have HC := Lib.hid hcell
    clear p hok hcell hfree how
    go_enter Try.func39, Try.ntmps39
    go_wp2_with (fail)
    refine Calls.mono HB.out ?_
    rintro e w' ⟨rfl, n, rfl⟩
    go_wp2
    go_loopw [3, 4] (fun u i wr => ∃ k t : Nat, i = .int .i64 k ∧ u = .int .i64 t ∧ k ≤ A.L.length ∧ t ≤ 65536 ∧ Hid (t = A.base + (flat (A.L.take k)).length) ∧ wr = w.drewN n) (fun _ i _ => A.L.length - (intOf i).toNat)
    case atStart => exact ⟨0, A.base, rfl, rfl, by omega, by omega, by show _ = _; simp [flat], rfl⟩
    case round =>
      obtain ⟨k, t, rfl, rfl, hk, ht, HT, rfl⟩ := hrel
      by_cases hlt : k < A.L.length
      · obtain ⟨bk, hbk⟩ : ∃ bk, A.L[k]? = some bk := ⟨_, List.getElem?_eq_getElem hlt⟩
        obtain ⟨fv, hfv⟩ : ∃ fv, fvs[k]? = some fv := ⟨_, List.getElem?_eq_getElem (by rw [Hp.out.lf]; exact hlt)⟩
        obtain ⟨adf, capf, hfvf, hcf, _⟩ := (Hp.out.sf k fv bk hfv hbk).form
        subst hfvf
        have hc1 := HC.out (k * 3 + 2) _ (rcells_get A.base A.L fvs k bk _ hbk hfv).2.2
        rw [← Nat.add_assoc] at hc1
        have hfs := (Hok.out.2.2.2 bk (List.mem_of_getElem? hbk)).2.1
        have hts := flat_take_succ A.L k bk hbk
        have htl := flat_take_le A.L (k + 1)
        have HTS := Lib.hid hts
        have ht2 : t + (1 + bk.fs.length) ≤ 65536 := by have := HT.out; omega
        clear hts htl hfv hbk
        go_wp2
        go_roundw
        case rel => exact ⟨k + 1, t + (1 + bk.fs.length), by go_num, by go_num, by omega, ht2, by show _ = _; rw [HTS.out, HT.out]; omega, by first | rfl | trivial⟩
        case measure => simp [intOf]; omega
      · have hlt' : ¬ ((k : Int) < (A.L.length : Int)) := by omega
        have hkl : k = A.L.length := by omega
        have HK := Lib.hid hkl
        clear hlt hkl
        go_wp2
        go_ret
        have e : A.top = t := by rw [HT.out, HK.out, List.take_of_length_le (Nat.le_refl _)]; rfl
        exact ⟨by rw [e]; rfl, n, rfl⟩

theorem look_inv {p : Nat} {L : List Bk} {x i d : Nat} (h : look p L x = some (i, d)) : ∃ b, L[i]? = some b ∧ adr p L i + d = x ∧ (d = 0 ∨ b.inner d = true) := by
  induction L generalizing p i with
  | nil => simp [look] at h
  | cons b L ih =>
    simp only [look] at h
    split at h
    · cases h
    · split at h
      · cases h; exact ⟨b, by simp, by simp [adr]; omega, .inl rfl⟩
      · split at h
        · split at h
          · rename_i hin
            cases h
            exact ⟨b, by simp, by simp [adr]; omega, .inr hin⟩
          · cases h
        · simp only [Option.map_eq_some_iff] at h
          obtain ⟨⟨i', d'⟩, h1, h2⟩ := h
          cases h2
          obtain ⟨b', hb, ha, hd⟩ := ih h1
          exact ⟨b', by simpa using hb, by simpa [adr] using ha, hd⟩
/-- Nothing is found. -/
theorem look_none {p : Nat} {L : List Bk} {x : Nat} (h1 : ∀ j, j < L.length → adr p L j ≠ x) (h2 : ∀ j b, L[j]? = some b → adr p L j < x → b.inner (x - adr p L j) = false) : look p L x = none := by
  cases h : look p L x with
  | none => rfl
  | some r =>
    obtain ⟨b, hb, ha, hd⟩ := look_inv (i := r.1) (d := r.2) h
    have hl := (List.getElem?_eq_some_iff.1 hb).1
    rcases hd with hd | hd
    · exact absurd (by omega) (h1 r.1 hl)
    · rcases Nat.eq_zero_or_pos r.2 with hz | hz
      · exact absurd (by omega) (h1 r.1 hl)
      · have := h2 r.1 b hb (by omega)
        rw [show x - adr p L r.1 = r.2 by omega] at this
        rw [this] at hd
        cases hd
theorem look_inner {p : Nat} {L : List Bk} {x j : Nat} {b : Bk} (hb : L[j]? = some b) (h1 : adr p L j < x) (h2 : b.inner (x - adr p L j) = true) : look p L x = some (j, x - adr p L j) := by
  have hd : x - adr p L j < b.fs.length := by
    unfold Bk.inner at h2
    simp only [Bool.and_eq_true, decide_eq_true_eq] at h2
    exact h2.1.1
  rw [look_in p L x j b hb h1 (fun hl => by rw [adr_step p L j b hb hl]; omega), h2]
  rfl

def Ar.rfindAt (A : Ar) (x : Int) : Int × Int := match A.find x with
  | some r => ((r.1 : Nat), (r.2 : Nat))
  | none => (-1, 0)
theorem rfindAt_no {A : Ar} {x : Int} (h : A.find x = none) : A.rfindAt x = (-1, 0) := by unfold Ar.rfindAt; rw [h]
theorem rfindAt_yes {A : Ar} {x : Int} {i d : Nat} (h : A.find x = some (i, d)) : A.rfindAt x = (((i : Nat) : Int), ((d : Nat) : Int)) := by unfold Ar.rfindAt; rw [h]

end Go.Proofs.Ytcfmemnokecgbaa
