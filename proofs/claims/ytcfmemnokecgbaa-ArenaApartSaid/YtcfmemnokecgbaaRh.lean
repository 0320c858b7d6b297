/- The reference's arena: Alloc of any numbers, Leads, Tag, Size, Get. -/
import Derived.Test.YtcfmemnokecgbaaRg
namespace Go.Proofs.Ytcfmemnokecgbaa
open Go.RowKit

theorem ref_Alloc {w : World} {b : Nat} {A : Ar} {F : List Nat} (h : IsRf w b A F) (hok : A.ok) (tag size : Int) :
    Calls Try.prog 32 #[.pointer (some ⟨b, 0, none⟩), .int .i64 tag, .int .i64 size] w fun e w' =>
      e = .returned (.tuple #[.int .u64 (A.allocR tag size).2.1, .int .i64 (A.allocR tag size).2.2]) ∧ ∃ F', IsRf w' b (A.allocR tag size).1 F' ∧ Upd F F' w w' := by
  by_cases ht : TagOk tag
  · by_cases hs : size < 0 ∨ 4096 < size
    · have e1 : A.allocR tag size = (A, (0, 2)) := by unfold Ar.allocR; rw [if_neg (by simpa using ht), if_pos hs]
      rw [e1]
      refine (ralloc_range tag size ht hs).mono ?_
      rintro e w' ⟨rfl, n, rfl⟩
      exact ⟨rfl, F, h.drewN n, (Upd.refl F w).drewN n⟩
    · obtain ⟨sz, rfl⟩ := Int.eq_ofNat_of_zero_le (show 0 ≤ size by omega)
      by_cases hf : A.base + A.n < A.top + sz + 1
      · have e1 : A.allocR tag sz = (A, (0, 10)) := by unfold Ar.allocR; rw [if_neg (by simpa using ht), if_neg hs, if_pos (by simpa using hf)]
        rw [e1]
        refine (ralloc_full h hok tag sz ht (by omega) hf).mono ?_
        rintro e w' ⟨rfl, n, rfl⟩
        exact ⟨rfl, F, h.drewN n, (Upd.refl F w).drewN n⟩
      · obtain ⟨tg, rfl⟩ := Int.eq_ofNat_of_zero_le (show 0 ≤ tag by unfold TagOk at ht; omega)
        have e1 : A.allocR tg sz = (A.alloc tg sz, (wPtr ((A.top : Int) + 1), 0)) := by unfold Ar.allocR; rw [if_neg (by simpa using ht), if_neg hs, if_neg (by simpa using hf)]; simp
        rw [e1]
        exact ralloc_room h hok tg sz ht (by omega) (by omega)
  · have e1 : A.allocR tag size = (A, (0, 1)) := by unfold Ar.allocR; rw [if_pos (by simpa using ht)]
    rw [e1]
    refine (ralloc_arg tag size ht).mono ?_
    rintro e w' ⟨rfl, n, rfl⟩
    exact ⟨rfl, F, h.drewN n, (Upd.refl F w).drewN n⟩

/-- What is known of a block of the reference. -/
theorem rblk_facts {w : World} {b : Nat} {A : Ar} {lv : Value} {fvs : List Value} (p : IsRfP w b A lv fvs) {i : Nat} {k : Bk} (hi : A.L[i]? = some k) :
    ∃ g off cap fv, lv = .slice (some ⟨g, off, none⟩) A.L.length cap ∧ fvs[i]? = some fv ∧ A.L.length ≤ cap ∧ i < A.L.length ∧
      w.cell? ⟨g, off + i * 3, none⟩ = some (.int .i64 (adr A.base A.L i : Nat)) ∧ w.cell? ⟨g, off + i * 3 + 1, none⟩ = some (.int .i64 (k.tag : Nat)) ∧ w.cell? ⟨g, off + i * 3 + 2, none⟩ = some fv ∧
      (∀ o, w.frozen? ⟨g, o, none⟩ = false) ∧ Hid (Sl w fv 28 1 k.fs.length (cels k.fs)) := by
  have hil := (List.getElem?_eq_some_iff.1 hi).1
  obtain ⟨g, off, cap, hlv, hcap, how, hcell, hfree⟩ := p.sl.atn (by omega)
  obtain ⟨fv, hfv⟩ : ∃ fv, fvs[i]? = some fv := ⟨_, List.getElem?_eq_getElem (by rw [p.lf]; exact hil)⟩
  obtain ⟨c0, c1, c2⟩ := rcells_get A.base A.L fvs i k fv hi hfv
  exact ⟨g, off, cap, fv, hlv, hfv, hcap, hil, hcell _ _ c0, by rw [Nat.add_assoc]; exact hcell _ _ c1, by rw [Nat.add_assoc]; exact hcell _ _ c2, hfree, p.sf i fv k hfv hi⟩

theorem ar_cnt {A : Ar} (hok : A.ok) : A.L.length ≤ 32768 := by have := flat_count A.L; have := hok.2.2.1; have := hok.2.1; omega


set_option maxHeartbeats 400000 in
theorem ref_Leads {w : World} {b : Nat} {A : Ar} {F : List Nat} (h : IsRf w b A F) (hok : A.ok) (x : Int) (hx : U64 x) :
    Calls Try.prog 46 #[.pointer (some ⟨b, 0, none⟩), .int .u64 x] w fun e w' => e = .returned (.tuple #[.int .u64 (A.leads x).1, .int .i64 (A.leads x).2]) ∧ ∃ n, w' = w.drewN n := by
  have hf := Lib.hid (ref_Find h hok x hx)
  cases hr : A.find x with
  | none =>
    have H1 := Lib.hid (rfindAt_no hr)
    have H2 := Lib.hid (show A.leads x = (0, 0) by unfold Ar.leads; rw [hr])
    clear hr
    go_enter Try.func46, Try.ntmps46
    go_wp2_with (fail)
    refine Calls.mono hf.out ?_
    rintro e w' ⟨rfl, n, rfl⟩
    rw [H1.out]
    go_wp2
    go_ret2
    exact ⟨by rw [H2.out]; rfl, n, rfl⟩
  | some r =>
    have hsz : adr A.base A.L r.1 ≤ 65536 := by
      obtain ⟨k, hb1, _⟩ := find_some hr
      have hhi := adr_hi A.base A.L r.1 k hb1
      have hbl := A.base_le
      have hfl := hok.2.2.1
      have := hok.2.1
      omega
    obtain ⟨k, hb1, hb2⟩ := find_some hr
    have hcnt := ar_cnt hok
    obtain ⟨lv, fvs, rfl, p⟩ := h
    have cb := p.bb.cell
    obtain ⟨g, off, cap, fv, rfl, -, hcap, hil, c0, c1, c2, -, HF⟩ := rblk_facts p hb1
    have H1 := Lib.hid (rfindAt_yes (i := r.1) (d := r.2) hr)
    have H2 := Lib.hid (show A.leads x = (wPtr (adr A.base A.L r.1 : Nat), ((r.2 : Nat) : Int)) by unfold Ar.leads; rw [hr])
    have hbok : k.ok := hok.2.2.2 k (List.mem_of_getElem? hb1)
    have htag := hbok.1
    have hfl := hbok.2.1
    clear hr hb1 hb2 p hok hbok
    obtain ⟨i, d⟩ := r
    simp only at c0 c1 c2 H1 H2 hil
    generalize adr A.base A.L i = s at *
    go_enter Try.func46, Try.ntmps46
    go_wp2_with (fail)
    refine Calls.mono hf.out ?_
    rintro e w' ⟨rfl, n, rfl⟩
    rw [H1.out]
    go_wp2_with ((go_at_call 23; with_reducible refine Calls.mono (ref_Ptr _ _ (by unfold I64; omega)) ?_; rintro e w' ⟨rfl, rfl⟩))
    go_ret2
    exact ⟨by rw [H2.out]; rfl, n, rfl⟩

set_option maxHeartbeats 400000 in
theorem ref_Tag {w : World} {b : Nat} {A : Ar} {F : List Nat} (h : IsRf w b A F) (hok : A.ok) (x : Int) (hx : U64 x) :
    Calls Try.prog 48 #[.pointer (some ⟨b, 0, none⟩), .int .u64 x] w fun e w' => e = .returned (.int .i64 (A.tagOf x)) ∧ ∃ n, w' = w.drewN n := by
  have hf := Lib.hid (ref_Find h hok x hx)
  cases hr : A.find x with
  | none =>
    have H1 := Lib.hid (rfindAt_no hr)
    have H2 := Lib.hid (show A.tagOf x = -1 by unfold Ar.tagOf; rw [find_none hr])
    clear hr
    go_enter Try.func48, Try.ntmps48
    go_wp2_with (fail)
    refine Calls.mono hf.out ?_
    rintro e w' ⟨rfl, n, rfl⟩
    rw [H1.out]
    go_wp2
    go_ret
    exact ⟨by rw [H2.out]; rfl, n, rfl⟩
  | some r =>
    obtain ⟨k, hb1, hb2⟩ := find_some hr
    have hcnt := ar_cnt hok
    obtain ⟨lv, fvs, rfl, p⟩ := h
    have cb := p.bb.cell
    obtain ⟨g, off, cap, fv, rfl, -, hcap, hil, c0, c1, c2, -, HF⟩ := rblk_facts p hb1
    have H1 := Lib.hid (rfindAt_yes (i := r.1) (d := r.2) hr)
    have H2 := Lib.hid (show A.tagOf x = k.tag by unfold Ar.tagOf; rw [hb2])
    have hbok : k.ok := hok.2.2.2 k (List.mem_of_getElem? hb1)
    have htag := hbok.1
    have hfl := hbok.2.1
    clear hr hb1 hb2 p hok hbok
    obtain ⟨i, d⟩ := r
    simp only at c0 c1 c2 H1 H2 hil
    go_enter Try.func48, Try.ntmps48
    go_wp2_with (fail)
    refine Calls.mono hf.out ?_
    rintro e w' ⟨rfl, n, rfl⟩
    rw [H1.out]
    go_wp2
    go_ret
    exact ⟨by rw [H2.out]; rfl, n, rfl⟩

set_option maxHeartbeats 400000 in
theorem ref_Size {w : World} {b : Nat} {A : Ar} {F : List Nat} (h : IsRf w b A F) (hok : A.ok) (x : Int) (hx : U64 x) :
    Calls Try.prog 49 #[.pointer (some ⟨b, 0, none⟩), .int .u64 x] w fun e w' => e = .returned (.int .i64 (A.sizeOf x)) ∧ ∃ n, w' = w.drewN n := by
  have hf := Lib.hid (ref_Find h hok x hx)
  cases hr : A.find x with
  | none =>
    have H1 := Lib.hid (rfindAt_no hr)
    have H2 := Lib.hid (show A.sizeOf x = -1 by unfold Ar.sizeOf; rw [find_none hr])
    clear hr
    go_enter Try.func49, Try.ntmps49
    go_wp2_with (fail)
    refine Calls.mono hf.out ?_
    rintro e w' ⟨rfl, n, rfl⟩
    rw [H1.out]
    go_wp2
    go_ret
    exact ⟨by rw [H2.out]; rfl, n, rfl⟩
  | some r =>
    obtain ⟨k, hb1, hb2⟩ := find_some hr
    have hcnt := ar_cnt hok
    obtain ⟨lv, fvs, rfl, p⟩ := h
    have cb := p.bb.cell
    obtain ⟨g, off, cap, fv, rfl, -, hcap, hil, c0, c1, c2, -, HF⟩ := rblk_facts p hb1
    have H1 := Lib.hid (rfindAt_yes (i := r.1) (d := r.2) hr)
    have H2 := Lib.hid (show A.sizeOf x = k.fs.length by unfold Ar.sizeOf; rw [hb2])
    have hbok : k.ok := hok.2.2.2 k (List.mem_of_getElem? hb1)
    have htag := hbok.1
    have hfl := hbok.2.1
    clear hr hb1 hb2 p hok hbok
    obtain ⟨i, d⟩ := r
    simp only at c0 c1 c2 H1 H2 hil
    obtain ⟨fa, fc, rfl, _⟩ := HF.out.form
    go_enter Try.func49, Try.ntmps49
    go_wp2_with (fail)
    refine Calls.mono hf.out ?_
    rintro e w' ⟨rfl, n, rfl⟩
    rw [H1.out]
    go_wp2
    go_ret
    exact ⟨by rw [H2.out]; rfl, n, rfl⟩

set_option maxHeartbeats 400000 in
theorem ref_Get {w : World} {b : Nat} {A : Ar} {F : List Nat} (h : IsRf w b A F) (hok : A.ok) (x j : Int) (hx : U64 x) :
    Calls Try.prog 47 #[.pointer (some ⟨b, 0, none⟩), .int .u64 x, .int .i64 j] w fun e w' => e = .returned (.tuple #[.int .u64 (A.getF x j).1, .int .i64 (A.getF x j).2]) ∧ ∃ n, w' = w.drewN n := by
  have hf := Lib.hid (ref_Find h hok x hx)
  cases hr : A.find x with
  | none =>
    have H1 := Lib.hid (rfindAt_no hr)
    have H2 := Lib.hid (show A.getF x j = (0, 6) by unfold Ar.getF; rw [find_none hr])
    clear hr
    go_enter Try.func47, Try.ntmps47
    go_wp2_with (fail)
    refine Calls.mono hf.out ?_
    rintro e w' ⟨rfl, n, rfl⟩
    rw [H1.out]
    go_wp2
    go_ret2
    exact ⟨by rw [H2.out]; rfl, n, rfl⟩
  | some r =>
    obtain ⟨k, hb1, hb2⟩ := find_some hr
    have hcnt := ar_cnt hok
    obtain ⟨lv, fvs, rfl, p⟩ := h
    have cb := p.bb.cell
    obtain ⟨g, off, cap, fv, rfl, -, hcap, hil, c0, c1, c2, -, HF⟩ := rblk_facts p hb1
    have H1 := Lib.hid (rfindAt_yes (i := r.1) (d := r.2) hr)
    have H2 := Lib.hid (show A.getF x j = if 0 ≤ j ∧ j < (k.fs.length : Nat) then (k.fs.getD j.toNat 0, 0) else (0, 2) by unfold Ar.getF; rw [hb2])
    have hbok : k.ok := hok.2.2.2 k (List.mem_of_getElem? hb1)
    have htag := hbok.1
    have hfl := hbok.2.1
    clear hr hb1 hb2 p hok hbok
    obtain ⟨i, d⟩ := r
    simp only at c0 c1 c2 H1 H2 hil
    by_cases hj : 0 ≤ j ∧ j < (k.fs.length : Nat)
    · obtain ⟨q, rfl⟩ := Int.eq_ofNat_of_zero_le hj.1
      have hqk : q < k.fs.length := by omega
      obtain ⟨v0, hv0⟩ : ∃ v, k.fs[q]? = some v := ⟨_, List.getElem?_eq_getElem hqk⟩
      obtain ⟨g2, off2, cap2, rfl, hcap2, _, hcl⟩ := HF.out.at1 (by omega)
      have hc := hcl q (.int .u64 v0) (by simp [cels, hv0])
      have H3 := Lib.hid (show A.getF x q = (v0, 0) by rw [H2.out, if_pos hj]; simp [List.getD, hv0])
      clear hcl hv0 hj
      go_enter Try.func47, Try.ntmps47
      go_wp2_with (fail)
      refine Calls.mono hf.out ?_
      rintro e w' ⟨rfl, n, rfl⟩
      rw [H1.out]
      go_wp2
      go_ret2
      exact ⟨by rw [H3.out]; rfl, n, rfl⟩
    · obtain ⟨fa, fc, rfl, _⟩ := HF.out.form
      have H3 := Lib.hid (show A.getF x j = (0, 2) by rw [H2.out, if_neg hj])
      have hj2 : j < 0 ∨ (k.fs.length : Int) ≤ j := by omega
      clear hj
      rcases hj2 with hj | hj
      all_goals
        go_enter Try.func47, Try.ntmps47
        go_wp2_with (fail)
        refine Calls.mono hf.out ?_
        rintro e w' ⟨rfl, n, rfl⟩
        rw [H1.out]
        go_wp2
        go_ret2
        exact ⟨by rw [H3.out]; rfl, n, rfl⟩

end Go.Proofs.Ytcfmemnokecgbaa
