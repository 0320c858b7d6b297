/- The reference's arena: Set. -/
import Derived.Test.YtcfmemnokecgbaaRh
namespace Go.Proofs.Ytcfmemnokecgbaa
open Go.RowKit

theorem Sl.empty' {w : World} {e : TypeId} {size k : Nat} (hk : k = w.heap.size) : Sl (w.alloc (.cells #[] e)) (.slice (some ⟨k, 0, none⟩) 0 0) e size 0 [] := by
  subst hk
  exact ⟨by simp, .inr ⟨w.heap.size, 0, 0, #[], rfl, heap_alloc_new w _, Nat.le_refl _, by unfold maxLen; omega, by simp, by simp⟩⟩
theorem cels_oneCell' (l : List Int) : ∀ u ∈ cels l, u.oneCell' = true := by
  intro u hu
  simp only [cels, List.mem_map] at hu
  obtain ⟨x, _, rfl⟩ := hu
  rfl
theorem Sl.news {w : World} {e : TypeId} {size n cap : Nat} {ad : Addr} {xs : List Value} (h : Sl w (.slice (some ad) n cap) e size n xs) : ∀ j u, xs[j]? = some u → w.cell? (ad.add j) = some u := by
  obtain ⟨a, c, hv, _, _, _, hh⟩ := h.form
  injection hv with h1 _ _
  exact (hh ad h1.symm).2
theorem Sl.store {w : World} {v : Value} {e : TypeId} {size n : Nat} {xs : List Value} (h : Sl w v e size n xs) {g off cap : Nat} (hv : v = .slice (some ⟨g, off, none⟩) n cap) (k : Nat) (hk : k < n * size) (u : Value) : Sl (w.setCell ⟨g, off + k, none⟩ u) v e size n (xs.set k u) := by
  rcases h.2 with ⟨rfl, h0⟩ | ⟨g', off', cap', cur, hv', hg, h1, h2, h3, h4⟩
  · cases hv
  · rw [hv] at hv'
    injection hv' with e1 _ e3
    injection e1 with e1
    injection e1 with e1 e2
    subst e1 e2 e3
    refine ⟨by simpa using h.1, .inr ⟨g, off, cap, cur.setIfInBounds (off + k) u, hv, heap_setCell_same w g (off + k) cur e u hg, h1, h2, by simpa using h3, ?_⟩⟩
    rw [Array.toList_setIfInBounds, List.drop_set, if_neg (by omega), List.take_set, show off + k - off = k by omega, h4]

theorem rset_end {w w2 : World} {b g off cap i q g3 off3 cap3 : Nat} {A : Ar} {lv fv' : Value} {fvs : List Value} {k : Bk} {v : Int} (p : IsRfP w2 b A lv fvs) (hi : A.L[i]? = some k) (hq : q < k.fs.length)
    (hlv : lv = .slice (some ⟨g, off, none⟩) A.L.length cap) (hg : g ≠ g3) (hs : Sl w2 fv' 28 1 k.fs.length (cels k.fs)) (hfv : fv' = .slice (some ⟨g3, off3, none⟩) k.fs.length cap3)
    (hnew : ∀ m ∈ b :: (own lv ++ fvs.flatMap own), m ≠ g3) (hU : Upd [] (own fv') w w2) :
    IsRf ((w2.setCell ⟨g3, off3 + q, none⟩ (.int .u64 v)).setCell ⟨g, off + i * 3 + 2, none⟩ fv') b { A with L := putF A.L i q v } (b :: (own lv ++ (fvs.set i fv').flatMap own)) ∧
      Upd (b :: (own lv ++ fvs.flatMap own)) (b :: (own lv ++ (fvs.set i fv').flatMap own)) w ((w2.setCell ⟨g3, off3 + q, none⟩ (.int .u64 v)).setCell ⟨g, off + i * 3 + 2, none⟩ fv') := by
  have hil := (List.getElem?_eq_some_iff.1 hi).1
  have hol : own lv = [g] := by rw [hlv]; simp [own, Value.ownBlock]
  have hof : own fv' = [g3] := by rw [hfv]; simp [own, Value.ownBlock]
  have hbg : b ≠ g := fun e => p.sl.ne p.bb (by decide) (by rw [hol, e]; simp)
  have hb3 : b ≠ g3 := hnew b (by simp)
  refine ⟨⟨lv, fvs.set i fv', rfl, (p.bb.other hb3 _ _).other hbg _ _, by simp [p.lf, putF_length], ?_, ?_⟩, ?_⟩
  · show Sl _ _ _ 3 (putF A.L i q v).length (rcells A.base (putF A.L i q v) (fvs.set i fv'))
    rw [← rcells_set A.base A.L fvs i q v fv' p.lf hil, putF_length, Nat.add_assoc]
    exact (p.sl.set (b := g3) (by rw [hol]; simpa using Ne.symm hg) _ _).store hlv _ (by omega) _
  · intro j f kk hf hk
    by_cases hj : j = i
    · subst hj
      rw [List.getElem?_set_self (by rw [p.lf]; exact hil)] at hf
      injection hf with hf
      subst hf
      have hk2 : kk = { k with fs := k.fs.set q v } := by
        show kk = _
        unfold putF at hk
        simp [List.getElem?_modify, hi] at hk
        exact hk.symm
      subst hk2
      simp only [List.length_set]
      have h1 := hs.store hfv q (by omega) (.int .u64 v)
      rw [cels_set] at h1
      exact h1.set (by rw [hof]; simpa using hg) _ _
    · rw [List.getElem?_set_ne (Ne.symm hj)] at hf
      have hk2 : A.L[j]? = some kk := by
        show A.L[j]? = _
        unfold putF at hk
        rw [List.getElem?_modify] at hk
        simp only [if_neg (Ne.symm hj)] at hk
        simpa using hk
      have s := p.sf j f kk hf hk2
      have hm : ∀ m ∈ own f, m ∈ b :: (own lv ++ fvs.flatMap own) := fun m hm => by
        simp only [List.mem_cons, List.mem_append, List.mem_flatMap]
        exact .inr (.inr ⟨f, List.mem_of_getElem? hf, hm⟩)
      exact (s.set (b := g3) (fun h => hnew g3 (hm g3 h) rfl) _ _).set (b := g) (fun h => s.disj p.sl (by decide) g h (by rw [hol]; simp)) _ _
  · have u1 : Upd (b :: (own lv ++ fvs.flatMap own)) (g3 :: (b :: (own lv ++ fvs.flatMap own))) w w2 := hU.weaken (by simp) (fun k hk => by
      rw [hof]
      simp only [List.mem_cons] at hk ⊢
      rcases hk with h | h
      · right; simp [h]
      · left; exact h)
    refine ((u1.set (b := g3) (by simp) _ _).set (b := g) (by rw [hol]; simp) _ _).sub fun m hm => .inl ?_
    simp only [List.mem_cons, List.mem_append, List.mem_flatMap] at hm ⊢
    rcases hm with h | h | ⟨f, hf, h⟩
    · simp [h]
    · simp [h]
    · rcases List.mem_or_eq_of_mem_set hf with hf | rfl
      · exact .inr (.inr (.inr ⟨f, hf, h⟩))
      · rw [hof] at h; simp at h; exact .inl h

set_option maxRecDepth 100000 in
set_option maxHeartbeats 1600000 in
theorem ref_Set {w : World} {b : Nat} {A : Ar} {F : List Nat} (h : IsRf w b A F) (hok : A.ok) (x j v : Int) (hx : U64 x) :
    Calls Try.prog 33 #[.pointer (some ⟨b, 0, none⟩), .int .u64 x, .int .i64 j, .int .u64 v] w fun e w' => e = .returned (.int .i64 (A.setE x j)) ∧ ∃ F', IsRf w' b (A.setF x j v) F' ∧ Upd F F' w w' := by
  have hf := Lib.hid (ref_Find h hok x hx)
  have Hh := Lib.hid h
  obtain ⟨i0, hi, hz0, hz1, hz2⟩ := info_parts Try.infoWord
  cases hr : A.find x with
  | none =>
    have H1 := Lib.hid (rfindAt_no hr)
    have H2 := Lib.hid (fieldAt_none (i := j) hr)
    have H3 := Lib.hid (setF_none (i := j) (v := v) hr)
    clear hr
    go_enter Try.func33, Try.ntmps33
    go_wp2_with (fail)
    refine Calls.mono hf.out ?_
    rintro e w' ⟨rfl, n, rfl⟩
    rw [H1.out]
    go_wp2
    go_ret
    exact ⟨by unfold Ar.setE; rw [H2.out]; rfl, F, by rw [H3.out]; exact Hh.out.drewN n, (Upd.refl F w).drewN n⟩
  | some r =>
    obtain ⟨k, hb1, hb2⟩ := find_some hr
    have hcnt := ar_cnt hok
    have H1 := Lib.hid (rfindAt_yes (i := r.1) (d := r.2) hr)
    have hbok : k.ok := hok.2.2.2 k (List.mem_of_getElem? hb1)
    have hfl := hbok.2.1
    obtain ⟨s, hs⟩ : ∃ s, adr A.base A.L r.1 = s := ⟨_, rfl⟩
    have H2 := Lib.hid (fieldAt_some (i := j) hr hb1 hs)
    have HB := Lib.hid hb1
    have HR := Lib.hid hr
    obtain ⟨i, d⟩ := r
    simp only at H1 H2 HB
    obtain ⟨lv, fvs, hF, p⟩ := h
    have hlt := Lib.hid Hh.out.lt
    by_cases hj : 0 ≤ j ∧ j < (k.fs.length : Nat)
    · obtain ⟨q, rfl⟩ := Int.eq_ofNat_of_zero_le hj.1
      have hqk : q < k.fs.length := by omega
      have H3 := Lib.hid (setF_in (v := v) hr hb1 hqk)
      have H4 := Lib.hid (show A.fieldAt x q = _ from H2.out.trans (if_pos hj))
      clear hr hb1 hb2 hok hbok hs hj
      go_enter Try.func33, Try.ntmps33
      go_wp2_with (fail)
      refine Calls.mono hf.out ?_
      rintro e w1 ⟨rfl, n, hw1⟩
      rw [H1.out]
      have p1 : IsRfP w1 b A lv fvs := by rw [hw1]; exact p.go fun _ _ => rfl
      have hs1 : w1.heap.size = w.heap.size := by rw [hw1]; rfl
      have HW1 := Lib.hid hw1
      have Hp1 := Lib.hid p1
      have cb := p1.bb.cell
      have hbw := p1.bb.lt
      obtain ⟨g, off, cap, fv, hlv, hfv, hcap, hil, c0, c1, c2, fg, HF⟩ := rblk_facts p1 HB.out
      have hgw : g < w1.heap.size := p1.sl.lt g (by rw [hlv]; simp [own, Value.ownBlock])
      obtain ⟨g2, off2, cap2, hfv2, hcap2, _, _⟩ := HF.out.at1 (by omega)
      subst hlv hfv2
      have HFV := Lib.hid hfv
      have FG := Lib.hid fg
      clear p p1 hw1 hs1 hfv fg
      go_wp2_with (at_builtin; go_loud (refine wpList_app _ rfl (.tmp 35) (.tmp 43) 44 rfl 28 i0 (.int .u64 0) 1 8 Try.ulWords hi hz0 hz1 hz2 rfl _ 0 [] rfl (by exact Sl.empty' rfl) ⟨g2, off2, none⟩ k.fs.length cap2 (cels k.fs) rfl (by simp [cels]) (by exact (HF.out.alloc _).news) (cels_oneCell' _) (by unfold maxLen; omega) (by omega) ?go))
      case go =>
        intro ad' cap' w2 hs2 hU2
        try simp only [Nat.zero_add, List.nil_append] at hs2
        try simp only [Nat.zero_add] at hU2
        try simp only [Nat.zero_add]
        have U1 : Upd [] (own (.slice ad' k.fs.length cap')) w1 w2 := (((Upd.refl [] w1).alloc (.cells #[] 28)).sub (F2 := [w1.heap.size]) (by simp)).trans (by
          have e : own (.slice (some ⟨w1.heap.size, 0, none⟩) 0 0) = [w1.heap.size] := by simp [own, Value.ownBlock]
          rw [e] at hU2
          exact hU2)
        obtain ⟨g3, off3, cap3, hv3, hcap3, how3, hcl3, hfr3, _⟩ := hs2.at (by omega)
        injection hv3 with hv3 _ hv4
        subst hv3 hv4
        have hg3 : w1.heap.size ≤ g3 := by
          rcases U1.new g3 (by rw [how3]; simp) with h | h
          · cases h
          · exact h
        have p2 : IsRfP w2 b A _ fvs := Hp1.out.go fun m hm => U1.fr.block m (by
          have := hlt.out m (by rw [hF]; exact hm)
          rw [HW1.out]
          exact this) (by simp)
        have cb2 := p2.bb.cell
        obtain ⟨g', off', cap'', fv', hlv', hfv', _, _, _, _, c22, fg2, _⟩ := rblk_facts p2 HB.out
        rw [HFV.out] at hfv'
        injection hlv' with hl1 _ hl3
        injection hl1 with hl1
        injection hl1 with hl1 hl2
        injection hfv' with hfv'
        subst hl1 hl2 hl3 hfv'
        have hgg : g ≠ g3 := by omega
        have hbg : b ≠ g3 := by omega
        have hbn : b ≠ g := by
          have := p2.sl.ne p2.bb (by decide)
          simpa [own, Value.ownBlock] using this
        obtain ⟨v0, hv0⟩ : ∃ v, k.fs[q]? = some v := ⟨_, List.getElem?_eq_getElem hqk⟩
        have hc3 := hcl3 q (.int .u64 v0) (by simp [cels, hv0])
        have Hs2 := Lib.hid hs2
        have HU1 := Lib.hid U1
        have HP2 := Lib.hid p2
        clear hs2 hU2 U1 hcl3 hv0 p2 cb c0 c1 c2
        go_wp2
        go_ret
        have h2 : w1.heap.size = w.heap.size := by rw [HW1.out]; rfl
        have hnw : ∀ m ∈ F, m ≠ g3 := fun m hm => by
          have := hlt.out m hm
          omega
        rw [hF] at hnw
        have hend := rset_end (v := v) HP2.out HB.out hqk rfl hgg Hs2.out rfl hnw HU1.out
        have h5 : Upd F F w w1 := by rw [HW1.out]; exact (Upd.refl F w).drewN n
        have h6 := hend.1
        rw [← H3.out] at h6
        refine ⟨by unfold Ar.setE; rw [H4.out]; rfl, _, h6, ?_⟩
        rw [hF] at h5
        exact h5.trans hend.2
    · obtain ⟨fa, fc, hfvf, _⟩ : ∃ (fa : Option Addr) (fc : Nat), True ∧ True := ⟨none, 0, trivial, trivial⟩
      have H3 := Lib.hid (setF_out (v := v) hr hb1 hj)
      have H4 := Lib.hid (show A.fieldAt x j = _ from H2.out.trans (if_neg hj))
      obtain ⟨g, off, cap, fv, rfl, -, hcap, hil, c0, c1, c2, -, HF⟩ := rblk_facts p HB.out
      obtain ⟨fa, fc, rfl, _⟩ := HF.out.form
      have cb := p.bb.cell
      have hj2 : j < 0 ∨ (k.fs.length : Int) ≤ j := by omega
      clear hr hb1 hb2 hok hbok hs hj p
      rcases hj2 with hj | hj
      all_goals
        go_enter Try.func33, Try.ntmps33
        go_wp2_with (fail)
        refine Calls.mono hf.out ?_
        rintro e w' ⟨rfl, n, rfl⟩
        rw [H1.out]
        go_wp2
        go_ret
        exact ⟨by unfold Ar.setE; rw [H4.out]; rfl, F, by rw [H3.out]; exact Hh.out.drewN n, (Upd.refl F w).drewN n⟩

end Go.Proofs.Ytcfmemnokecgbaa
