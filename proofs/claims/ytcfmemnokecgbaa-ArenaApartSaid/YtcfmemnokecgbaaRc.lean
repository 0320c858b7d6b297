/- The reference's arena: Find. -/
import Derived.Test.YtcfmemnokecgbaaRb
namespace Go.Proofs.Ytcfmemnokecgbaa
open Go.RowKit


set_option maxRecDepth 100000 in
set_option maxHeartbeats 1600000 in
theorem ref_Find {w : World} {b : Nat} {A : Ar} {F : List Nat} (h : IsRf w b A F) (hok : A.ok) (x : Int) (hx : U64 x) :
    Calls Try.prog 45 #[.pointer (some ⟨b, 0, none⟩), .int .u64 x] w fun e w' => e = .returned (.tuple #[.int .i64 (A.rfindAt x).1, .int .i64 (A.rfindAt x).2]) ∧ ∃ n, w' = w.drewN n := by
  have hq := wAddr_b hx
  by_cases h1 : wIsInt x = true
  · have H := Lib.hid (rfindAt_no (find_int (A := A) h1))
    clear hq hok h
    go_enter Try.func45, Try.ntmps45
    go_wp2_with (first | (go_at_call 53; with_reducible refine Calls.mono (ref_IsInt _ hx _) ?_; rintro e w' ⟨rfl, rfl⟩) | (go_at_call 54; with_reducible refine Calls.mono (ref_Addr _ hx _) ?_; rintro e w' ⟨rfl, rfl⟩))
    go_ret2
    exact ⟨by rw [H.out]; rfl, 0, rfl⟩
  by_cases h2 : wAddr x = 0
  · have H := Lib.hid (rfindAt_no (find_zero (A := A) h2))
    clear hq hok h
    go_enter Try.func45, Try.ntmps45
    go_wp2_with (first | (go_at_call 53; with_reducible refine Calls.mono (ref_IsInt _ hx _) ?_; rintro e w' ⟨rfl, rfl⟩) | (go_at_call 54; with_reducible refine Calls.mono (ref_Addr _ hx _) ?_; rintro e w' ⟨rfl, rfl⟩))
    go_ret2
    exact ⟨by rw [H.out]; rfl, 0, rfl⟩
  obtain ⟨y, hy⟩ := Int.eq_ofNat_of_zero_le hq.1
  have h1' : wIsInt x = false := by simpa using h1
  have Hf := Lib.hid (find_look (A := A) h1' hy h2)
  have Hy := Lib.hid hy
  have hb0 : ((y : Int) == 0) = false := by rw [← hy]; simpa using h2
  have hym : (y : Int) ≤ 2147483647 := by omega
  clear h1 h2 hy hq
  have hcnt : A.L.length ≤ 32768 := by have := flat_count A.L; have := hok.2.2.1; have := hok.2.1; omega
  have Hok := Lib.hid hok
  obtain ⟨lv, fvs, rfl, p⟩ := h
  have Hp := Lib.hid p
  rcases Nat.eq_zero_or_pos A.L.length with h0 | h0
  · obtain ⟨ad, cap, hlv, _⟩ := p.sl.form
    rw [h0] at hlv
    have hL : A.L = [] := List.eq_nil_of_length_eq_zero h0
    have H := Lib.hid (rfindAt_no (A := A) (x := x) (by rw [Hf.out, hL]; rfl))
    subst hlv
    have cb := p.bb.cell
    clear p h0 hok hL
    go_enter Try.func45, Try.ntmps45
    go_wp2_with (first | (go_at_call 53; with_reducible refine Calls.mono (ref_IsInt _ hx _) ?_; rintro e w' ⟨rfl, rfl⟩) | (go_at_call 54; with_reducible refine Calls.mono (ref_Addr _ hx _) ?_; rintro e w' ⟨rfl, rfl⟩; rw [Hy.out]))
    go_loopw [7] (fun i wr => i = .int .i64 0 ∧ wr = w) (fun _ _ => 0)
    case atStart => exact ⟨rfl, rfl⟩
    case round =>
      obtain ⟨rfl, rfl⟩ := hrel
      go_wp2
      go_loopw [8] (fun i wr2 => i = .int .i64 0 ∧ wr2 = wr) (fun _ _ => 0)
      case atStart => exact ⟨rfl, rfl⟩
      case round =>
        obtain ⟨rfl, rfl⟩ := hrel
        go_wp2
        go_ret2
        exact ⟨by rw [H.out]; rfl, 0, rfl⟩
  · obtain ⟨g, off, cap, hlv, hcap, how, hcell, hfree⟩ := p.sl.atn h0
    subst hlv
    have cb := p.bb.cell
    have HC := Lib.hid hcell
    clear p hok hcell hfree how
    go_enter Try.func45, Try.ntmps45
    go_wp2_with (first | (go_at_call 53; with_reducible refine Calls.mono (ref_IsInt _ hx _) ?_; rintro e w' ⟨rfl, rfl⟩) | (go_at_call 54; with_reducible refine Calls.mono (ref_Addr _ hx _) ?_; rintro e w' ⟨rfl, rfl⟩; rw [Hy.out]))
    go_loopw [7] (fun i wr => ∃ k : Nat, i = .int .i64 k ∧ k ≤ A.L.length ∧ Hid (∀ j, j < k → adr A.base A.L j ≠ y) ∧ wr = w) (fun i _ => A.L.length - (intOf i).toNat)
    case atStart => exact ⟨0, rfl, by omega, fun j hj => absurd hj (Nat.not_lt_zero j), rfl⟩
    case round =>
      obtain ⟨k, rfl, hk, HK, rfl⟩ := hrel
      by_cases hlt : k < A.L.length
      · obtain ⟨bk, hbk⟩ : ∃ bk, A.L[k]? = some bk := ⟨_, List.getElem?_eq_getElem hlt⟩
        obtain ⟨fv, hfv⟩ : ∃ fv, fvs[k]? = some fv := ⟨_, List.getElem?_eq_getElem (by rw [Hp.out.lf]; exact hlt)⟩
        have hc1 := HC.out (k * 3) _ (rcells_get A.base A.L fvs k bk _ hbk hfv).1
        clear hbk hfv
        obtain ⟨s, hs⟩ : ∃ s, adr A.base A.L k = s := ⟨_, rfl⟩
        rw [hs] at hc1
        by_cases hsy : s = y
        · subst hsy
          have H := Lib.hid (rfindAt_yes (A := A) (x := x) (i := k) (d := 0) (by rw [Hf.out]; exact look_found _ _ _ _ hlt hs))
          clear hs
          go_wp2
          go_ret2
          exact ⟨by rw [H.out]; rfl, 0, rfl⟩
        · have hsb : ((s : Int) == (y : Int)) = false := by rw [beq_eq_false_iff_ne]; omega
          have HS := Lib.hid hs
          have HN := Lib.hid hsy
          clear hs hsy
          go_wp2
          go_roundw
          case rel =>
            refine ⟨k + 1, by go_num, by omega, fun j hj => ?_, by first | rfl | trivial⟩
            by_cases e : j = k
            · rw [e, HS.out]; exact HN.out
            · exact HK.out j (by omega)
          case measure => simp [intOf]; omega
      · have hlt' : ¬ ((k : Int) < (A.L.length : Int)) := by omega
        have hkl : k = A.L.length := by omega
        rw [hkl] at HK
        clear hlt hkl
        go_wp2
        obtain ⟨w1, rfl⟩ : ∃ wo : World, wo = wr := ⟨_, rfl⟩
        go_loopw [8] (fun i wr2 => ∃ k n : Nat, i = .int .i64 k ∧ k ≤ A.L.length ∧ Hid (∀ j b, j < k → A.L[j]? = some b → adr A.base A.L j < y → b.inner (y - adr A.base A.L j) = false) ∧ wr2 = w1.drewN n) (fun i _ => A.L.length - (intOf i).toNat)
        case atStart => exact ⟨0, 0, rfl, by omega, fun j b hj => absurd hj (Nat.not_lt_zero j), rfl⟩
        case round =>
          obtain ⟨k2, n, rfl, hk2, HK2, rfl⟩ := hrel
          by_cases hlt : k2 < A.L.length
          · obtain ⟨bk, hbk⟩ : ∃ bk, A.L[k2]? = some bk := ⟨_, List.getElem?_eq_getElem hlt⟩
            obtain ⟨fv, hfv⟩ : ∃ fv, fvs[k2]? = some fv := ⟨_, List.getElem?_eq_getElem (by rw [Hp.out.lf]; exact hlt)⟩
            have hsf := Hp.out.sf k2 fv bk hfv hbk
            have hrc := rcells_get A.base A.L fvs k2 bk _ hbk hfv
            have hc1 := HC.out (k2 * 3) _ hrc.1
            have hc2 := HC.out (k2 * 3 + 1) _ hrc.2.1
            have hc3 := HC.out (k2 * 3 + 2) _ hrc.2.2
            rw [← Nat.add_assoc] at hc2 hc3
            have hbok := Hok.out.2.2.2 bk (List.mem_of_getElem? hbk)
            have hfl := hbok.2.1
            have hhi := adr_hi A.base A.L k2 bk hbk
            have hne := HK.out k2 hlt
            have hbl := A.base_le
            have hfl2 := Hok.out.2.2.1
            have hn := Hok.out.2.1
            obtain ⟨s, hs⟩ : ∃ s, adr A.base A.L k2 = s := ⟨_, rfl⟩
            rw [hs] at hc1 hhi hne
            have HS := Lib.hid hs
            have HB := Lib.hid hbk
            have hsy : s < 100000 := by omega
            have hstep : (s < y → bk.inner (y - s) = false) → Hid (∀ j b, j < k2 + 1 → A.L[j]? = some b → adr A.base A.L j < y → b.inner (y - adr A.base A.L j) = false) := by
              intro hi j b hj hb hlt2
              by_cases e : j = k2
              · subst e
                rw [HB.out] at hb
                cases hb
                rw [HS.out] at hlt2 ⊢
                exact hi hlt2
              · exact HK2.out j b (by omega) hb hlt2
            have HST := Lib.hid hstep
            have e1 : IntKind.i64.wrap ((y : Int) - (s : Int) - 1) = (y : Int) - (s : Int) - 1 := IntWalk.i64_in _ (by omega)
            clear hbk hfv hrc hbok hfl2 hs hhi hstep
            by_cases t1 : bk.tag = 200
            · have t1' : ((bk.tag : Int) == 200) = true := by rw [t1]; rfl
              by_cases t2 : s < y
              · have t2' : (1 : Int) ≤ (y : Int) - (s : Int) := by omega
                by_cases t3 : y - s < bk.fs.length
                · have t3' : (y : Int) - (s : Int) < (bk.fs.length : Int) := by omega
                  obtain ⟨v, hv⟩ : ∃ v, bk.fs[y - s - 1]? = some v := ⟨_, List.getElem?_eq_getElem (by omega)⟩
                  obtain ⟨gf, offf, capf, hfvf, hcf, _, hcellf, _⟩ := hsf.atn (by omega)
                  subst hfvf
                  have hcv := hcellf (y - s - 1) (.int .u64 v) (by simp [cels, hv])
                  have hix : ((y : Int) - (s : Int) - 1).toNat = y - s - 1 := by omega
                  have hi1 : (0 : Int) ≤ (y : Int) - (s : Int) - 1 := by omega
                  have hi2 : (y : Int) - (s : Int) - 1 < (bk.fs.length : Int) := by omega
                  have hd : wHead 201 ((y : Int) - (s : Int)) = wHead 201 ((y - s : Nat) : Int) := by congr 1; omega
                  have HRH := Lib.hid (fun W : World => ref_Head 201 ((y : Int) - (s : Int)) W (by unfold I64; omega) (by unfold I64; omega))
                  by_cases t4 : v = wHead 201 ((y : Int) - (s : Int))
                  · have hin : bk.inner (y - s) = true := by
                      simp only [Bk.inner, List.getD, hv, Option.getD_some, ← hd, ← t4]
                      simp [t1, t3]
                    have H := Lib.hid (rfindAt_yes (A := A) (x := x) (i := k2) (d := y - s) (by
                      rw [Hf.out]
                      have := look_inner (x := y) HB.out (by rw [HS.out]; exact t2) (by rw [HS.out]; exact hin)
                      rw [HS.out] at this
                      exact this))
                    have HYS := Lib.hid (show (((y - s : Nat)) : Int) = (y : Int) - (s : Int) by omega)
                    have t4' : (v == wHead 201 ((y : Int) - (s : Int))) = true := by simpa using t4
                    clear hcellf hv hin hd t4 t1 t3 hsf
                    go_wp2
                    go_quiet ((go_at_call 19; with_reducible exact qsame2 (HRH.out _)))
                    go_wp2
                    go_ret2
                    exact ⟨by rw [H.out, HYS.out]; rfl, n + nq, by simp⟩
                  · have hin : bk.inner (y - s) = false := by
                      have t5 : (v == wHead 201 ((y - s : Nat) : Int)) = false := by rw [← hd]; simpa using t4
                      simp only [Bk.inner, List.getD, hv, Option.getD_some, t5, Bool.and_false]
                    have HI := HST.out (fun _ => hin)
                    have t4' : (v == wHead 201 ((y : Int) - (s : Int))) = false := by simpa using t4
                    clear hcellf hv hin hd t4 t1 t3 hsf
                    go_wp2
                    go_quiet ((go_at_call 19; with_reducible exact qsame2 (HRH.out _)))
                    go_wp2
                    go_roundw
                    case rel => exact ⟨k2 + 1, n + nq, by go_num, by omega, HI, by first | rfl | exact World.drewN_drewN ..⟩
                    case measure => simp [intOf]; omega
                · have HI := HST.out (fun _ => by simp [Bk.inner, t3])
                  have t3' : decide ((y : Int) - (s : Int) < (bk.fs.length : Int)) = false := by simp; omega
                  obtain ⟨adf, capf, hfvf, _⟩ := hsf.form
                  subst hfvf
                  clear t1 t3 hsf e1
                  go_wp2
                  go_quiet (fail)
                  go_wp2
                  go_roundw
                  case rel => exact ⟨k2 + 1, n + nq, by go_num, by omega, HI, by first | rfl | exact World.drewN_drewN ..⟩
                  case measure => simp [intOf]; omega
              · have HI := HST.out (fun h => absurd h t2)
                have t2' : decide ((1 : Int) ≤ (y : Int) - (s : Int)) = false := by simp; omega
                clear t1 t2 hsf e1
                go_wp2
                go_quiet (fail)
                go_wp2
                go_roundw
                case rel => exact ⟨k2 + 1, n + nq, by go_num, by omega, HI, by first | rfl | exact World.drewN_drewN ..⟩
                case measure => simp [intOf]; omega
            · have HI := HST.out (fun _ => by simp [Bk.inner, t1])
              have t1' : ((bk.tag : Int) == 200) = false := by rw [beq_eq_false_iff_ne]; omega
              clear t1 hsf e1
              go_wp2
              go_quiet (fail)
              go_wp2
              go_roundw
              case rel => exact ⟨k2 + 1, n + nq, by go_num, by omega, HI, by first | rfl | exact World.drewN_drewN ..⟩
              case measure => simp [intOf]; omega
          · have hlt' : ¬ ((k2 : Int) < (A.L.length : Int)) := by omega
            have hkl : k2 = A.L.length := by omega
            have H := Lib.hid (rfindAt_no (A := A) (x := x) (by
              rw [Hf.out]
              exact look_none HK.out (fun j b hb => HK2.out j b (by rw [hkl]; exact (List.getElem?_eq_some_iff.1 hb).1) hb)))
            clear hlt hkl
            go_wp2
            go_ret2
            exact ⟨by rw [H.out]; rfl, _, rfl⟩

end Go.Proofs.Ytcfmemnokecgbaa
