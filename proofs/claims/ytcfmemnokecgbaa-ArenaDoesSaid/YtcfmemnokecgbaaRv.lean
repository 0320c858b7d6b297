/- The laws' all; ArenaDoes. -/
import Derived.Test.YtcfmemnokecgbaaRu
import Derived.Test.YtcfmemnokecgbaaRq
import Derived.BigQuiet
namespace Go.Proofs.Ytcfmemnokecgbaa
open Go.RowKit

set_option maxRecDepth 100000 in
set_option maxHeartbeats 3200000 in
theorem law_all {w : World} {a b : Nat} {A : Ar} {F G : List Nat} (h : Pr w a b A F G) (x : Int) (hx : U64 x) :
    Calls Try.prog 25 #[.pointer (some ⟨a, 0, none⟩), .pointer (some ⟨b, 0, none⟩), .int .u64 x] w fun e w' => e = .returned (.bool true) ∧ Upd [] [] w w' := by
  have hcnt := ar_cnt h.ok
  have hn := h.ok.2.1
  have hbl := A.base_le
  have htl : A.base + (flat A.L).length ≤ 65536 := by have := h.ok.2.2.1; omega
  have HP := Lib.hid h
  clear h
  go_enter Try.func25, Try.ntmps25
  go_wp2_with (fail)
  refine Calls.mono (arena_Blocks HP.out.ar HP.out.ok) ?_
  rintro e w1 ⟨v, rfl, hs, hU⟩
  have hp1 : Pr w1 a b A F G := HP.out.go fun k hk => hU.fr.block k hk (by simp)
  have HU1 := Lib.hid (hU.sub (F2 := []) (by simp))
  have HS := Lib.hid hs
  have HP1 := Lib.hid hp1
  obtain ⟨va, vc, rfl, hvc, _⟩ := hs.form
  obtain ⟨hb, hcb, ht1, hb1, hh1⟩ := hp1.ar.half
  have HH := Lib.hid (fun n : Nat => hh1.out (w1.drewN n) rfl)
  have HBs := Lib.hid (fun n : Nat => hb1.out (w1.drewN n) rfl)
  have HTp := Lib.hid (fun n : Nat => ht1.out (w1.drewN n) rfl)
  have HRb := Lib.hid (fun n : Nat => ref_Base (hp1.rf.drewN n) hp1.ok)
  have HRt := Lib.hid (fun n : Nat => ref_Top (hp1.rf.drewN n) hp1.ok)
  have HSm := Lib.hid (fun (n : Nat) (y i : Int) (hy : U64 y) => law_same (hp1.drewN n) y i hy)
  have HS0 := Lib.hid (fun n : Nat => law_same (hp1.drewN n) x 0 hx)
  obtain ⟨lv, fvs, _, p⟩ := hp1.rf
  have HR := Lib.hid p
  obtain ⟨la, lc, rfl, hlc, _⟩ := p.sl.form
  have cb := p.bb.cell
  clear p hs hU hp1 ht1 hb1 hh1
  go_wp2
  go_quiet (first | (go_at_call 37; with_reducible exact qsame (HH.out _)) | (go_at_call 17; with_reducible exact qsame (HBs.out _)) | (go_at_call 38; with_reducible exact qread (HRb.out _)) | (go_at_call 13; with_reducible exact qsame (HTp.out _)) | (go_at_call 39; with_reducible exact qread (HRt.out _)) | (go_at_call 40; with_reducible exact qread (HS0.out _)))
  go_wp2
  go_loopw [61] (fun i wr => ∃ k n : Nat, i = .int .i64 k ∧ k ≤ A.L.length ∧ wr = w1.drewN n) (fun i _ => A.L.length - (intOf i).toNat)
  case atStart => exact ⟨0, _, rfl, by omega, rfl⟩
  case round =>
    obtain ⟨k, n, rfl, hk, rfl⟩ := hrel
    by_cases hlt : (k : Int) < (A.L.length : Int)
    · have hk2 : k < A.L.length := by omega
      obtain ⟨bk, hbk⟩ : ∃ bk, A.L[k]? = some bk := ⟨_, List.getElem?_eq_getElem hk2⟩
      obtain ⟨g, off, cap, fv, hlv, hfv, hcap, hil, c0, c1, c2, -, HF⟩ := rblk_facts HR.out hbk
      injection hlv with hlv1 _ hlv3
      obtain ⟨g2, off2, cap2, hv2, hcap2, _, hcl⟩ := HS.out.at1 (by omega)
      injection hv2 with hv21 _ hv23
      subst hlv1 hlv3 hv21 hv23
      have hw := words_get A hk2
      have hhi := adr_hi A.base A.L k bk hbk
      have hlo := adr_lo A.base A.L k hk2
      obtain ⟨s, hs⟩ : ∃ s, adr A.base A.L k = s := ⟨_, rfl⟩
      rw [hs] at c0 hw hhi hlo
      have hc := hcl k (.int .u64 (wPtr (s : Nat))) (by simp [cels, hw])
      obtain ⟨lw, hlw⟩ : ∃ lw, wPtr ((s : Nat) : Int) = lw := ⟨_, rfl⟩
      have hlw2 : 0 ≤ lw ∧ lw ≤ 131072 := by rw [← hlw]; unfold wPtr; rw [if_neg (by omega)]; omega
      have HPt := Lib.hid (fun w' : World => ref_Ptr (s : Int) w' (by unfold I64; omega))
      rw [hlw] at hc HPt
      obtain ⟨fa, fc, rfl, _⟩ := HF.out.form
      have hfl := (HP.out.ok.2.2.2 bk (List.mem_of_getElem? hbk)).2.1
      clear hcl hw hbk hfv hs hlw hlo
      go_wp2
      go_quiet ((go_at_call 23; with_reducible exact qsame2 (HPt.out _)))
      go_wp2
      go_loopw [9] (fun i wr => ∃ (q : Int) (m : Nat), i = .int .i64 q ∧ -1 ≤ q ∧ q ≤ 20 ∧ wr = w1.drewN m) (fun i _ => (20 - intOf i).toNat)
      case atStart => exact ⟨-1, n + nq, rfl, by omega, by omega, by rw [World.drewN_drewN]⟩
      case round =>
        obtain ⟨q, m, rfl, hq, hq2, rfl⟩ := hrel
        by_cases hq3 : q ≤ (bk.fs.length : Int)
        · by_cases hq4 : q < 20
          · have u0 : IntKind.i64.wrap (q + 1) = q + 1 := IntWalk.i64_in _ (by omega)
            have u1 : IntKind.u64.wrap (q + 1) = q + 1 := IntWalk.u64_in _ (by omega)
            have u2 : IntKind.u64.wrap (2 * (q + 1)) = 2 * (q + 1) := IntWalk.u64_in _ (by omega)
            have u3 : IntKind.u64.wrap (lw + 2 * (q + 1)) = lw + 2 * (q + 1) := IntWalk.u64_in _ (by omega)
            go_wp2_with (fail)
            refine Calls.mono (HSm.out m lw q (by unfold U64; omega)) ?_
            rintro e w2 ⟨rfl, m2, rfl⟩
            go_wp2_with (fail)
            refine Calls.mono (HSm.out (m + m2) (lw + 2 * (q + 1)) 1 (by unfold U64; omega)) ?_
            rintro e w2 ⟨rfl, m3, rfl⟩
            clear u1 u2 u3
            go_wp2
            go_roundw
            case rel => exact ⟨q + 1, m + m2 + m3, by go_num, by omega, by omega, by simp [World.drewN_drewN]⟩
            case measure => simp [intOf]; omega
          · go_wp2
            go_roundw
            case rel => exact ⟨k + 1, m, by go_num, by omega, rfl⟩
            case measure => simp [intOf]; omega
        · go_wp2
          go_roundw
          case rel => exact ⟨k + 1, m, by go_num, by omega, rfl⟩
          case measure => simp [intOf]; omega
    · go_wp2
      go_ret
      exact ⟨rfl, HU1.out.drewN _⟩


set_option maxRecDepth 100000 in
set_option maxHeartbeats 1600000 in
theorem law_does (n : Int) (ad : Option Addr) (len cap : Nat) (S : List St) (x : Int) (hx : U64 x) (w : World) (hin : InSteps w ad len S) :
    Calls Try.prog 7 #[.int .i64 n, .slice ad len cap, .int .u64 x] w fun e w' => e = .returned (.bool true) ∧ Below w.heap.size w w' := by
  have HIN := Lib.hid hin
  clear hin
  by_cases hn : n < 2 ∨ 32768 < n
  · skip
    rcases hn with hn | hn
    all_goals
      go_enter Try.func7, Try.ntmps7
      go_wp2_with (first | (go_at_call 8; with_reducible refine Calls.mono (law_awake _) ?_; rintro e w' ⟨rfl, hU⟩) | (go_at_call 9; with_reducible refine Calls.mono (arena_New_no _ (by omega) _) ?_; rintro e w' ⟨rfl, rfl⟩) | (go_at_call 14; with_reducible refine Calls.mono (ref_New_no _ (by omega) _) ?_; rintro e w' ⟨rfl, rfl⟩))
      go_ret
      exact ⟨rfl, (‹Upd [] [] w _›).fr.below (Nat.le_refl _) (fun _ hk => absurd hk List.not_mem_nil)⟩
  · have h1 : 2 ≤ n := by omega
    have h2 : n ≤ 32768 := by omega
    clear hn
    go_enter Try.func7, Try.ntmps7
    go_wp2_with (first | (go_at_call 8; with_reducible refine Calls.mono (law_awake _) ?_; rintro e w' ⟨rfl, hU⟩))
    have HU := Lib.hid hU
    clear hU
    refine Calls.mono (arena_New_in n h1 h2 _) ?_
    rintro e w1 ⟨a, F0, rfl, hA, hU1⟩
    have HA := Lib.hid hA
    have HU1 := Lib.hid (HU.out.trans hU1)
    clear hA hU1
    go_wp2_with (fail)
    refine Calls.mono (ref_New_in n h1 h2 _) ?_
    rintro e w2 ⟨b, G0, rfl, hR, hU2⟩
    obtain ⟨hp, hU⟩ := Pr.new (new_ok h1 h2) HA.out HU1.out hR hU2
    have HP := Lib.hid hp
    have HU2 := Lib.hid hU
    clear hp hU hR hU2 HA HU1 HU
    go_wp2_with (fail)
    refine Calls.mono (law_play HP.out ad len cap S HIN.out HU2.out) ?_
    rintro e w4 ⟨rfl, A4, F4, G4, hp, hn4, hU⟩
    have HP4 := Lib.hid hp
    have HU4 := Lib.hid hU
    clear hp hn4 hU HP HU2
    go_wp2_with (fail)
    refine Calls.mono (law_all HP4.out x hx) ?_
    rintro e w5 ⟨rfl, hU⟩
    have HU5 := Lib.hid (HU4.out.trans (hU.weaken (F := F4 ++ G4) (F' := F4 ++ G4) (by simp) (fun k hk => .inl hk)))
    clear hU HU4
    go_wp2
    go_ret
    exact ⟨rfl, HU5.out.fr.below (Nat.le_refl _) (fun _ hk => absurd hk List.not_mem_nil)⟩

end Go.Proofs.Ytcfmemnokecgbaa
