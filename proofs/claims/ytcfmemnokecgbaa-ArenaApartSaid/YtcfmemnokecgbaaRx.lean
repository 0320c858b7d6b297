/- ArenaApart: the walk. -/
import Derived.Test.YtcfmemnokecgbaaRw
import Derived.Test.YtcfmemnokecgbaaRq
namespace Go.Proofs.Ytcfmemnokecgbaa
open Go.RowKit


set_option maxRecDepth 100000 in
set_option maxHeartbeats 6400000 in
theorem law_apart (n : Int) (ad : Option Addr) (len cap : Nat) (S : List St) (w : World) (hin : InSteps w ad len S) :
    Calls Try.prog 6 #[.int .i64 n, .slice ad len cap] w fun e w' => e = .returned (.bool true) ∧ Below w.heap.size w w' := by
  have HIN := Lib.hid hin
  clear hin
  by_cases hn : n < 2 ∨ 32768 < n
  · skip
    rcases hn with hn | hn
    all_goals
      go_enter Try.func6, Try.ntmps6
      go_wp2_with (first | (go_at_call 8; with_reducible refine Calls.mono (law_awake _) ?_; rintro e w' ⟨rfl, hU⟩) | (go_at_call 9; with_reducible refine Calls.mono (arena_New_no _ (by omega) _) ?_; rintro e w' ⟨rfl, rfl⟩) | (go_at_call 14; with_reducible refine Calls.mono (ref_New_no _ (by omega) _) ?_; rintro e w' ⟨rfl, rfl⟩))
      go_ret
      exact ⟨rfl, (‹Upd [] [] w _›).fr.below (Nat.le_refl _) (fun _ hk => absurd hk List.not_mem_nil)⟩
  · have h1 : 2 ≤ n := by omega
    have h2 : n ≤ 32768 := by omega
    clear hn
    go_enter Try.func6, Try.ntmps6
    go_wp2_with (first | (go_at_call 8; with_reducible refine Calls.mono (law_awake _) ?_; rintro e w' ⟨rfl, hU⟩))
    have HU := Lib.hid hU
    clear hU
    refine Calls.mono (arena_New_in n h1 h2 _) ?_
    rintro e w1 ⟨a, F0, rfl, hA, hU1⟩
    have HA := Lib.hid hA
    have HU1 := Lib.hid (HU.out.trans hU1)
    clear hA hU1
    go_wp2_with (fail)
    refine Calls.mono (ref_New_in n h1 h2 _) ?_
    rintro e w2 ⟨b, G0, rfl, hR, hU2⟩
    obtain ⟨hp, hU⟩ := Pr.new (new_ok h1 h2) HA.out HU1.out hR hU2
    have HP := Lib.hid hp
    have HU2 := Lib.hid hU
    clear hp hU hR hU2 HA HU1 HU
    go_wp2_with (fail)
    refine Calls.mono (law_play HP.out ad len cap S HIN.out HU2.out) ?_
    rintro e w4 ⟨rfl, A, F, G, hp, hn4, hU⟩
    have hfl : A.base + (flat A.L).length ≤ A.base + A.n ∧ A.base ≤ 32768 ∧ (flat A.L).length ≤ 32768 := by
      have := hp.ok.2.2.1
      have := hp.ok.2.1
      have := A.base_le
      omega
    obtain ⟨hfl1, hb2, hfl2⟩ := hfl
    have hnn : (A.n : Int) = n := by rw [hn4]; show ((n.toNat : Nat) : Int) = n; omega
    have HOK := Lib.hid hp.ok
    have HU4 := Lib.hid hU
    obtain ⟨hb, hcb, _, hbs, _⟩ := hp.ar.half
    have HA4 := Lib.hid hp.ar
    have hcnt := ar_cnt hp.ok
    clear hp hn4 hU HP HU2
    go_wp2_with ((go_at_call 17; with_reducible refine Calls.mono (hbs.out _ rfl) ?_; rintro e w' ⟨rfl, rfl⟩))
    clear hbs hcb
    refine Calls.mono (arena_Blocks HA4.out HOK.out) ?_
    rintro e w5 ⟨v, rfl, hs, hU⟩
    obtain ⟨va, vc, rfl, hvc, _⟩ := hs.form
    have HS := Lib.hid hs
    have HA5 := Lib.hid (HA4.out.go fun k hk => hU.fr.block k (HA4.out.lt k hk) (by simp))
    have HU5 := Lib.hid (HU4.out.trans (hU.weaken (F := F ++ G) (F' := F ++ G) (by simp) (fun k hk => .inl hk)))
    have HDV := Lib.hid (show ∀ k ∈ own (.slice va A.L.length vc), k ∉ F from fun k hk hm => by
      rcases hU.new k hk with h | h
      · cases h
      · have := HA4.out.lt k hm; omega)
    clear hs hU HA4 HU4
    go_wp2
    go_loopw [7, 8, 48] (fun t7 t8 t48 wr => ∃ (j c p : Nat) (B : Ar), t48 = .int .i64 j ∧ t8 = .int .i64 (1 + (c : Int)) ∧ t7 = .int .i64 (p : Nat) ∧ j ≤ A.L.length ∧ c ≤ 32768 ∧ p ≤ 65536 ∧ Hid (cnt A.L j = c) ∧ Hid (pos A.base A.L j = p) ∧ Hid (Filled A B j 0) ∧ Hid (IsAr wr a B F) ∧ Hid (Upd F F w5 wr)) (fun _ _ i _ => A.L.length - (intOf i).toNat)
    case atStart => exact ⟨0, 0, A.base, A, rfl, rfl, rfl, by omega, by omega, by omega, cnt_zero _, pos_zero _ _, Filled.refl HOK.out, HA5.out, Upd.refl _ _⟩
    case round =>
      obtain ⟨j, c, p, B, rfl, rfl, rfl, hj, hc, hp, HC, HPo, HF, HA, HU⟩ := hrel
      obtain ⟨wo, rfl⟩ : ∃ wo : World, wo = wr := ⟨_, rfl⟩
      by_cases hlt : (j : Int) < (A.L.length : Int)
      · have hj2 : j < A.L.length := by omega
        obtain ⟨bk, hbk⟩ : ∃ bk, A.L[j]? = some bk := ⟨_, List.getElem?_eq_getElem hj2⟩
        obtain ⟨g, off, cap2, hv2, hcap2, how, hcl⟩ := HS.out.at1 (by omega)
        injection hv2 with hv21 _ hv23
        subst hv21 hv23
        have hgF : g ∉ F := HDV.out g (by rw [how]; simp)
        have hglt : g < w5.heap.size := HS.out.lt g (by rw [how]; simp)
        have hw := words_get A hj2
        have had : (adr A.base A.L j : Nat) = p + 1 := by rw [pos_adr _ _ _ hj2, HPo.out]
        have hadi : ((adr A.base A.L j : Nat) : Int) = (p : Int) + 1 := by rw [had]; rfl
        have HSz := Lib.hid (HF.out.size hbk)
        have HSetE := Lib.hid (fun (B2 : Ar) (i : Nat) (h : Filled A B2 j i) (hi : i < bk.fs.length) => h.setE hbk hi)
        have HSet := Lib.hid (fun (B2 : Ar) (i : Nat) (h : Filled A B2 j i) (hi : i < bk.fs.length) => h.set hbk hi)
        rw [hadi] at hw HSz HSetE HSet
        rw [HC.out] at HSet
        obtain ⟨lw, hlw⟩ : ∃ lw, wPtr ((p : Int) + 1) = lw := ⟨_, rfl⟩
        have hlwu : U64 lw := by rw [← hlw]; exact wPtr_u _
        have HPt := Lib.hid (fun w' : World => ref_Ptr ((p : Int) + 1) w' (by unfold I64; omega))
        rw [hlw] at hw HSz HSetE HSet HPt
        have hcw : wo.cell? ⟨g, off + j, none⟩ = some (.int .u64 lw) := by
          rw [World.cell?_of_block (HU.out.fr.block g hglt hgF)]
          exact hcl j _ (by simp [cels, hw])
        have hbl := (HOK.out.2.2.2 bk (List.mem_of_getElem? hbk)).2.1
        have hci : c + bk.fs.length ≤ 32768 := by have := cnt_in A.L j bk hbk; rw [HC.out] at this; omega
        have HC2 := Lib.hid (show cnt A.L (j + 1) = c + bk.fs.length by rw [cnt_step _ _ _ hbk, HC.out])
        have HP2 := Lib.hid (show pos A.base A.L (j + 1) = p + (bk.fs.length + 1) by rw [pos_step _ _ _ _ hbk, HPo.out])
        have hpi : p + (bk.fs.length + 1) ≤ 65536 := by
          have := adr_hi A.base A.L j bk hbk
          omega
        have HB := Lib.hid hbk
        have HHL := Lib.hid (And.intro hcl how)
        have e1 : IntKind.i64.wrap ((p : Int) + 1) = (p : Int) + 1 := IntWalk.i64_in _ (by omega)
        clear hw had hadi hlw hbk hcl how
        go_wp2_with ((go_at_call 23; with_reducible refine Calls.mono (HPt.out _) ?_; rintro e w' ⟨rfl, rfl⟩))
        clear e1
        have c1 := arena_Size HA.out HF.out.ok lw hlwu
        rw [HSz.out] at c1
        refine Calls.mono c1 ?_
        clear c1
        rintro e w6 ⟨rfl, m, rfl⟩
        go_wp2
        go_loopw [8, 12] (fun t8 t12 wr2 => ∃ (i : Nat) (B2 : Ar), t12 = .int .i64 i ∧ t8 = .int .i64 (1 + (c : Int) + (i : Int)) ∧ i ≤ bk.fs.length ∧ Hid (Filled A B2 j i) ∧ Hid (IsAr wr2 a B2 F) ∧ Hid (Upd F F w5 wr2)) (fun _ i _ => bk.fs.length - (intOf i).toNat)
        case atStart => exact ⟨0, B, rfl, by simp, by omega, HF.out, HA.out.drewN m, HU.out.drewN m⟩
        case round =>
          clear hcw
          obtain ⟨i, B2, rfl, rfl, hi, HF2, HA2, HU2⟩ := hrel
          obtain ⟨wi, rfl⟩ : ∃ wi : World, wi = wr := ⟨_, rfl⟩
          by_cases hli : (i : Int) < (bk.fs.length : Int)
          · have hli2 : i < bk.fs.length := by omega
            have e2 : IntKind.i64.wrap (1 + (c : Int) + (i : Int) + 1) = 1 + (c : Int) + (i : Int) + 1 := IntWalk.i64_in _ (by omega)
            have E2 := Lib.hid e2
            clear e2
            go_wp2_with ((go_at_call 24; with_reducible refine Calls.mono (ref_Int (1 + (c : Int) + (i : Int)) _ (by unfold I64; omega)) ?_; rintro e w' ⟨rfl, rfl⟩))
            have c1 := arena_Set HA2.out HF2.out.ok lw i (wInt (1 + (c : Int) + (i : Int))) hlwu (wInt_u _)
            rw [HSetE.out B2 i HF2.out hli2] at c1
            refine Calls.mono c1 ?_
            clear c1
            rintro e w7 ⟨rfl, hA3, hU3⟩
            have HA3 := Lib.hid hA3
            have HU3 := Lib.hid (HU2.out.trans hU3)
            clear hA3 hU3
            have e2 := E2.out
            go_wp2
            go_roundw
            case rel => exact ⟨i + 1, _, by go_num, by first | go_num | (congr 1; omega), by omega, HSet.out B2 i HF2.out hli2, HA3.out, HU3.out⟩
            case measure => simp [intOf]; omega
          · have hil : i = bk.fs.length := by omega
            have HIL := Lib.hid hil
            have e2 : IntKind.i64.wrap ((bk.fs.length : Int) + 1) = (bk.fs.length : Int) + 1 := IntWalk.i64_in _ (by omega)
            have e3 : IntKind.i64.wrap ((p : Int) + ((bk.fs.length : Int) + 1)) = (p : Int) + ((bk.fs.length : Int) + 1) := IntWalk.i64_in _ (by omega)
            clear hil
            go_wp2
            go_roundw
            case rel => exact ⟨j + 1, c + bk.fs.length, p + (bk.fs.length + 1), B2, by go_num, by rw [HIL.out]; first | go_num | (congr 1; omega), by first | go_num | (congr 1; omega), by omega, hci, hpi, HC2.out, HP2.out, HF2.out.next HB.out (by rw [HIL.out]; exact Nat.le_refl _), HA2.out, HU2.out⟩
            case measure => simp [intOf]; omega
      · have hjl : j = A.L.length := by omega
        have HPe := Lib.hid (show p = A.base + (flat A.L).length by rw [← HPo.out, hjl, pos_end])
        have HFl : Hid (Filled A B A.L.length 0) := by rw [← hjl]; exact HF.out
        clear hjl HF HC HPo
        go_wp2_with (fail)
        refine Calls.mono (arena_Blocks HA.out HFl.out.ok) ?_
        rintro e w6 ⟨v2, rfl, hs, hU6⟩
        rw [HFl.out.ln] at hs
        obtain ⟨vb, vd, rfl, hvd, _⟩ := hs.form
        have HS2 := Lib.hid hs
        have hA6 := HA.out.go fun k hk => hU6.fr.block k (HA.out.lt k hk) (by simp)
        have HU6 := Lib.hid (HU5.out.trans ((HU.out.weaken (F := F ++ G) (F' := F ++ G) (by simp +contextual) (fun k hk => .inl hk)).trans (hU6.weaken (F := F ++ G) (F' := F ++ G) (by simp) (fun k hk => .inl hk))))
        obtain ⟨hb6, hcb6, ht6, hbs6, _⟩ := hA6.half
        rw [HFl.out.base] at hbs6
        have htop : B.top = p := by rw [HPe.out]; unfold Ar.top; rw [HFl.out.base, HFl.out.fl]
        rw [htop] at ht6
        have HA6 := Lib.hid hA6
        clear hs hU6 hA6 htop HU HA HU5 HS HDV
        go_wp2
        go_loopw [8, 82] (fun t8 t82 wr3 => ∃ (q c2 m : Nat), t82 = .int .i64 q ∧ t8 = .int .i64 (1 + (c2 : Int)) ∧ q ≤ A.L.length ∧ c2 ≤ 32768 ∧ Hid (cnt A.L q = c2) ∧ wr3 = w6.drewN m) (fun _ i _ => A.L.length - (intOf i).toNat)
        case atStart => exact ⟨0, 0, 0, rfl, rfl, by omega, by omega, cnt_zero _, by first | rfl | simp⟩
        case round =>
          obtain ⟨q, c2, m, rfl, rfl, hq, hc2, HC, rfl⟩ := hrel
          by_cases hlq : (q : Int) < (A.L.length : Int)
          · have hq2 : q < A.L.length := by omega
            obtain ⟨bk, hbk⟩ : ∃ bk, A.L[q]? = some bk := ⟨_, List.getElem?_eq_getElem hq2⟩
            obtain ⟨g, off, cap2, hv2, hcap2, how, hcl⟩ := HS2.out.at1 (by omega)
            injection hv2 with hv21 _ hv23
            subst hv21 hv23
            have hw := words_get B (by rw [HFl.out.ln]; exact hq2)
            rw [HFl.out.adr hq2] at hw
            have HSz := Lib.hid (HFl.out.size hbk)
            have HGet := Lib.hid (fun (i : Nat) (hi : i < bk.fs.length) => HFl.out.get hbk hi hq2)
            rw [HC.out] at HGet
            obtain ⟨lw, hlw⟩ : ∃ lw, wPtr ((adr A.base A.L q : Nat) : Int) = lw := ⟨_, rfl⟩
            have hlwu : U64 lw := by rw [← hlw]; exact wPtr_u _
            rw [hlw] at hw HSz HGet
            have hcw : w6.cell? ⟨g, off + q, none⟩ = some (.int .u64 lw) := hcl q _ (by simp [cels, hw])
            have hbl := (HOK.out.2.2.2 bk (List.mem_of_getElem? hbk)).2.1
            have hci : c2 + bk.fs.length ≤ 32768 := by have := cnt_in A.L q bk hbk; rw [HC.out] at this; omega
            have HC2 := Lib.hid (show cnt A.L (q + 1) = c2 + bk.fs.length by rw [cnt_step _ _ _ hbk, HC.out])
            clear hw hlw hbk hcl how
            go_wp2
            go_loopw [8, 15] (fun t8 t15 wr4 => ∃ (i m2 : Nat), t15 = .int .i64 i ∧ t8 = .int .i64 (1 + (c2 : Int) + (i : Int)) ∧ i ≤ bk.fs.length ∧ wr4 = w6.drewN m2) (fun _ i _ => bk.fs.length - (intOf i).toNat)
            case atStart => exact ⟨0, m, rfl, by simp, by omega, rfl⟩
            case round =>
              clear hcw
              obtain ⟨i, m2, rfl, rfl, hi, rfl⟩ := hrel
              by_cases hli : (i : Int) < (bk.fs.length : Int)
              · have hli2 : i < bk.fs.length := by omega
                go_wp2_with (fail)
                have c1 := arena_Size (HA6.out.drewN m2) HFl.out.ok lw hlwu
                rw [HSz.out] at c1
                refine Calls.mono c1 ?_
                clear c1
                rintro e w7 ⟨rfl, m3, rfl⟩
                go_wp2_with (fail)
                have c1 := arena_Get (HA6.out.drewN (m2 + m3)) HFl.out.ok lw i hlwu
                rw [HGet.out i hli2] at c1
                refine Calls.mono c1 ?_
                clear c1
                rintro e w7 ⟨rfl, m4, rfl⟩
                have e2 : IntKind.i64.wrap (1 + (c2 : Int) + (i : Int) + 1) = 1 + (c2 : Int) + (i : Int) + 1 := IntWalk.i64_in _ (by omega)
                go_wp2_with ((go_at_call 24; with_reducible refine Calls.mono (ref_Int (1 + (c2 : Int) + (i : Int)) _ (by unfold I64; omega)) ?_; rintro e w' ⟨rfl, rfl⟩))
                go_roundw
                case rel => exact ⟨i + 1, m2 + m3 + m4, by go_num, by first | go_num | (congr 1; omega), by omega, by simp [World.drewN_drewN]⟩
                case measure => simp [intOf]; omega
              · have hil : i = bk.fs.length := by omega
                have HIL := Lib.hid hil
                clear hil
                go_wp2_with (fail)
                have c1 := arena_Size (HA6.out.drewN m2) HFl.out.ok lw hlwu
                rw [HSz.out] at c1
                refine Calls.mono c1 ?_
                clear c1
                rintro e w7 ⟨rfl, m3, rfl⟩
                go_wp2
                go_roundw
                case rel => exact ⟨q + 1, c2 + bk.fs.length, m2 + m3, by go_num, by rw [HIL.out]; first | go_num | (congr 1; omega), by omega, hci, HC2.out, by simp [World.drewN_drewN]⟩
                case measure => simp [intOf]; omega
          · have hpe := HPe.out
            have hpn : (p : Int) ≤ (A.base : Int) + n := by omega
            have e2 : IntKind.i64.wrap ((A.base : Int) + n) = (A.base : Int) + n := IntWalk.i64_in _ (by omega)
            clear hpe
            go_wp2_with (first | (go_at_call 13; with_reducible refine Calls.mono (ht6.out _ rfl) ?_; rintro e w' ⟨rfl, rfl⟩) | (go_at_call 17; with_reducible refine Calls.mono (hbs6.out _ rfl) ?_; rintro e w' ⟨rfl, rfl⟩))
            go_ret
            exact ⟨rfl, (HU6.out.drewN _).fr.below (Nat.le_refl _) (fun _ hk => absurd hk List.not_mem_nil)⟩

end Go.Proofs.Ytcfmemnokecgbaa
