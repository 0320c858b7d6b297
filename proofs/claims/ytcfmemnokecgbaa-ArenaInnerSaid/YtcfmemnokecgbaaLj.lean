/- ArenaInner: the walk. -/
import Derived.Test.YtcfmemnokecgbaaLi
import Derived.StillTailTactics
namespace Go.Proofs.Ytcfmemnokecgbaa
open Go.RowKit

/-- A slice of words, at most 30 of which count. -/
theorem wf_u64 {x : Int} (h : (Lit.int .u64 x).wf = true) : U64 x := by
  have : 0 ≤ x ∧ x ≤ 18446744073709551615 := by simpa [Lit.wf, IntKind.min, IntKind.max, IntKind.bits, IntKind.signed] using h
  exact this
theorem wf_u8 {x : Int} (h : (Lit.int .u8 x).wf = true) : 0 ≤ x ∧ x ≤ 255 := by
  simpa [Lit.wf, IntKind.min, IntKind.max, IntKind.bits, IntKind.signed] using h





theorem Sl.empty {w : World} {e : TypeId} {size k : Nat} (hk : k = w.heap.size) : Sl (w.alloc (.cells #[] e)) (.slice (some ⟨k, 0, none⟩) 0 0) e size 0 [] := by
  subst hk
  exact ⟨by simp, .inr ⟨w.heap.size, 0, 0, #[], rfl, heap_alloc_new w _, Nat.le_refl _, by unfold maxLen; omega, by simp, by simp⟩⟩

theorem take_facts {w : World} {ad : Option Addr} {len : Nat} {zs : List Int} {g off : Nat} (h : InRow .u64 w ad len zs) (m : Nat) (hm : m ≤ len) (h0 : 0 < len) (had : ad = some ⟨g, off, none⟩) :
    ∃ os : List Int, Hid (os.length = m) ∧ Hid (∀ x ∈ os, U64 x) ∧ g < w.heap.size ∧ Hid ((cels os).length = m * 1) ∧
      Hid (∀ W : World, W.heap[g]? = w.heap[g]? → ∀ j u, (cels os)[j]? = some u → W.cell? ((⟨g, off, none⟩ : Addr).add j) = some u) := by
  obtain ⟨hz, hlen, hwf, hc⟩ := h
  rcases hc with h | ⟨g', off', h, hg, hcell⟩
  · omega
  · rw [had] at h
    cases h
    refine ⟨zs.take m, by show _ = _; simp; omega, fun x hx => wf_u64 (hwf x (List.mem_of_mem_take hx)), hg, by show _ = _; simp [cels]; omega, fun W hW j u hu => ?_⟩
    have hadd : (⟨g, off, none⟩ : Addr).add j = ⟨g, off + j, none⟩ := by unfold Addr.add; split <;> simp_all
    simp only [cels, List.getElem?_map, Option.map_eq_some_iff] at hu
    obtain ⟨x, hx, rfl⟩ := hu
    rw [List.getElem?_take] at hx
    split at hx
    · rw [hadd, World.cell?_of_block (w := w) hW]
      exact hcell j x hx
    · cases hx
theorem new_slice {w w2 w3 : World} {a : Nat} {A : Ar} {F : List Nat} {v : Value} {o : Obj} (hA : IsAr w2 a A F) (hU : Upd [] F w w2) (hU3 : Upd (own (.slice (some ⟨w2.heap.size, 0, none⟩) 0 0)) (own v) (w2.alloc o) w3) :
    Hid (IsAr w3 a A F) ∧ Hid (Upd [] (F ++ own v) w w3) ∧ Hid (∀ k ∈ F, k ∉ own v) := by
  have hlt := hA.lt
  have ho : own (.slice (some ⟨w2.heap.size, 0, none⟩) 0 0) = [w2.heap.size] := rfl
  rw [ho] at hU3
  have hd : ∀ k ∈ F, k ∉ [w2.heap.size] := fun k hk hm => by
    have := hlt k hk
    simp at hm
    omega
  have hlt' : ∀ k ∈ F, k < (w2.alloc o).heap.size := fun k hk => by have := hlt k hk; simp; omega
  refine ⟨hA.go fun k hk => (hU3.same hlt' hd k hk).trans (heap_alloc_old w2 o (hlt k hk)), ?_, hU3.off hlt' hd⟩
  have h1 : Upd [] (F ++ [w2.heap.size]) w (w2.alloc o) := (hU.alloc o).sub fun k hk => by
    simp only [List.mem_append, List.mem_singleton] at hk
    rcases hk with hk | rfl
    · exact .inl hk
    · exact .inr hU.fr.size
  exact h1.trans (hU3.weaken (by simp) (fun k hk => by simp only [List.mem_append] at hk ⊢; exact hk.elim (fun h => .inl (.inl h)) .inr))

theorem cels_oneCell (l : List Int) : ∀ u ∈ cels l, u.oneCell' = true := by
  intro u hu
  simp only [cels, List.mem_map] at hu
  obtain ⟨x, _, rfl⟩ := hu
  rfl

set_option maxRecDepth 100000 in
set_option maxHeartbeats 1600000 in
theorem law_inner (ad ad2 : Option Addr) (len cap len2 cap2 : Nat) (zs hs : List Int) (w : World) (hin : InRow .u64 w ad len zs) (hin2 : InRow .u8 w ad2 len2 hs) (hcap : len ≤ cap) (hnil : ad = none → len = 0 ∧ cap = 0) :
    Calls Try.prog 5 #[.slice ad len cap, .slice ad2 len2 cap2] w fun e w' => e = .returned (.bool true) ∧ Below w.heap.size w w' := by
  obtain ⟨i0, hi, hz0, hz1, hz2⟩ := info_parts Try.infoWord
  have hlen := hin.2.1
  have HIN := Lib.hid hin
  obtain ⟨hhz, hlen2, hwf2, hc2⟩ := hin2
  have HC2 := Lib.hid hc2
  have HZ2 := Lib.hid hhz
  have HW2 := Lib.hid hwf2
  clear hhz hwf2 hc2 hin
  by_cases h30 : 30 < len
  · obtain ⟨g, off, had⟩ : ∃ g off, ad = some ⟨g, off, none⟩ := by
      rcases HIN.out.2.2.2 with h | ⟨g, off, h, _⟩
      · omega
      · exact ⟨g, off, h⟩
    obtain ⟨os, HL, HO, hg, HLC, HN⟩ := take_facts HIN.out 30 (by omega) (by omega) had
    clear HIN hnil
    subst had
    have hcap30 : (30 : Int) ≤ (cap : Int) := by omega
    go_enter Try.func5, Try.ntmps5
    go_wp2_with (first | (go_at_call 8; with_reducible refine Calls.mono (law_awake _) ?_; rintro e w' ⟨rfl, hU⟩))
    have HU := Lib.hid hU
    clear hU
    refine Calls.mono (arena_New_in 64 (by omega) (by omega) _) ?_
    rintro e w1 ⟨a, F0, rfl, hA, hU1⟩
    have HA := Lib.hid hA
    have HU1 := Lib.hid (HU.out.trans hU1)
    clear hA hU1 HU
    go_wp2_with (fail)
    have c1 := arena_Alloc (A := ⟨64, false, []⟩) HA.out ⟨by decide, by decide, by decide, by simp⟩ 200 (30 : Nat)
    rw [AI_alloc 30 (by omega)] at c1
    refine Calls.mono c1 ?_
    clear c1
    rintro e w2 ⟨rfl, F, hA, hU2⟩
    have HA2 := Lib.hid hA
    have HU2 := Lib.hid (HU1.out.trans hU2)
    clear hA hU2 HA HU1
    have hlt2 := HA2.out.lt
    have HLT := Lib.hid hlt2
    clear hlt2
    go_wp2_with (at_builtin; refine wpList_app _ rfl (.tmp 36) (.tmp 37) 44 rfl 28 i0 (.int .u64 0) 1 8 Try.ulWords hi hz0 hz1 hz2 rfl _ 0 [] rfl (by exact Sl.empty rfl) ⟨g, off, none⟩ 30 cap (cels os) rfl HLC.out (by exact HN.out _ ((HU2.out.alloc _).fr.block g hg (by simp))) (cels_oneCell _) (by unfold maxLen; omega) (by omega) ?go)
    case go =>
      intro ad' cap' w3 hs3 hU3
      obtain ⟨HA3, HU3, HD⟩ := new_slice HA2.out HU2.out hU3
      have HS3 := Lib.hid hs3
      clear HA2 HU2 HLT HN HLC
      clear hs3 hU3
      go_wp2
      go_loopw [41] (fun i wr => ∃ (k : Nat) (os : List Int), i = .int .i64 k ∧ k ≤ len2 ∧ Hid (os.length = 30) ∧ Hid (∀ x ∈ os, U64 x) ∧ Hid (Sl wr (.slice ad' 30 cap') 28 1 30 (cels os)) ∧ Hid (IsAr wr a (AI (List.replicate 30 1)) F) ∧ Hid (Upd [] (F ++ own (.slice ad' 30 cap')) w wr)) (fun i _ => len2 - (intOf i).toNat)
      case atStart => exact ⟨0, os, rfl, by omega, HL, HO, HS3, HA3, HU3⟩
      case round =>
        clear HL HO HS3 HA3 HU3
        obtain ⟨k, os, rfl, hk, HL, HO, HS, HA, HU⟩ := hrel
        by_cases hlt : k < len2
        · obtain ⟨x, hx⟩ : ∃ x, hs[k]? = some x := ⟨_, List.getElem?_eq_getElem (by rw [HZ2.out]; exact hlt)⟩
          have hxb := wf_u8 (HW2.out x (List.mem_of_getElem? hx))
          rcases HC2.out with h0 | ⟨g2, off2, had2, hg2, hcell2⟩
          · omega
          subst had2
          have hc1 := hcell2 k x hx
          rw [← World.cell?_of_block (HU.out.fr.block g2 hg2 (by simp))] at hc1
          clear hx hcell2
          obtain ⟨X, rfl⟩ := Int.eq_ofNat_of_zero_le hxb.1
          by_cases hx1 : X + 1 < 30
          · obtain ⟨g3, off3, cap3, hv, _, ho3, hcell3, hfree3, hput3⟩ := HS.out.at (by omega)
            obtain ⟨rfl, rfl⟩ : ad' = some ⟨g3, off3, none⟩ ∧ cap' = cap3 := by injection hv; exact ⟨by assumption, by assumption⟩
            obtain ⟨y, hy⟩ : ∃ y, os[X]? = some y := ⟨_, List.getElem?_eq_getElem (by rw [HL.out]; omega)⟩
            have hc3 := hcell3 X (.int .u64 y) (by simp [cels, hy])
            have hx1' : ((X : Int) + 1 < (30 : Int)) := by omega
            have HP := Lib.hid (hput3 X (.int .u64 (wHead 201 ((X : Int) + 1))) (by omega))
            have HO3 := Lib.hid ho3
            clear hcell3 hput3 hv hy ho3
            go_wp2_with (first | (go_at_call 19; with_reducible refine Calls.mono (ref_Head _ _ _ (by unfold I64; omega) (by unfold I64; omega)) ?_; rintro e w' ⟨rfl, rfl⟩))
            go_roundw
            case rel =>
              refine ⟨k + 1, os.set X (wHead 201 ((X : Int) + 1)), by go_num, by omega, by show _ = _; rw [List.length_set]; exact HL.out, ?_, ?_, ?_, ?_⟩
              · intro x hx
                rcases List.mem_or_eq_of_mem_set hx with hx | rfl
                · exact HO.out x hx
                · exact wHead_u _ _
              · have := HP.out
                rw [cels_set] at this
                exact this
              · exact HA.out.go fun k hk => heap_setCell_other wr _ k _ (fun e => HD.out k hk (by rw [HO3.out]; simp at e; simp [e]))
              · exact HU.out.set (by rw [HO3.out]; simp) _ _
            case measure => simp [intOf]; omega
          · have hx1' : ¬ ((X : Int) + 1 < (30 : Int)) := by omega
            clear hx1
            go_wp2
            go_roundw
            case rel => exact ⟨k + 1, os, by go_num, by omega, HL, HO, HS, HA, HU⟩
            case measure => simp [intOf]; omega
        · have hlt' : ¬ ((k : Int) < (len2 : Int)) := by omega
          clear hlt
          go_wp2
          obtain ⟨wo, rfl⟩ : ∃ wo : World, wo = wr := ⟨_, rfl⟩
          go_loopw [63] (fun i wr => ∃ k : Nat, i = .int .i64 k ∧ k ≤ 30 ∧ Hid (Sl wr (.slice ad' 30 cap') 28 1 30 (cels os)) ∧ Hid (IsAr wr a (AI (mixed os k)) F) ∧ Hid (Upd [] (F ++ own (.slice ad' 30 cap')) w wr)) (fun i _ => 30 - (intOf i).toNat)
          case atStart =>
            refine ⟨0, rfl, by omega, HS, ?_, HU⟩
            have : mixed os 0 = List.replicate 30 1 := by simp [mixed, HL.out]
            rw [this]
            exact HA
          case round =>
            clear HS HA HU
            obtain ⟨k, rfl, hk, HS, HA, HU⟩ := hrel
            by_cases hlt : k < 30
            · obtain ⟨g3, off3, cap3, hv, _, ho3, hcell3, _, _⟩ := HS.out.at (by omega)
              obtain ⟨rfl, rfl⟩ : ad' = some ⟨g3, off3, none⟩ ∧ cap' = cap3 := by injection hv; exact ⟨by assumption, by assumption⟩
              obtain ⟨y, hy⟩ : ∃ y, os[k]? = some y := ⟨_, List.getElem?_eq_getElem (by rw [HL.out]; omega)⟩
              have hc3 := hcell3 k (.int .u64 y) (by simp [cels, hy])
              have hyu := HO.out y (List.mem_of_getElem? hy)
              have c1 := arena_Set HA.out (AI_ok (by rw [mixed_len (by rw [HL.out]; omega), HL.out]; omega) (mixed_u HO.out)) 2 k y (by unfold U64; omega) hyu
              rw [(AI_set hy (by rw [HL.out]; omega)).1, (AI_set hy (by rw [HL.out]; omega)).2] at c1
              have C1 := Lib.hid c1
              have HO3 := Lib.hid ho3
              clear c1 hcell3 hv hy ho3 hyu
              go_wp2_with (fail)
              refine Calls.mono C1.out ?_
              rintro e w4 ⟨rfl, hA4, hU4⟩
              have HA4 := Lib.hid hA4
              have HS4 := Lib.hid (HS.out.go (hU4.same HS.out.lt fun k hk hm => HD.out k hm hk))
              have HU4 := Lib.hid (HU.out.trans (hU4.weaken (F := F ++ own (.slice (some ⟨g3, off3, none⟩) 30 cap')) (F' := F ++ own (.slice (some ⟨g3, off3, none⟩) 30 cap')) (by simp +contextual) (fun k hk => .inl hk)))
              clear hA4 hU4 C1
              go_wp2
              go_roundw
              case rel => exact ⟨k + 1, by go_num, by omega, HS4, HA4, HU4⟩
              case measure => simp [intOf]; omega
            · have hk2 : k = 30 := by omega
              have hmo : mixed os k = os := by rw [hk2]; unfold mixed; rw [HL.out, Nat.sub_self, List.take_of_length_le (by rw [HL.out]; omega)]; simp
              rw [hmo] at HA
              have hlt' : ¬ ((k : Int) < (30 : Int)) := by omega
              clear hlt hk2 hmo
              go_wp2
              obtain ⟨w5, rfl⟩ : ∃ wo : World, wo = wr := ⟨_, rfl⟩
              have hok := AI_ok (os := os) (by rw [HL.out]; omega) HO.out
              have HOK := Lib.hid hok
              clear hok
              go_loopw [12] (fun i wr => ∃ (k n' : Nat), i = .int .i64 k ∧ 1 ≤ k ∧ k ≤ 30 + 1 ∧ wr = w5.drewN n') (fun i _ => 30 + 1 - (intOf i).toNat)
              case atStart => exact ⟨1, 0, rfl, by omega, by omega, rfl⟩
              case round =>
                obtain ⟨k, n', rfl, hk1, hk, rfl⟩ := hrel
                obtain ⟨j, rfl⟩ : ∃ j, k = j + 1 := ⟨k - 1, by omega⟩
                by_cases hlt : j + 1 < 30
                · obtain ⟨g3, off3, cap3, hv, _, ho3, hcell3, _, _⟩ := HS.out.at (by omega)
                  obtain ⟨rfl, rfl⟩ : ad' = some ⟨g3, off3, none⟩ ∧ cap' = cap3 := by injection hv; exact ⟨by assumption, by assumption⟩
                  obtain ⟨y, hy⟩ : ∃ y, os[j + 1]? = some y := ⟨_, List.getElem?_eq_getElem (by rw [HL.out]; omega)⟩
                  obtain ⟨z, hz⟩ : ∃ z, os[j]? = some z := ⟨_, List.getElem?_eq_getElem (by rw [HL.out]; omega)⟩
                  have hc3 := hcell3 (j + 1) (.int .u64 y) (by simp [cels, hy])
                  have hc4 := hcell3 j (.int .u64 z) (by simp [cels, hz])
                  have hgz : os.getD (j + 1 - 1) 0 = z := by simp [List.getD, hz]
                  have hi1 : ((j : Int) + 1 < (30 : Int)) := by omega
                  have hi2 : ((j : Int) < (30 : Int)) := by omega
                  have e1 : IntKind.i64.wrap ((j : Int) + 1 - 1) = (j : Int) := by rw [show (j : Int) + 1 - 1 = j by omega]; exact IntWalk.i64_in _ (by omega)
                  have e2 : IntKind.i64.wrap (j : Int) = (j : Int) := IntWalk.i64_in _ (by omega)
                  have hU : U64 (2 + 2 * ((j : Int) + 1)) := by unfold U64; omega
                  have HRH := Lib.hid (fun W : World => ref_Head 201 ((j : Int) + 1) W (by unfold I64; omega) (by unfold I64; omega))
                  by_cases hz1 : z = wHead 201 ((j : Int) + 1)
                  · have hzn : os.getD (j + 1 - 1) 0 = wHead 201 ((j + 1 : Nat) : Int) := by rw [hgz, hz1]; congr 1
                    have c1 := arena_Leads (HA.out.drewN n') HOK.out (2 + 2 * ((j : Int) + 1)) hU
                    have r1 := AI_leads_in (i := j + 1) (by omega) (by rw [HL.out]; exact hlt) (by rw [HL.out]; omega) hzn
                    rw [show (((j + 1 : Nat)) : Int) = (j : Int) + 1 by omega] at r1
                    rw [r1] at c1
                    have C1 := Lib.hid c1
                    have rb := AI_blk_in (i := j + 1) (by omega) (by rw [HL.out]; exact hlt) (by rw [HL.out]; omega) hzn
                    rw [show (((j + 1 : Nat)) : Int) = (j : Int) + 1 by omega] at rb
                    have R2 := Lib.hid (show (AI os).getF (2 + 2 * ((j : Int) + 1)) ((j : Int) + 1) = (y, 0) by
                      unfold Ar.getF
                      rw [rb]
                      simp only []
                      rw [if_pos (by show 0 ≤ _ ∧ _ < ((os.length : Nat) : Int); rw [HL.out]; omega), show ((j : Int) + 1).toNat = j + 1 by omega]
                      simp [List.getD, hy])
                    have R3 := Lib.hid (show (AI os).sizeOf (2 + 2 * ((j : Int) + 1)) = (30 : Int) by
                      unfold Ar.sizeOf
                      rw [rb]
                      simp only []
                      exact congrArg (fun n : Nat => (n : Int)) HL.out)
                    have hzb : (z != wHead 201 ((j : Int) + 1)) = false := by rw [hz1]; simp
                    clear c1 r1 rb hzn hcell3 hv hy hz hgz hz1
                    go_wp2_with (fail)
                    refine Calls.mono C1.out ?_
                    rintro e w' ⟨rfl, n1, rfl⟩
                    go_wp2_with (fail)
                    go_quiet ((go_at_call 19; with_reducible exact qsame2 (HRH.out _)))
                    clear e1 e2
                    go_wp2_with (fail)
                    have c1 := arena_Get (HA.out.drewN (n' + n1 + nq)) HOK.out (2 + 2 * ((j : Int) + 1)) ((j : Int) + 1) hU
                    rw [R2.out] at c1
                    refine Calls.mono c1 ?_
                    clear c1
                    rintro e w' ⟨rfl, n2, rfl⟩
                    go_wp2_with (fail)
                    have c1 := arena_Size (HA.out.drewN (n' + n1 + nq + n2)) HOK.out (2 + 2 * ((j : Int) + 1)) hU
                    rw [R3.out] at c1
                    refine Calls.mono c1 ?_
                    clear c1
                    rintro e w' ⟨rfl, n3, rfl⟩
                    go_wp2
                    go_roundw
                    case rel => exact ⟨j + 1 + 1, _, by go_num, by omega, by omega, rfl⟩
                    case measure => simp [intOf]; omega
                  · have hzn : ¬ os.getD (j + 1 - 1) 0 = wHead 201 ((j + 1 : Nat) : Int) := by rw [hgz]; exact hz1
                    have c1 := arena_Leads (HA.out.drewN n') HOK.out (2 + 2 * ((j : Int) + 1)) hU
                    have r1 := AI_leads_out (i := j + 1) (by omega) (by rw [HL.out]; exact hlt) (by rw [HL.out]; omega) hzn
                    rw [show (((j + 1 : Nat)) : Int) = (j : Int) + 1 by omega] at r1
                    rw [r1] at c1
                    have C1 := Lib.hid c1
                    have hzb : (z != wHead 201 ((j : Int) + 1)) = true := by rw [bne_iff_ne]; exact hz1
                    clear c1 r1 hzn hcell3 hv hy hz hgz hz1
                    go_wp2_with (fail)
                    refine Calls.mono C1.out ?_
                    rintro e w' ⟨rfl, n1, rfl⟩
                    go_wp2_with (fail)
                    go_quiet ((go_at_call 19; with_reducible exact qsame2 (HRH.out _)))
                    clear e1 e2
                    go_wp2
                    go_roundw
                    case rel => exact ⟨j + 1 + 1, _, by go_num, by omega, by omega, rfl⟩
                    case measure => simp [intOf]; omega
                · have hlt' : ¬ ((j : Int) + 1 < (30 : Int)) := by omega
                  clear hlt
                  go_wp2
                  go_ret
                  exact ⟨rfl, (HU.out.drewN _).fr.below (Nat.le_refl _) (fun _ hk => absurd hk List.not_mem_nil)⟩
  · by_cases h0 : ad = none
    · obtain ⟨hl0, hc0⟩ := hnil h0
      clear HIN hnil
      subst h0 hl0 hc0
      obtain ⟨os, hos⟩ : ∃ os : List Int, os = [] := ⟨_, rfl⟩
      obtain ⟨m, HM⟩ : ∃ m : Nat, Hid (m = 0) := ⟨0, rfl⟩
      have hm30 : m ≤ 30 := by rw [HM.out]; omega
      have HL : Hid (os.length = m) := by rw [HM.out]; subst hos; exact (rfl : ([] : List Int).length = 0)
      have HO : Hid (∀ x ∈ os, U64 x) := by subst hos; intro x hx; cases hx
      have HOS := Lib.hid hos
      clear hos
      go_enter Try.func5, Try.ntmps5
      go_wp2_with (first | (go_at_call 8; with_reducible refine Calls.mono (law_awake _) ?_; rintro e w' ⟨rfl, hU⟩))
      have HU := Lib.hid hU
      clear hU
      refine Calls.mono (arena_New_in 64 (by omega) (by omega) _) ?_
      rintro e w1 ⟨a, F0, rfl, hA, hU1⟩
      have HA := Lib.hid hA
      have HU1 := Lib.hid (HU.out.trans hU1)
      clear hA hU1 HU
      go_wp2_with (fail)
      have c1 := arena_Alloc (A := ⟨64, false, []⟩) HA.out ⟨by decide, by decide, by decide, by simp⟩ 200 (0 : Nat)
      rw [AI_alloc 0 (by omega)] at c1
      refine Calls.mono c1 ?_
      clear c1
      rintro e w2 ⟨rfl, F, hA, hU2⟩
      have HA2 := Lib.hid hA
      have HU2 := Lib.hid (HU1.out.trans hU2)
      clear hA hU2 HA HU1
      have hlt2 := HA2.out.lt
      have HLT := Lib.hid hlt2
      clear hlt2
      go_wp2_with (at_builtin; refine wpList_app_nil _ rfl (.tmp 36) (.tmp 37) 44 rfl 28 i0 1 Try.ulWords hi _ m [] rfl (by rw [HM.out]; exact Sl.empty rfl) rfl ?go)
      case go =>
        intro ad' cap' w3 hs3 hU3
        obtain ⟨HA3, HU3, HD⟩ := new_slice HA2.out HU2.out hU3
        have HS3 : Hid (Sl w3 (.slice ad' m cap') 28 1 m (cels os)) := by rw [HOS.out]; exact hs3
        have hr0 : List.replicate 0 (1 : Int) = List.replicate m 1 := by rw [HM.out]
        rw [hr0] at HA3
        clear HA2 HU2 HLT hs3 hU3 hr0
        go_wp2
        go_loopw [41] (fun i wr => ∃ (k : Nat) (os : List Int), i = .int .i64 k ∧ k ≤ len2 ∧ Hid (os.length = m) ∧ Hid (∀ x ∈ os, U64 x) ∧ Hid (Sl wr (.slice ad' m cap') 28 1 m (cels os)) ∧ Hid (IsAr wr a (AI (List.replicate m 1)) F) ∧ Hid (Upd [] (F ++ own (.slice ad' m cap')) w wr)) (fun i _ => len2 - (intOf i).toNat)
        case atStart => exact ⟨0, os, rfl, by omega, HL, HO, HS3, HA3, HU3⟩
        case round =>
          clear HL HO HS3 HA3 HU3
          obtain ⟨k, os, rfl, hk, HL, HO, HS, HA, HU⟩ := hrel
          by_cases hlt : k < len2
          · obtain ⟨x, hx⟩ : ∃ x, hs[k]? = some x := ⟨_, List.getElem?_eq_getElem (by rw [HZ2.out]; exact hlt)⟩
            have hxb := wf_u8 (HW2.out x (List.mem_of_getElem? hx))
            rcases HC2.out with h0 | ⟨g2, off2, had2, hg2, hcell2⟩
            · omega
            subst had2
            have hc1 := hcell2 k x hx
            rw [← World.cell?_of_block (HU.out.fr.block g2 hg2 (by simp))] at hc1
            clear hx hcell2
            obtain ⟨X, rfl⟩ := Int.eq_ofNat_of_zero_le hxb.1
            by_cases hx1 : X + 1 < m
            · obtain ⟨g3, off3, cap3, hv, _, ho3, hcell3, hfree3, hput3⟩ := HS.out.at (by omega)
              obtain ⟨rfl, rfl⟩ : ad' = some ⟨g3, off3, none⟩ ∧ cap' = cap3 := by injection hv; exact ⟨by assumption, by assumption⟩
              obtain ⟨y, hy⟩ : ∃ y, os[X]? = some y := ⟨_, List.getElem?_eq_getElem (by rw [HL.out]; omega)⟩
              have hc3 := hcell3 X (.int .u64 y) (by simp [cels, hy])
              have hx1' : ((X : Int) + 1 < (m : Int)) := by omega
              have HP := Lib.hid (hput3 X (.int .u64 (wHead 201 ((X : Int) + 1))) (by omega))
              have HO3 := Lib.hid ho3
              clear hcell3 hput3 hv hy ho3
              go_wp2_with (first | (go_at_call 19; with_reducible refine Calls.mono (ref_Head _ _ _ (by unfold I64; omega) (by unfold I64; omega)) ?_; rintro e w' ⟨rfl, rfl⟩))
              go_roundw
              case rel =>
                refine ⟨k + 1, os.set X (wHead 201 ((X : Int) + 1)), by go_num, by omega, by show _ = _; rw [List.length_set]; exact HL.out, ?_, ?_, ?_, ?_⟩
                · intro x hx
                  rcases List.mem_or_eq_of_mem_set hx with hx | rfl
                  · exact HO.out x hx
                  · exact wHead_u _ _
                · have := HP.out
                  rw [cels_set] at this
                  exact this
                · exact HA.out.go fun k hk => heap_setCell_other wr _ k _ (fun e => HD.out k hk (by rw [HO3.out]; simp at e; simp [e]))
                · exact HU.out.set (by rw [HO3.out]; simp) _ _
              case measure => simp [intOf]; omega
            · have hx1' : ¬ ((X : Int) + 1 < (m : Int)) := by omega
              clear hx1
              go_wp2
              go_roundw
              case rel => exact ⟨k + 1, os, by go_num, by omega, HL, HO, HS, HA, HU⟩
              case measure => simp [intOf]; omega
          · have hlt' : ¬ ((k : Int) < (len2 : Int)) := by omega
            clear hlt
            go_wp2
            obtain ⟨wo, rfl⟩ : ∃ wo : World, wo = wr := ⟨_, rfl⟩
            go_loopw [63] (fun i wr => ∃ k : Nat, i = .int .i64 k ∧ k ≤ m ∧ Hid (Sl wr (.slice ad' m cap') 28 1 m (cels os)) ∧ Hid (IsAr wr a (AI (mixed os k)) F) ∧ Hid (Upd [] (F ++ own (.slice ad' m cap')) w wr)) (fun i _ => m - (intOf i).toNat)
            case atStart =>
              refine ⟨0, rfl, by omega, HS, ?_, HU⟩
              have : mixed os 0 = List.replicate m 1 := by simp [mixed, HL.out]
              rw [this]
              exact HA
            case round =>
              clear HS HA HU
              obtain ⟨k, rfl, hk, HS, HA, HU⟩ := hrel
              by_cases hlt : k < m
              · obtain ⟨g3, off3, cap3, hv, _, ho3, hcell3, _, _⟩ := HS.out.at (by omega)
                obtain ⟨rfl, rfl⟩ : ad' = some ⟨g3, off3, none⟩ ∧ cap' = cap3 := by injection hv; exact ⟨by assumption, by assumption⟩
                obtain ⟨y, hy⟩ : ∃ y, os[k]? = some y := ⟨_, List.getElem?_eq_getElem (by rw [HL.out]; omega)⟩
                have hc3 := hcell3 k (.int .u64 y) (by simp [cels, hy])
                have hyu := HO.out y (List.mem_of_getElem? hy)
                have c1 := arena_Set HA.out (AI_ok (by rw [mixed_len (by rw [HL.out]; omega), HL.out]; omega) (mixed_u HO.out)) 2 k y (by unfold U64; omega) hyu
                rw [(AI_set hy (by rw [HL.out]; omega)).1, (AI_set hy (by rw [HL.out]; omega)).2] at c1
                have C1 := Lib.hid c1
                have HO3 := Lib.hid ho3
                clear c1 hcell3 hv hy ho3 hyu
                go_wp2_with (fail)
                refine Calls.mono C1.out ?_
                rintro e w4 ⟨rfl, hA4, hU4⟩
                have HA4 := Lib.hid hA4
                have HS4 := Lib.hid (HS.out.go (hU4.same HS.out.lt fun k hk hm => HD.out k hm hk))
                have HU4 := Lib.hid (HU.out.trans (hU4.weaken (F := F ++ own (.slice (some ⟨g3, off3, none⟩) m cap')) (F' := F ++ own (.slice (some ⟨g3, off3, none⟩) m cap')) (by simp +contextual) (fun k hk => .inl hk)))
                clear hA4 hU4 C1
                go_wp2
                go_roundw
                case rel => exact ⟨k + 1, by go_num, by omega, HS4, HA4, HU4⟩
                case measure => simp [intOf]; omega
              · have hk2 : k = m := by omega
                have hmo : mixed os k = os := by rw [hk2]; unfold mixed; rw [HL.out, Nat.sub_self, List.take_of_length_le (by rw [HL.out]; omega)]; simp
                rw [hmo] at HA
                have hlt' : ¬ ((k : Int) < (m : Int)) := by omega
                clear hlt hk2 hmo
                go_wp2
                obtain ⟨w5, rfl⟩ : ∃ wo : World, wo = wr := ⟨_, rfl⟩
                have hok := AI_ok (os := os) (by rw [HL.out]; omega) HO.out
                have HOK := Lib.hid hok
                clear hok
                go_loopw [12] (fun i wr => ∃ (k n' : Nat), i = .int .i64 k ∧ 1 ≤ k ∧ k ≤ m + 1 ∧ wr = w5.drewN n') (fun i _ => m + 1 - (intOf i).toNat)
                case atStart => exact ⟨1, 0, rfl, by omega, by omega, rfl⟩
                case round =>
                  obtain ⟨k, n', rfl, hk1, hk, rfl⟩ := hrel
                  obtain ⟨j, rfl⟩ : ∃ j, k = j + 1 := ⟨k - 1, by omega⟩
                  by_cases hlt : j + 1 < m
                  · obtain ⟨g3, off3, cap3, hv, _, ho3, hcell3, _, _⟩ := HS.out.at (by omega)
                    obtain ⟨rfl, rfl⟩ : ad' = some ⟨g3, off3, none⟩ ∧ cap' = cap3 := by injection hv; exact ⟨by assumption, by assumption⟩
                    obtain ⟨y, hy⟩ : ∃ y, os[j + 1]? = some y := ⟨_, List.getElem?_eq_getElem (by rw [HL.out]; omega)⟩
                    obtain ⟨z, hz⟩ : ∃ z, os[j]? = some z := ⟨_, List.getElem?_eq_getElem (by rw [HL.out]; omega)⟩
                    have hc3 := hcell3 (j + 1) (.int .u64 y) (by simp [cels, hy])
                    have hc4 := hcell3 j (.int .u64 z) (by simp [cels, hz])
                    have hgz : os.getD (j + 1 - 1) 0 = z := by simp [List.getD, hz]
                    have hi1 : ((j : Int) + 1 < (m : Int)) := by omega
                    have hi2 : ((j : Int) < (m : Int)) := by omega
                    have e1 : IntKind.i64.wrap ((j : Int) + 1 - 1) = (j : Int) := by rw [show (j : Int) + 1 - 1 = j by omega]; exact IntWalk.i64_in _ (by omega)
                    have e2 : IntKind.i64.wrap (j : Int) = (j : Int) := IntWalk.i64_in _ (by omega)
                    have hU : U64 (2 + 2 * ((j : Int) + 1)) := by unfold U64; omega
                    have HRH := Lib.hid (fun W : World => ref_Head 201 ((j : Int) + 1) W (by unfold I64; omega) (by unfold I64; omega))
                    by_cases hz1 : z = wHead 201 ((j : Int) + 1)
                    · have hzn : os.getD (j + 1 - 1) 0 = wHead 201 ((j + 1 : Nat) : Int) := by rw [hgz, hz1]; congr 1
                      have c1 := arena_Leads (HA.out.drewN n') HOK.out (2 + 2 * ((j : Int) + 1)) hU
                      have r1 := AI_leads_in (i := j + 1) (by omega) (by rw [HL.out]; exact hlt) (by rw [HL.out]; omega) hzn
                      rw [show (((j + 1 : Nat)) : Int) = (j : Int) + 1 by omega] at r1
                      rw [r1] at c1
                      have C1 := Lib.hid c1
                      have rb := AI_blk_in (i := j + 1) (by omega) (by rw [HL.out]; exact hlt) (by rw [HL.out]; omega) hzn
                      rw [show (((j + 1 : Nat)) : Int) = (j : Int) + 1 by omega] at rb
                      have R2 := Lib.hid (show (AI os).getF (2 + 2 * ((j : Int) + 1)) ((j : Int) + 1) = (y, 0) by
                        unfold Ar.getF
                        rw [rb]
                        simp only []
                        rw [if_pos (by show 0 ≤ _ ∧ _ < ((os.length : Nat) : Int); rw [HL.out]; omega), show ((j : Int) + 1).toNat = j + 1 by omega]
                        simp [List.getD, hy])
                      have R3 := Lib.hid (show (AI os).sizeOf (2 + 2 * ((j : Int) + 1)) = (m : Int) by
                        unfold Ar.sizeOf
                        rw [rb]
                        simp only []
                        exact congrArg (fun n : Nat => (n : Int)) HL.out)
                      have hzb : (z != wHead 201 ((j : Int) + 1)) = false := by rw [hz1]; simp
                      clear c1 r1 rb hzn hcell3 hv hy hz hgz hz1
                      go_wp2_with (fail)
                      refine Calls.mono C1.out ?_
                      rintro e w' ⟨rfl, n1, rfl⟩
                      go_wp2_with (fail)
                      go_quiet ((go_at_call 19; with_reducible exact qsame2 (HRH.out _)))
                      clear e1 e2
                      go_wp2_with (fail)
                      have c1 := arena_Get (HA.out.drewN (n' + n1 + nq)) HOK.out (2 + 2 * ((j : Int) + 1)) ((j : Int) + 1) hU
                      rw [R2.out] at c1
                      refine Calls.mono c1 ?_
                      clear c1
                      rintro e w' ⟨rfl, n2, rfl⟩
                      go_wp2_with (fail)
                      have c1 := arena_Size (HA.out.drewN (n' + n1 + nq + n2)) HOK.out (2 + 2 * ((j : Int) + 1)) hU
                      rw [R3.out] at c1
                      refine Calls.mono c1 ?_
                      clear c1
                      rintro e w' ⟨rfl, n3, rfl⟩
                      go_wp2
                      go_roundw
                      case rel => exact ⟨j + 1 + 1, _, by go_num, by omega, by omega, rfl⟩
                      case measure => simp [intOf]; omega
                    · have hzn : ¬ os.getD (j + 1 - 1) 0 = wHead 201 ((j + 1 : Nat) : Int) := by rw [hgz]; exact hz1
                      have c1 := arena_Leads (HA.out.drewN n') HOK.out (2 + 2 * ((j : Int) + 1)) hU
                      have r1 := AI_leads_out (i := j + 1) (by omega) (by rw [HL.out]; exact hlt) (by rw [HL.out]; omega) hzn
                      rw [show (((j + 1 : Nat)) : Int) = (j : Int) + 1 by omega] at r1
                      rw [r1] at c1
                      have C1 := Lib.hid c1
                      have hzb : (z != wHead 201 ((j : Int) + 1)) = true := by rw [bne_iff_ne]; exact hz1
                      clear c1 r1 hzn hcell3 hv hy hz hgz hz1
                      go_wp2_with (fail)
                      refine Calls.mono C1.out ?_
                      rintro e w' ⟨rfl, n1, rfl⟩
                      go_wp2_with (fail)
                      go_quiet ((go_at_call 19; with_reducible exact qsame2 (HRH.out _)))
                      clear e1 e2
                      go_wp2
                      go_roundw
                      case rel => exact ⟨j + 1 + 1, _, by go_num, by omega, by omega, rfl⟩
                      case measure => simp [intOf]; omega
                  · have hlt' : ¬ ((j : Int) + 1 < (m : Int)) := by omega
                    clear hlt
                    go_wp2
                    go_ret
                    exact ⟨rfl, (HU.out.drewN _).fr.below (Nat.le_refl _) (fun _ hk => absurd hk List.not_mem_nil)⟩
    · rcases Nat.eq_zero_or_pos len with hl0 | hl0
      · obtain ⟨x, hx⟩ : ∃ x, ad = some x := by
          cases ad with
          | none => exact absurd rfl h0
          | some x => exact ⟨x, rfl⟩
        clear HIN hnil h0
        subst hx hl0
        obtain ⟨os, hos⟩ : ∃ os : List Int, os = [] := ⟨_, rfl⟩
        obtain ⟨m, HM⟩ : ∃ m : Nat, Hid (m = 0) := ⟨0, rfl⟩
        have hm30 : m ≤ 30 := by rw [HM.out]; omega
        have HL : Hid (os.length = m) := by rw [HM.out]; subst hos; exact (rfl : ([] : List Int).length = 0)
        have HO : Hid (∀ x ∈ os, U64 x) := by subst hos; intro x hx; cases hx
        have HOS := Lib.hid hos
        clear hos
        go_enter Try.func5, Try.ntmps5
        go_wp2_with (first | (go_at_call 8; with_reducible refine Calls.mono (law_awake _) ?_; rintro e w' ⟨rfl, hU⟩))
        have HU := Lib.hid hU
        clear hU
        refine Calls.mono (arena_New_in 64 (by omega) (by omega) _) ?_
        rintro e w1 ⟨a, F0, rfl, hA, hU1⟩
        have HA := Lib.hid hA
        have HU1 := Lib.hid (HU.out.trans hU1)
        clear hA hU1 HU
        go_wp2_with (fail)
        have c1 := arena_Alloc (A := ⟨64, false, []⟩) HA.out ⟨by decide, by decide, by decide, by simp⟩ 200 (0 : Nat)
        rw [AI_alloc 0 (by omega)] at c1
        refine Calls.mono c1 ?_
        clear c1
        rintro e w2 ⟨rfl, F, hA, hU2⟩
        have HA2 := Lib.hid hA
        have HU2 := Lib.hid (HU1.out.trans hU2)
        clear hA hU2 HA HU1
        have hlt2 := HA2.out.lt
        have HLT := Lib.hid hlt2
        clear hlt2
        go_wp2_with (at_builtin; go_loud (refine wpList_app _ rfl (.tmp 36) (.tmp 37) 44 rfl 28 i0 (.int .u64 0) 1 8 Try.ulWords hi hz0 hz1 hz2 rfl _ m [] rfl (by rw [HM.out]; exact Sl.empty rfl) x 0 cap [] rfl rfl (by intro j u hu; simp at hu) (by intro u hu; cases hu) (by unfold maxLen; omega) (by omega) ?go))
        case go =>
          intro ad' cap' w3 hs3 hU3
          obtain ⟨HA3, HU3, HD⟩ := new_slice HA2.out HU2.out hU3
          have HS3 : Hid (Sl w3 (.slice ad' m cap') 28 1 m (cels os)) := by rw [HOS.out]; exact hs3
          have hr0 : List.replicate 0 (1 : Int) = List.replicate m 1 := by rw [HM.out]
          rw [hr0] at HA3
          clear HA2 HU2 HLT hs3 hU3 hr0
          go_wp2
          go_loopw [41] (fun i wr => ∃ (k : Nat) (os : List Int), i = .int .i64 k ∧ k ≤ len2 ∧ Hid (os.length = m) ∧ Hid (∀ x ∈ os, U64 x) ∧ Hid (Sl wr (.slice ad' m cap') 28 1 m (cels os)) ∧ Hid (IsAr wr a (AI (List.replicate m 1)) F) ∧ Hid (Upd [] (F ++ own (.slice ad' m cap')) w wr)) (fun i _ => len2 - (intOf i).toNat)
          case atStart => exact ⟨0, os, rfl, by omega, HL, HO, HS3, HA3, HU3⟩
          case round =>
            clear HL HO HS3 HA3 HU3
            obtain ⟨k, os, rfl, hk, HL, HO, HS, HA, HU⟩ := hrel
            by_cases hlt : k < len2
            · obtain ⟨x, hx⟩ : ∃ x, hs[k]? = some x := ⟨_, List.getElem?_eq_getElem (by rw [HZ2.out]; exact hlt)⟩
              have hxb := wf_u8 (HW2.out x (List.mem_of_getElem? hx))
              rcases HC2.out with h0 | ⟨g2, off2, had2, hg2, hcell2⟩
              · omega
              subst had2
              have hc1 := hcell2 k x hx
              rw [← World.cell?_of_block (HU.out.fr.block g2 hg2 (by simp))] at hc1
              clear hx hcell2
              obtain ⟨X, rfl⟩ := Int.eq_ofNat_of_zero_le hxb.1
              by_cases hx1 : X + 1 < m
              · obtain ⟨g3, off3, cap3, hv, _, ho3, hcell3, hfree3, hput3⟩ := HS.out.at (by omega)
                obtain ⟨rfl, rfl⟩ : ad' = some ⟨g3, off3, none⟩ ∧ cap' = cap3 := by injection hv; exact ⟨by assumption, by assumption⟩
                obtain ⟨y, hy⟩ : ∃ y, os[X]? = some y := ⟨_, List.getElem?_eq_getElem (by rw [HL.out]; omega)⟩
                have hc3 := hcell3 X (.int .u64 y) (by simp [cels, hy])
                have hx1' : ((X : Int) + 1 < (m : Int)) := by omega
                have HP := Lib.hid (hput3 X (.int .u64 (wHead 201 ((X : Int) + 1))) (by omega))
                have HO3 := Lib.hid ho3
                clear hcell3 hput3 hv hy ho3
                go_wp2_with (first | (go_at_call 19; with_reducible refine Calls.mono (ref_Head _ _ _ (by unfold I64; omega) (by unfold I64; omega)) ?_; rintro e w' ⟨rfl, rfl⟩))
                go_roundw
                case rel =>
                  refine ⟨k + 1, os.set X (wHead 201 ((X : Int) + 1)), by go_num, by omega, by show _ = _; rw [List.length_set]; exact HL.out, ?_, ?_, ?_, ?_⟩
                  · intro x hx
                    rcases List.mem_or_eq_of_mem_set hx with hx | rfl
                    · exact HO.out x hx
                    · exact wHead_u _ _
                  · have := HP.out
                    rw [cels_set] at this
                    exact this
                  · exact HA.out.go fun k hk => heap_setCell_other wr _ k _ (fun e => HD.out k hk (by rw [HO3.out]; simp at e; simp [e]))
                  · exact HU.out.set (by rw [HO3.out]; simp) _ _
                case measure => simp [intOf]; omega
              · have hx1' : ¬ ((X : Int) + 1 < (m : Int)) := by omega
                clear hx1
                go_wp2
                go_roundw
                case rel => exact ⟨k + 1, os, by go_num, by omega, HL, HO, HS, HA, HU⟩
                case measure => simp [intOf]; omega
            · have hlt' : ¬ ((k : Int) < (len2 : Int)) := by omega
              clear hlt
              go_wp2
              obtain ⟨wo, rfl⟩ : ∃ wo : World, wo = wr := ⟨_, rfl⟩
              go_loopw [63] (fun i wr => ∃ k : Nat, i = .int .i64 k ∧ k ≤ m ∧ Hid (Sl wr (.slice ad' m cap') 28 1 m (cels os)) ∧ Hid (IsAr wr a (AI (mixed os k)) F) ∧ Hid (Upd [] (F ++ own (.slice ad' m cap')) w wr)) (fun i _ => m - (intOf i).toNat)
              case atStart =>
                refine ⟨0, rfl, by omega, HS, ?_, HU⟩
                have : mixed os 0 = List.replicate m 1 := by simp [mixed, HL.out]
                rw [this]
                exact HA
              case round =>
                clear HS HA HU
                obtain ⟨k, rfl, hk, HS, HA, HU⟩ := hrel
                by_cases hlt : k < m
                · obtain ⟨g3, off3, cap3, hv, _, ho3, hcell3, _, _⟩ := HS.out.at (by omega)
                  obtain ⟨rfl, rfl⟩ : ad' = some ⟨g3, off3, none⟩ ∧ cap' = cap3 := by injection hv; exact ⟨by assumption, by assumption⟩
                  obtain ⟨y, hy⟩ : ∃ y, os[k]? = some y := ⟨_, List.getElem?_eq_getElem (by rw [HL.out]; omega)⟩
                  have hc3 := hcell3 k (.int .u64 y) (by simp [cels, hy])
                  have hyu := HO.out y (List.mem_of_getElem? hy)
                  have c1 := arena_Set HA.out (AI_ok (by rw [mixed_len (by rw [HL.out]; omega), HL.out]; omega) (mixed_u HO.out)) 2 k y (by unfold U64; omega) hyu
                  rw [(AI_set hy (by rw [HL.out]; omega)).1, (AI_set hy (by rw [HL.out]; omega)).2] at c1
                  have C1 := Lib.hid c1
                  have HO3 := Lib.hid ho3
                  clear c1 hcell3 hv hy ho3 hyu
                  go_wp2_with (fail)
                  refine Calls.mono C1.out ?_
                  rintro e w4 ⟨rfl, hA4, hU4⟩
                  have HA4 := Lib.hid hA4
                  have HS4 := Lib.hid (HS.out.go (hU4.same HS.out.lt fun k hk hm => HD.out k hm hk))
                  have HU4 := Lib.hid (HU.out.trans (hU4.weaken (F := F ++ own (.slice (some ⟨g3, off3, none⟩) m cap')) (F' := F ++ own (.slice (some ⟨g3, off3, none⟩) m cap')) (by simp +contextual) (fun k hk => .inl hk)))
                  clear hA4 hU4 C1
                  go_wp2
                  go_roundw
                  case rel => exact ⟨k + 1, by go_num, by omega, HS4, HA4, HU4⟩
                  case measure => simp [intOf]; omega
                · have hk2 : k = m := by omega
                  have hmo : mixed os k = os := by rw [hk2]; unfold mixed; rw [HL.out, Nat.sub_self, List.take_of_length_le (by rw [HL.out]; omega)]; simp
                  rw [hmo] at HA
                  have hlt' : ¬ ((k : Int) < (m : Int)) := by omega
                  clear hlt hk2 hmo
                  go_wp2
                  obtain ⟨w5, rfl⟩ : ∃ wo : World, wo = wr := ⟨_, rfl⟩
                  have hok := AI_ok (os := os) (by rw [HL.out]; omega) HO.out
                  have HOK := Lib.hid hok
                  clear hok
                  go_loopw [12] (fun i wr => ∃ (k n' : Nat), i = .int .i64 k ∧ 1 ≤ k ∧ k ≤ m + 1 ∧ wr = w5.drewN n') (fun i _ => m + 1 - (intOf i).toNat)
                  case atStart => exact ⟨1, 0, rfl, by omega, by omega, rfl⟩
                  case round =>
                    obtain ⟨k, n', rfl, hk1, hk, rfl⟩ := hrel
                    obtain ⟨j, rfl⟩ : ∃ j, k = j + 1 := ⟨k - 1, by omega⟩
                    by_cases hlt : j + 1 < m
                    · obtain ⟨g3, off3, cap3, hv, _, ho3, hcell3, _, _⟩ := HS.out.at (by omega)
                      obtain ⟨rfl, rfl⟩ : ad' = some ⟨g3, off3, none⟩ ∧ cap' = cap3 := by injection hv; exact ⟨by assumption, by assumption⟩
                      obtain ⟨y, hy⟩ : ∃ y, os[j + 1]? = some y := ⟨_, List.getElem?_eq_getElem (by rw [HL.out]; omega)⟩
                      obtain ⟨z, hz⟩ : ∃ z, os[j]? = some z := ⟨_, List.getElem?_eq_getElem (by rw [HL.out]; omega)⟩
                      have hc3 := hcell3 (j + 1) (.int .u64 y) (by simp [cels, hy])
                      have hc4 := hcell3 j (.int .u64 z) (by simp [cels, hz])
                      have hgz : os.getD (j + 1 - 1) 0 = z := by simp [List.getD, hz]
                      have hi1 : ((j : Int) + 1 < (m : Int)) := by omega
                      have hi2 : ((j : Int) < (m : Int)) := by omega
                      have e1 : IntKind.i64.wrap ((j : Int) + 1 - 1) = (j : Int) := by rw [show (j : Int) + 1 - 1 = j by omega]; exact IntWalk.i64_in _ (by omega)
                      have e2 : IntKind.i64.wrap (j : Int) = (j : Int) := IntWalk.i64_in _ (by omega)
                      have hU : U64 (2 + 2 * ((j : Int) + 1)) := by unfold U64; omega
                      have HRH := Lib.hid (fun W : World => ref_Head 201 ((j : Int) + 1) W (by unfold I64; omega) (by unfold I64; omega))
                      by_cases hz1 : z = wHead 201 ((j : Int) + 1)
                      · have hzn : os.getD (j + 1 - 1) 0 = wHead 201 ((j + 1 : Nat) : Int) := by rw [hgz, hz1]; congr 1
                        have c1 := arena_Leads (HA.out.drewN n') HOK.out (2 + 2 * ((j : Int) + 1)) hU
                        have r1 := AI_leads_in (i := j + 1) (by omega) (by rw [HL.out]; exact hlt) (by rw [HL.out]; omega) hzn
                        rw [show (((j + 1 : Nat)) : Int) = (j : Int) + 1 by omega] at r1
                        rw [r1] at c1
                        have C1 := Lib.hid c1
                        have rb := AI_blk_in (i := j + 1) (by omega) (by rw [HL.out]; exact hlt) (by rw [HL.out]; omega) hzn
                        rw [show (((j + 1 : Nat)) : Int) = (j : Int) + 1 by omega] at rb
                        have R2 := Lib.hid (show (AI os).getF (2 + 2 * ((j : Int) + 1)) ((j : Int) + 1) = (y, 0) by
                          unfold Ar.getF
                          rw [rb]
                          simp only []
                          rw [if_pos (by show 0 ≤ _ ∧ _ < ((os.length : Nat) : Int); rw [HL.out]; omega), show ((j : Int) + 1).toNat = j + 1 by omega]
                          simp [List.getD, hy])
                        have R3 := Lib.hid (show (AI os).sizeOf (2 + 2 * ((j : Int) + 1)) = (m : Int) by
                          unfold Ar.sizeOf
                          rw [rb]
                          simp only []
                          exact congrArg (fun n : Nat => (n : Int)) HL.out)
                        have hzb : (z != wHead 201 ((j : Int) + 1)) = false := by rw [hz1]; simp
                        clear c1 r1 rb hzn hcell3 hv hy hz hgz hz1
                        go_wp2_with (fail)
                        refine Calls.mono C1.out ?_
                        rintro e w' ⟨rfl, n1, rfl⟩
                        go_wp2_with (fail)
                        go_quiet ((go_at_call 19; with_reducible exact qsame2 (HRH.out _)))
                        clear e1 e2
                        go_wp2_with (fail)
                        have c1 := arena_Get (HA.out.drewN (n' + n1 + nq)) HOK.out (2 + 2 * ((j : Int) + 1)) ((j : Int) + 1) hU
                        rw [R2.out] at c1
                        refine Calls.mono c1 ?_
                        clear c1
                        rintro e w' ⟨rfl, n2, rfl⟩
                        go_wp2_with (fail)
                        have c1 := arena_Size (HA.out.drewN (n' + n1 + nq + n2)) HOK.out (2 + 2 * ((j : Int) + 1)) hU
                        rw [R3.out] at c1
                        refine Calls.mono c1 ?_
                        clear c1
                        rintro e w' ⟨rfl, n3, rfl⟩
                        go_wp2
                        go_roundw
                        case rel => exact ⟨j + 1 + 1, _, by go_num, by omega, by omega, rfl⟩
                        case measure => simp [intOf]; omega
                      · have hzn : ¬ os.getD (j + 1 - 1) 0 = wHead 201 ((j + 1 : Nat) : Int) := by rw [hgz]; exact hz1
                        have c1 := arena_Leads (HA.out.drewN n') HOK.out (2 + 2 * ((j : Int) + 1)) hU
                        have r1 := AI_leads_out (i := j + 1) (by omega) (by rw [HL.out]; exact hlt) (by rw [HL.out]; omega) hzn
                        rw [show (((j + 1 : Nat)) : Int) = (j : Int) + 1 by omega] at r1
                        rw [r1] at c1
                        have C1 := Lib.hid c1
                        have hzb : (z != wHead 201 ((j : Int) + 1)) = true := by rw [bne_iff_ne]; exact hz1
                        clear c1 r1 hzn hcell3 hv hy hz hgz hz1
                        go_wp2_with (fail)
                        refine Calls.mono C1.out ?_
                        rintro e w' ⟨rfl, n1, rfl⟩
                        go_wp2_with (fail)
                        go_quiet ((go_at_call 19; with_reducible exact qsame2 (HRH.out _)))
                        clear e1 e2
                        go_wp2
                        go_roundw
                        case rel => exact ⟨j + 1 + 1, _, by go_num, by omega, by omega, rfl⟩
                        case measure => simp [intOf]; omega
                    · have hlt' : ¬ ((j : Int) + 1 < (m : Int)) := by omega
                      clear hlt
                      go_wp2
                      go_ret
                      exact ⟨rfl, (HU.out.drewN _).fr.below (Nat.le_refl _) (fun _ hk => absurd hk List.not_mem_nil)⟩
      · obtain ⟨g, off, had⟩ : ∃ g off, ad = some ⟨g, off, none⟩ := by
          rcases HIN.out.2.2.2 with h | ⟨g, off, h, _⟩
          · omega
          · exact ⟨g, off, h⟩
        obtain ⟨os, HL, HO, hg, HLC, HN⟩ := take_facts HIN.out len (Nat.le_refl _) hl0 had
        clear HIN hnil h0
        subst had
        go_enter Try.func5, Try.ntmps5
        go_wp2_with (first | (go_at_call 8; with_reducible refine Calls.mono (law_awake _) ?_; rintro e w' ⟨rfl, hU⟩))
        have HU := Lib.hid hU
        clear hU
        refine Calls.mono (arena_New_in 64 (by omega) (by omega) _) ?_
        rintro e w1 ⟨a, F0, rfl, hA, hU1⟩
        have HA := Lib.hid hA
        have HU1 := Lib.hid (HU.out.trans hU1)
        clear hA hU1 HU
        go_wp2_with (fail)
        have c1 := arena_Alloc (A := ⟨64, false, []⟩) HA.out ⟨by decide, by decide, by decide, by simp⟩ 200 (len : Nat)
        rw [AI_alloc len (by omega)] at c1
        refine Calls.mono c1 ?_
        clear c1
        rintro e w2 ⟨rfl, F, hA, hU2⟩
        have HA2 := Lib.hid hA
        have HU2 := Lib.hid (HU1.out.trans hU2)
        clear hA hU2 HA HU1
        have hlt2 := HA2.out.lt
        have HLT := Lib.hid hlt2
        clear hlt2
        go_wp2_with (at_builtin; refine wpList_app _ rfl (.tmp 36) (.tmp 37) 44 rfl 28 i0 (.int .u64 0) 1 8 Try.ulWords hi hz0 hz1 hz2 rfl _ 0 [] rfl (by exact Sl.empty rfl) ⟨g, off, none⟩ len cap (cels os) rfl HLC.out (by exact HN.out _ ((HU2.out.alloc _).fr.block g hg (by simp))) (cels_oneCell _) (by unfold maxLen; omega) (by omega) ?go)
        case go =>
          intro ad' cap' w3 hs3 hU3
          obtain ⟨HA3, HU3, HD⟩ := new_slice HA2.out HU2.out hU3
          have HS3 := Lib.hid hs3
          clear HA2 HU2 HLT HN HLC hs3 hU3
          go_wp2
          go_loopw [41] (fun i wr => ∃ (k : Nat) (os : List Int), i = .int .i64 k ∧ k ≤ len2 ∧ Hid (os.length = len) ∧ Hid (∀ x ∈ os, U64 x) ∧ Hid (Sl wr (.slice ad' len cap') 28 1 len (cels os)) ∧ Hid (IsAr wr a (AI (List.replicate len 1)) F) ∧ Hid (Upd [] (F ++ own (.slice ad' len cap')) w wr)) (fun i _ => len2 - (intOf i).toNat)
          case atStart => exact ⟨0, os, rfl, by omega, HL, HO, HS3, HA3, HU3⟩
          case round =>
            clear HL HO HS3 HA3 HU3
            obtain ⟨k, os, rfl, hk, HL, HO, HS, HA, HU⟩ := hrel
            by_cases hlt : k < len2
            · obtain ⟨x, hx⟩ : ∃ x, hs[k]? = some x := ⟨_, List.getElem?_eq_getElem (by rw [HZ2.out]; exact hlt)⟩
              have hxb := wf_u8 (HW2.out x (List.mem_of_getElem? hx))
              rcases HC2.out with h0 | ⟨g2, off2, had2, hg2, hcell2⟩
              · omega
              subst had2
              have hc1 := hcell2 k x hx
              rw [← World.cell?_of_block (HU.out.fr.block g2 hg2 (by simp))] at hc1
              clear hx hcell2
              obtain ⟨X, rfl⟩ := Int.eq_ofNat_of_zero_le hxb.1
              by_cases hx1 : X + 1 < len
              · obtain ⟨g3, off3, cap3, hv, _, ho3, hcell3, hfree3, hput3⟩ := HS.out.at (by omega)
                obtain ⟨rfl, rfl⟩ : ad' = some ⟨g3, off3, none⟩ ∧ cap' = cap3 := by injection hv; exact ⟨by assumption, by assumption⟩
                obtain ⟨y, hy⟩ : ∃ y, os[X]? = some y := ⟨_, List.getElem?_eq_getElem (by rw [HL.out]; omega)⟩
                have hc3 := hcell3 X (.int .u64 y) (by simp [cels, hy])
                have hx1' : ((X : Int) + 1 < (len : Int)) := by omega
                have HP := Lib.hid (hput3 X (.int .u64 (wHead 201 ((X : Int) + 1))) (by omega))
                have HO3 := Lib.hid ho3
                clear hcell3 hput3 hv hy ho3
                go_wp2_with (first | (go_at_call 19; with_reducible refine Calls.mono (ref_Head _ _ _ (by unfold I64; omega) (by unfold I64; omega)) ?_; rintro e w' ⟨rfl, rfl⟩))
                go_roundw
                case rel =>
                  refine ⟨k + 1, os.set X (wHead 201 ((X : Int) + 1)), by go_num, by omega, by show _ = _; rw [List.length_set]; exact HL.out, ?_, ?_, ?_, ?_⟩
                  · intro x hx
                    rcases List.mem_or_eq_of_mem_set hx with hx | rfl
                    · exact HO.out x hx
                    · exact wHead_u _ _
                  · have := HP.out
                    rw [cels_set] at this
                    exact this
                  · exact HA.out.go fun k hk => heap_setCell_other wr _ k _ (fun e => HD.out k hk (by rw [HO3.out]; simp at e; simp [e]))
                  · exact HU.out.set (by rw [HO3.out]; simp) _ _
                case measure => simp [intOf]; omega
              · have hx1' : ¬ ((X : Int) + 1 < (len : Int)) := by omega
                clear hx1
                go_wp2
                go_roundw
                case rel => exact ⟨k + 1, os, by go_num, by omega, HL, HO, HS, HA, HU⟩
                case measure => simp [intOf]; omega
            · have hlt' : ¬ ((k : Int) < (len2 : Int)) := by omega
              clear hlt
              go_wp2
              obtain ⟨wo, rfl⟩ : ∃ wo : World, wo = wr := ⟨_, rfl⟩
              go_loopw [63] (fun i wr => ∃ k : Nat, i = .int .i64 k ∧ k ≤ len ∧ Hid (Sl wr (.slice ad' len cap') 28 1 len (cels os)) ∧ Hid (IsAr wr a (AI (mixed os k)) F) ∧ Hid (Upd [] (F ++ own (.slice ad' len cap')) w wr)) (fun i _ => len - (intOf i).toNat)
              case atStart =>
                refine ⟨0, rfl, by omega, HS, ?_, HU⟩
                have : mixed os 0 = List.replicate len 1 := by simp [mixed, HL.out]
                rw [this]
                exact HA
              case round =>
                clear HS HA HU
                obtain ⟨k, rfl, hk, HS, HA, HU⟩ := hrel
                by_cases hlt : k < len
                · obtain ⟨g3, off3, cap3, hv, _, ho3, hcell3, _, _⟩ := HS.out.at (by omega)
                  obtain ⟨rfl, rfl⟩ : ad' = some ⟨g3, off3, none⟩ ∧ cap' = cap3 := by injection hv; exact ⟨by assumption, by assumption⟩
                  obtain ⟨y, hy⟩ : ∃ y, os[k]? = some y := ⟨_, List.getElem?_eq_getElem (by rw [HL.out]; omega)⟩
                  have hc3 := hcell3 k (.int .u64 y) (by simp [cels, hy])
                  have hyu := HO.out y (List.mem_of_getElem? hy)
                  have c1 := arena_Set HA.out (AI_ok (by rw [mixed_len (by rw [HL.out]; omega), HL.out]; omega) (mixed_u HO.out)) 2 k y (by unfold U64; omega) hyu
                  rw [(AI_set hy (by rw [HL.out]; omega)).1, (AI_set hy (by rw [HL.out]; omega)).2] at c1
                  have C1 := Lib.hid c1
                  have HO3 := Lib.hid ho3
                  clear c1 hcell3 hv hy ho3 hyu
                  go_wp2_with (fail)
                  refine Calls.mono C1.out ?_
                  rintro e w4 ⟨rfl, hA4, hU4⟩
                  have HA4 := Lib.hid hA4
                  have HS4 := Lib.hid (HS.out.go (hU4.same HS.out.lt fun k hk hm => HD.out k hm hk))
                  have HU4 := Lib.hid (HU.out.trans (hU4.weaken (F := F ++ own (.slice (some ⟨g3, off3, none⟩) len cap')) (F' := F ++ own (.slice (some ⟨g3, off3, none⟩) len cap')) (by simp +contextual) (fun k hk => .inl hk)))
                  clear hA4 hU4 C1
                  go_wp2
                  go_roundw
                  case rel => exact ⟨k + 1, by go_num, by omega, HS4, HA4, HU4⟩
                  case measure => simp [intOf]; omega
                · have hk2 : k = len := by omega
                  have hmo : mixed os k = os := by rw [hk2]; unfold mixed; rw [HL.out, Nat.sub_self, List.take_of_length_le (by rw [HL.out]; omega)]; simp
                  rw [hmo] at HA
                  have hlt' : ¬ ((k : Int) < (len : Int)) := by omega
                  clear hlt hk2 hmo
                  go_wp2
                  obtain ⟨w5, rfl⟩ : ∃ wo : World, wo = wr := ⟨_, rfl⟩
                  have hok := AI_ok (os := os) (by rw [HL.out]; omega) HO.out
                  have HOK := Lib.hid hok
                  clear hok
                  go_loopw [12] (fun i wr => ∃ (k n' : Nat), i = .int .i64 k ∧ 1 ≤ k ∧ k ≤ len + 1 ∧ wr = w5.drewN n') (fun i _ => len + 1 - (intOf i).toNat)
                  case atStart => exact ⟨1, 0, rfl, by omega, by omega, rfl⟩
                  case round =>
                    obtain ⟨k, n', rfl, hk1, hk, rfl⟩ := hrel
                    obtain ⟨j, rfl⟩ : ∃ j, k = j + 1 := ⟨k - 1, by omega⟩
                    by_cases hlt : j + 1 < len
                    · obtain ⟨g3, off3, cap3, hv, _, ho3, hcell3, _, _⟩ := HS.out.at (by omega)
                      obtain ⟨rfl, rfl⟩ : ad' = some ⟨g3, off3, none⟩ ∧ cap' = cap3 := by injection hv; exact ⟨by assumption, by assumption⟩
                      obtain ⟨y, hy⟩ : ∃ y, os[j + 1]? = some y := ⟨_, List.getElem?_eq_getElem (by rw [HL.out]; omega)⟩
                      obtain ⟨z, hz⟩ : ∃ z, os[j]? = some z := ⟨_, List.getElem?_eq_getElem (by rw [HL.out]; omega)⟩
                      have hc3 := hcell3 (j + 1) (.int .u64 y) (by simp [cels, hy])
                      have hc4 := hcell3 j (.int .u64 z) (by simp [cels, hz])
                      have hgz : os.getD (j + 1 - 1) 0 = z := by simp [List.getD, hz]
                      have hi1 : ((j : Int) + 1 < (len : Int)) := by omega
                      have hi2 : ((j : Int) < (len : Int)) := by omega
                      have e1 : IntKind.i64.wrap ((j : Int) + 1 - 1) = (j : Int) := by rw [show (j : Int) + 1 - 1 = j by omega]; exact IntWalk.i64_in _ (by omega)
                      have e2 : IntKind.i64.wrap (j : Int) = (j : Int) := IntWalk.i64_in _ (by omega)
                      have hU : U64 (2 + 2 * ((j : Int) + 1)) := by unfold U64; omega
                      have HRH := Lib.hid (fun W : World => ref_Head 201 ((j : Int) + 1) W (by unfold I64; omega) (by unfold I64; omega))
                      by_cases hz1 : z = wHead 201 ((j : Int) + 1)
                      · have hzn : os.getD (j + 1 - 1) 0 = wHead 201 ((j + 1 : Nat) : Int) := by rw [hgz, hz1]; congr 1
                        have c1 := arena_Leads (HA.out.drewN n') HOK.out (2 + 2 * ((j : Int) + 1)) hU
                        have r1 := AI_leads_in (i := j + 1) (by omega) (by rw [HL.out]; exact hlt) (by rw [HL.out]; omega) hzn
                        rw [show (((j + 1 : Nat)) : Int) = (j : Int) + 1 by omega] at r1
                        rw [r1] at c1
                        have C1 := Lib.hid c1
                        have rb := AI_blk_in (i := j + 1) (by omega) (by rw [HL.out]; exact hlt) (by rw [HL.out]; omega) hzn
                        rw [show (((j + 1 : Nat)) : Int) = (j : Int) + 1 by omega] at rb
                        have R2 := Lib.hid (show (AI os).getF (2 + 2 * ((j : Int) + 1)) ((j : Int) + 1) = (y, 0) by
                          unfold Ar.getF
                          rw [rb]
                          simp only []
                          rw [if_pos (by show 0 ≤ _ ∧ _ < ((os.length : Nat) : Int); rw [HL.out]; omega), show ((j : Int) + 1).toNat = j + 1 by omega]
                          simp [List.getD, hy])
                        have R3 := Lib.hid (show (AI os).sizeOf (2 + 2 * ((j : Int) + 1)) = (len : Int) by
                          unfold Ar.sizeOf
                          rw [rb]
                          simp only []
                          exact congrArg (fun n : Nat => (n : Int)) HL.out)
                        have hzb : (z != wHead 201 ((j : Int) + 1)) = false := by rw [hz1]; simp
                        clear c1 r1 rb hzn hcell3 hv hy hz hgz hz1
                        go_wp2_with (fail)
                        refine Calls.mono C1.out ?_
                        rintro e w' ⟨rfl, n1, rfl⟩
                        go_wp2_with (fail)
                        go_quiet ((go_at_call 19; with_reducible exact qsame2 (HRH.out _)))
                        clear e1 e2
                        go_wp2_with (fail)
                        have c1 := arena_Get (HA.out.drewN (n' + n1 + nq)) HOK.out (2 + 2 * ((j : Int) + 1)) ((j : Int) + 1) hU
                        rw [R2.out] at c1
                        refine Calls.mono c1 ?_
                        clear c1
                        rintro e w' ⟨rfl, n2, rfl⟩
                        go_wp2_with (fail)
                        have c1 := arena_Size (HA.out.drewN (n' + n1 + nq + n2)) HOK.out (2 + 2 * ((j : Int) + 1)) hU
                        rw [R3.out] at c1
                        refine Calls.mono c1 ?_
                        clear c1
                        rintro e w' ⟨rfl, n3, rfl⟩
                        go_wp2
                        go_roundw
                        case rel => exact ⟨j + 1 + 1, _, by go_num, by omega, by omega, rfl⟩
                        case measure => simp [intOf]; omega
                      · have hzn : ¬ os.getD (j + 1 - 1) 0 = wHead 201 ((j + 1 : Nat) : Int) := by rw [hgz]; exact hz1
                        have c1 := arena_Leads (HA.out.drewN n') HOK.out (2 + 2 * ((j : Int) + 1)) hU
                        have r1 := AI_leads_out (i := j + 1) (by omega) (by rw [HL.out]; exact hlt) (by rw [HL.out]; omega) hzn
                        rw [show (((j + 1 : Nat)) : Int) = (j : Int) + 1 by omega] at r1
                        rw [r1] at c1
                        have C1 := Lib.hid c1
                        have hzb : (z != wHead 201 ((j : Int) + 1)) = true := by rw [bne_iff_ne]; exact hz1
                        clear c1 r1 hzn hcell3 hv hy hz hgz hz1
                        go_wp2_with (fail)
                        refine Calls.mono C1.out ?_
                        rintro e w' ⟨rfl, n1, rfl⟩
                        go_wp2_with (fail)
                        go_quiet ((go_at_call 19; with_reducible exact qsame2 (HRH.out _)))
                        clear e1 e2
                        go_wp2
                        go_roundw
                        case rel => exact ⟨j + 1 + 1, _, by go_num, by omega, by omega, rfl⟩
                        case measure => simp [intOf]; omega
                    · have hlt' : ¬ ((j : Int) + 1 < (len : Int)) := by omega
                      clear hlt
                      go_wp2
                      go_ret
                      exact ⟨rfl, (HU.out.drewN _).fr.below (Nat.le_refl _) (fun _ hk => absurd hk List.not_mem_nil)⟩

end Go.Proofs.Ytcfmemnokecgbaa
