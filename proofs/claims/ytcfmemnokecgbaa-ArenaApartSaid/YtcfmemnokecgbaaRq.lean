/- ArenaFlips: what is laid behind a flip lies where it would lie in a new arena, half a length on, or at the beginning again. -/
import Derived.Test.YtcfmemnokecgbaaRp
import Derived.Test.YtcfmemnokecgbaaLf
namespace Go.Proofs.Ytcfmemnokecgbaa
open Go.RowKit

theorem wf_u8' {x : Int} (h : (Lit.int .u8 x).wf = true) : 0 ≤ x ∧ x ≤ 255 := by
  simpa [Lit.wf, IntKind.min, IntKind.max, IntKind.bits, IntKind.signed] using h

theorem Pr.new {w0 w1 w2 : World} {a b : Nat} {A : Ar} {F G : List Nat} (ok : A.ok) (hA : IsAr w1 a A F) (U1 : Upd [] F w0 w1) (hR : IsRf w2 b A G) (U2 : Upd [] G w1 w2) : Pr w2 a b A F G ∧ Upd [] (F ++ G) w0 w2 := by
  refine ⟨⟨ok, hA.go fun k hk => U2.fr.block k (hA.lt k hk) (by simp), hR, fun k hk hm => ?_⟩, ?_⟩
  · rcases U2.new k hm with h | h
    · cases h
    · have := hA.lt k hk; omega
  · have V : Upd F (F ++ G) w1 w2 := U2.weaken (by simp) (fun k hk => by simpa using hk)
    exact U1.trans V

theorem new_ok {n : Int} (h1 : 2 ≤ n) (h2 : n ≤ 32768) : (⟨n.toNat, false, []⟩ : Ar).ok := by
  refine ⟨?_, ?_, ?_, ?_⟩
  · show 2 ≤ n.toNat; omega
  · show n.toNat ≤ 32768; omega
  · simp [flat]
  · simp

/-- How alike two arenas are that differ in their halves alone. -/
theorem flip_alloc {n : Nat} {h : Bool} {L : List Bk} (hok : (⟨n, h, L⟩ : Ar).ok) (t s : Int) :
    (∃ (L' : List Bk) (v0 : Int), (⟨n, h, L⟩ : Ar).allocR t s = (⟨n, h, L'⟩, (v0 + 2 * ((⟨n, h, L⟩ : Ar).base : Nat), 0)) ∧ (⟨n, false, L⟩ : Ar).allocR t s = (⟨n, false, L'⟩, (v0, 0)) ∧ 0 ≤ v0 ∧ v0 ≤ 131072) ∨
    (∃ e : Int, e ≠ 0 ∧ (⟨n, h, L⟩ : Ar).allocR t s = (⟨n, h, L⟩, (0, e)) ∧ (⟨n, false, L⟩ : Ar).allocR t s = (⟨n, false, L⟩, (0, e))) := by
  have hn : n ≤ 32768 := hok.2.1
  have hfl : (flat L).length ≤ n := hok.2.2.1
  have hb := (⟨n, h, L⟩ : Ar).base_le
  have hb0 : (⟨n, false, L⟩ : Ar).base = 0 := rfl
  have ht : (⟨n, h, L⟩ : Ar).top = (⟨n, h, L⟩ : Ar).base + (flat L).length := rfl
  have ht0 : (⟨n, false, L⟩ : Ar).top = (flat L).length := by unfold Ar.top; rw [hb0]; simp
  have hbn : (⟨n, h, L⟩ : Ar).base ≤ n := hb
  unfold Ar.allocR
  by_cases h1 : TagOk t
  · by_cases h2 : s < 0 ∨ 4096 < s
    · refine .inr ⟨2, by decide, ?_, ?_⟩
      · rw [if_neg (by simpa using h1), if_pos h2]
      · rw [if_neg (by simpa using h1), if_pos h2]
    · by_cases h3 : n < (flat L).length + s.toNat + 1
      · refine .inr ⟨10, by decide, ?_, ?_⟩
        · rw [if_neg (by simpa using h1), if_neg h2, if_pos (by rw [ht]; show _ + n < _; omega)]
        · rw [if_neg (by simpa using h1), if_neg h2, if_pos (by rw [ht0, hb0]; show _ + n < _; omega)]
      · refine .inl ⟨L ++ [(⟨t.toNat, List.replicate s.toNat 1⟩ : Bk)], wPtr (((flat L).length : Nat) + 1), ?_, ?_, ?_, ?_⟩
        · rw [if_neg (by simpa using h1), if_neg h2, if_neg (by rw [ht]; show ¬ (_ + n < _); omega)]
          have e : wPtr ((((⟨n, h, L⟩ : Ar).top : Nat) : Int) + 1) = wPtr (((flat L).length : Nat) + 1) + 2 * (((⟨n, h, L⟩ : Ar).base : Nat) : Int) := by
            rw [ht]
            unfold wPtr
            rw [if_neg (by omega), if_neg (by omega)]
            omega
          rw [e]
          rfl
        · rw [if_neg (by simpa using h1), if_neg h2, if_neg (by rw [ht0, hb0]; show ¬ (_ + n < _); omega), ht0]
          rfl
        · unfold wPtr; rw [if_neg (by omega)]; omega
        · unfold wPtr; rw [if_neg (by omega)]; omega
  · refine .inr ⟨1, by decide, ?_, ?_⟩
    · rw [if_pos (by simpa using h1)]
    · rw [if_pos (by simpa using h1)]


set_option maxRecDepth 100000 in
set_option maxHeartbeats 3200000 in
theorem law_flips (n : Int) (ad ad2 : Option Addr) (len cap len2 cap2 : Nat) (S : List St) (zs : List Int) (w : World) (hin : InSteps w ad len S) (hin2 : InRow .u8 w ad2 len2 zs) :
    Calls Try.prog 4 #[.int .i64 n, .slice ad len cap, .slice ad2 len2 cap2] w fun e w' => e = .returned (.bool true) ∧ Below w.heap.size w w' := by
  have HIN := Lib.hid hin
  have hlen := hin.2.1
  have hlen2 := hin2.2.1
  have HIN2 := Lib.hid hin2
  clear hin hin2
  by_cases hn : n < 2 ∨ 32768 < n
  · skip
    rcases hn with hn | hn
    all_goals
      go_enter Try.func4, Try.ntmps4
      go_wp2_with (first | (go_at_call 8; with_reducible refine Calls.mono (law_awake _) ?_; rintro e w' ⟨rfl, hU⟩) | (go_at_call 9; with_reducible refine Calls.mono (arena_New_no _ (by omega) _) ?_; rintro e w' ⟨rfl, rfl⟩) | (go_at_call 14; with_reducible refine Calls.mono (ref_New_no _ (by omega) _) ?_; rintro e w' ⟨rfl, rfl⟩))
      go_ret
      exact ⟨rfl, (‹Upd [] [] w _›).fr.below (Nat.le_refl _) (fun _ hk => absurd hk List.not_mem_nil)⟩
  · have h1 : 2 ≤ n := by omega
    have h2 : n ≤ 32768 := by omega
    clear hn
    go_enter Try.func4, Try.ntmps4
    go_wp2_with (first | (go_at_call 8; with_reducible refine Calls.mono (law_awake _) ?_; rintro e w' ⟨rfl, hU⟩))
    have HU := Lib.hid hU
    clear hU
    refine Calls.mono (arena_New_in n h1 h2 _) ?_
    rintro e w1 ⟨a, F0, rfl, hA, hU1⟩
    have HA := Lib.hid hA
    have HU1 := Lib.hid (HU.out.trans hU1)
    clear hA hU1
    go_wp2_with (fail)
    refine Calls.mono (ref_New_in n h1 h2 _) ?_
    rintro e w2 ⟨b, G0, rfl, hR, hU2⟩
    obtain ⟨hp, hU⟩ := Pr.new (new_ok h1 h2) HA.out HU1.out hR hU2
    have HP := Lib.hid hp
    have HU2 := Lib.hid hU
    clear hp hU hR hU2 HA HU1 HU
    go_wp2_with (fail)
    refine Calls.mono (law_play HP.out ad len cap S HIN.out HU2.out) ?_
    rintro e w4 ⟨rfl, A4, F4, G4, hp, hn4, hU⟩
    have HP4 := Lib.hid hp
    have HN4 := Lib.hid hn4
    have HU4 := Lib.hid hU
    clear hp hn4 hU HP HU2
    go_wp2_with (fail)
    refine Calls.mono (arena_Flip HP4.out.ar HP4.out.ok) ?_
    rintro e w5 ⟨rfl, F5, hA, hU⟩
    obtain ⟨h, hfl⟩ : ∃ h, A4.flip = ⟨n.toNat, h, []⟩ := ⟨!A4.hi, by unfold Ar.flip; rw [HN4.out]⟩
    have hok5 := flip_ok HP4.out.ok
    rw [hfl] at hA hok5
    have HOK := Lib.hid hok5
    have HA := Lib.hid hA
    have HU5 := Lib.hid (HU4.out.trans (hU.weaken (F := F4 ++ G4) (F' := F5 ++ G4) (by simp +contextual) (fun k hk => by simp only [List.mem_append] at hk ⊢; rcases hk with h | h <;> simp [h])))
    clear hA hU hfl hok5 HP4 HU4 HN4
    go_wp2_with (fail)
    refine Calls.mono (arena_New_in n h1 h2 _) ?_
    rintro e w6 ⟨o, FO, rfl, hO, hU⟩
    have hA6 := HA.out.go (fun k hk => hU.fr.block k (HA.out.lt k hk) (by simp))
    have HDJ := Lib.hid (show ∀ k ∈ F5, k ∉ FO from fun k hk hm => by
      rcases hU.new k hm with h | h
      · cases h
      · have := HA.out.lt k hk; omega)
    have HU6 := Lib.hid ((HU5.out.trans (hU.weaken (F := F5 ++ G4) (F' := F5 ++ G4 ++ FO) (by simp) (fun k hk => by simp only [List.mem_append] at hk ⊢; rcases hk with (h | h) | h <;> simp [h]))).sub (F2 := F5 ++ FO) (fun k hk => by simp only [List.mem_append] at hk ⊢; rcases hk with h | h <;> simp [h]))
    obtain ⟨hb, hcb, ht1, hb1, _⟩ := hA6.half
    have HA6 := Lib.hid hA6
    have HO6 := Lib.hid hO
    clear hA6 hO hU HA HU5
    have hm := h2
    have HOK' := HOK
    obtain ⟨m, hmm⟩ : ∃ m : Nat, n.toNat = m := ⟨_, rfl⟩
    rw [hmm] at HA6 HO6 HOK' ht1 hb1
    have hm2 : m ≤ 32768 := by omega
    clear HOK hmm hm
    obtain ⟨B, hB⟩ : ∃ B : Nat, ∀ L, (⟨m, h, L⟩ : Ar).base = B := ⟨(⟨m, h, []⟩ : Ar).base, fun _ => rfl⟩
    have hBm : B ≤ 32768 := by have := (⟨m, h, []⟩ : Ar).base_le; rw [hB] at this; have : B ≤ m := this; omega
    have HB := Lib.hid hB
    have hT : (⟨m, h, []⟩ : Ar).top = B := by unfold Ar.top; rw [hB]; simp [flat]
    have HTop := Lib.hid (fun (w' : World) (hw : w'.heap = w6.heap) => ht1.out w' hw)
    have HBas := Lib.hid (fun (w' : World) (hw : w'.heap = w6.heap) => hb1.out w' hw)
    rw [hT] at HTop
    rw [hB] at HBas
    clear ht1 hb1 hT hB
    go_wp2
    go_region_held3 (fun w' => w'.cell? ⟨a, 0, none⟩ = some (.pointer (some ⟨hb, 0, none⟩)))
      (first | exact hcb | exact HC7.out)
      (first
        | (go_at_call 13; refine Calls.mono (HTop.out _ rfl) ?_; rintro e w7 ⟨rfl, rfl⟩)
        | (go_at_call 17; refine Calls.mono (HBas.out _ rfl) ?_; rintro e w7 ⟨rfl, rfl⟩)
        | (go_at_call 18; refine Calls.mono (arena_Blocks (HA6.out.drew) HOK'.out) ?_; rintro e w7 ⟨v, rfl, hs, hU⟩; obtain ⟨va, vc, rfl, _⟩ := (show Sl w7 v 28 1 0 _ from hs).form; have HC7 := Lib.hid ((World.cell?_of_block (w := w6) (hU.fr.block a (block_lt_of_cell hcb) (by simp))).trans hcb); have HU7 := Lib.hid hU; clear hs hU))
    have hsame : ∀ k, k < w6.heap.size → w7.heap[k]? = w6.heap[k]? := fun k hk => HU7.out.fr.block k hk (by simp)
    have HA7 := Lib.hid (HA6.out.go fun k hk => hsame k (HA6.out.lt k hk))
    have HO7 := Lib.hid (HO6.out.go fun k hk => hsame k (HO6.out.lt k hk))
    have HV7 := Lib.hid ((HU6.out.drew.trans (HU7.out.weaken (F := F5 ++ FO) (F' := F5 ++ FO) (by simp) (fun k hk => .inl hk))))
    clear HA6 HO6 HU6 HU7 HC7 HTop HBas hsame hcb
    go_wp2
    go_loopw [10] (fun i wr => ∃ (k : Nat) (L : List Bk) (F F2 : List Nat), i = .int .i64 k ∧ k ≤ len2 ∧ Hid ((⟨m, h, L⟩ : Ar).ok) ∧ Hid (IsAr wr a ⟨m, h, L⟩ F) ∧ Hid (IsAr wr o ⟨m, false, L⟩ F2) ∧ Hid (∀ k ∈ F, k ∉ F2) ∧ Hid (Upd [] (F ++ F2) w wr)) (fun i _ => len2 - (intOf i).toNat)
    case atStart => exact ⟨0, [], F5, FO, rfl, by omega, HOK'.out, HA7.out, HO7.out, HDJ.out, HV7.out⟩
    case round =>
      clear HA7 HO7 HDJ HV7 HOK'
      obtain ⟨k, L, F, F2, rfl, hk, HOK, HA, HO, HD, HU⟩ := hrel
      obtain ⟨wo, rfl⟩ : ∃ wo : World, wo = wr := ⟨_, rfl⟩
      by_cases hlt : (k : Int) < (len2 : Int)
      · by_cases hlt2 : (k : Int) < 60
        · obtain ⟨hz, _, hwf, hc⟩ := HIN2.out
          obtain ⟨x, hx⟩ : ∃ x, zs[k]? = some x := ⟨_, List.getElem?_eq_getElem (by rw [hz]; omega)⟩
          have hxb := wf_u8' (hwf x (List.mem_of_getElem? hx))
          rcases hc with h0 | ⟨g, off, rfl, hg, hcell⟩
          · omega
          have hg2 := hcell k x hx
          have hc1 : wo.cell? ⟨g, off + k, none⟩ = some (.int .u8 x) := by rw [World.cell?_of_block (HU.out.fr.block g hg (by simp))]; exact hg2
          have HC := Lib.hid hg2
          clear hx hcell hz hwf hg2
          rcases flip_alloc HOK.out ((k : Int) % 200) x with ⟨L', v0, e1, e2, v1, v2⟩ | ⟨e, he, e1, e2⟩
          · have hok2 := alloc_ok HOK.out ((k : Int) % 200) x
            rw [HB.out] at e1
            rw [e1] at hok2
            have HOK2 := Lib.hid hok2
            have E1 := Lib.hid e1
            have E2 := Lib.hid e2
            clear e1 e2 hok2
            have u1 : IntKind.u64.wrap (B : Int) = (B : Int) := IntWalk.u64_in _ (by omega)
            have u2 : IntKind.u64.wrap (2 * (B : Int)) = 2 * (B : Int) := IntWalk.u64_in _ (by omega)
            have u3 : IntKind.u64.wrap (v0 + 2 * (B : Int)) = v0 + 2 * (B : Int) := IntWalk.u64_in _ (by omega)
            have U123 := Lib.hid (And.intro u1 (And.intro u2 u3))
            clear u1 u2 u3
            go_wp2_with (fail)
            have c1 := arena_Alloc HA.out HOK.out ((k : Int) % 200) x
            rw [E1.out] at c1
            refine Calls.mono c1 ?_
            clear c1
            rintro e w2 ⟨rfl, F3, hA2, hU2⟩
            have hO2 := HO.out.go fun k hk => hU2.fr.block k (HO.out.lt k hk) (fun hm => HD.out k hm hk)
            have hD2 := hU2.off HO.out.lt (fun k hk hm => HD.out k hm hk)
            have HA2 := Lib.hid hA2
            have HO2 := Lib.hid hO2
            have HD2 := Lib.hid hD2
            have hUU := (HU.out.trans (hU2.weaken (F := F ++ F2) (F' := F3 ++ F2) (by simp +contextual) (fun k hk => by simp only [List.mem_append] at hk ⊢; rcases hk with h | h <;> simp [h])))
            have hc2 : w2.cell? ⟨g, off + k, none⟩ = some (.int .u8 x) := by rw [World.cell?_of_block (hUU.fr.block g hg (by simp))]; exact HC.out
            have HUU := Lib.hid hUU
            clear hA2 hO2 hD2 hU2 hUU hc1
            go_wp2_with (fail)
            have c1 := arena_Alloc HO2.out (show (⟨m, false, L⟩ : Ar).ok from HOK.out) ((k : Int) % 200) x
            rw [E2.out] at c1
            refine Calls.mono c1 ?_
            clear c1
            rintro e w3 ⟨rfl, F4, hO3, hU3⟩
            have hA3 := HA2.out.go fun k hk => hU3.fr.block k (HA2.out.lt k hk) (fun hm => HD2.out k hm hk)
            have hD3 := hU3.off HA2.out.lt (fun k hk hm => HD2.out k hm hk)
            obtain ⟨hb2, hcb2, _, hbs, _⟩ := hA3.half
            rw [HB.out] at hbs
            have HA3 := Lib.hid hA3
            have HO3 := Lib.hid hO3
            have HD3 := Lib.hid hD3
            have HU3 := Lib.hid (HUU.out.trans (hU3.weaken (F := F3 ++ F2) (F' := F3 ++ F4) (by simp +contextual) (fun k hk => by simp only [List.mem_append] at hk ⊢; rcases hk with h | h <;> simp [h])))
            clear hA3 hO3 hD3 hU3 hc2 HUU HA2 HO2 HD2
            obtain ⟨u1, u2, u3⟩ := U123.out
            go_wp2_with ((go_at_call 17; with_reducible refine Calls.mono (hbs.out _ rfl) ?_; rintro e w' ⟨rfl, rfl⟩))
            clear u1 u2 u3
            go_wp2
            go_roundw
            case rel => exact ⟨k + 1, L', F3, F4, by go_num, by omega, HOK2.out, HA3.out, HO3.out, HD3.out, HU3.out⟩
            case measure => simp [intOf]; omega
          · have b0 : (e == 0) = false := by rw [beq_eq_false_iff_ne]; exact he
            have E1 := Lib.hid e1
            have E2 := Lib.hid e2
            clear e1 e2 he
            go_wp2_with (fail)
            have c1 := arena_Alloc HA.out HOK.out ((k : Int) % 200) x
            rw [E1.out] at c1
            refine Calls.mono c1 ?_
            clear c1
            rintro e' w2 ⟨rfl, F3, hA2, hU2⟩
            have hO2 := HO.out.go fun k hk => hU2.fr.block k (HO.out.lt k hk) (fun hm => HD.out k hm hk)
            have hD2 := hU2.off HO.out.lt (fun k hk hm => HD.out k hm hk)
            have HA2 := Lib.hid hA2
            have HO2 := Lib.hid hO2
            have HD2 := Lib.hid hD2
            have hUU := (HU.out.trans (hU2.weaken (F := F ++ F2) (F' := F3 ++ F2) (by simp +contextual) (fun k hk => by simp only [List.mem_append] at hk ⊢; rcases hk with h | h <;> simp [h])))
            have hc2 : w2.cell? ⟨g, off + k, none⟩ = some (.int .u8 x) := by rw [World.cell?_of_block (hUU.fr.block g hg (by simp))]; exact HC.out
            have HUU := Lib.hid hUU
            clear hA2 hO2 hD2 hU2 hUU hc1
            go_wp2_with (fail)
            have c1 := arena_Alloc HO2.out (show (⟨m, false, L⟩ : Ar).ok from HOK.out) ((k : Int) % 200) x
            rw [E2.out] at c1
            refine Calls.mono c1 ?_
            clear c1
            rintro e' w3 ⟨rfl, F4, hO3, hU3⟩
            have hA3 := HA2.out.go fun k hk => hU3.fr.block k (HA2.out.lt k hk) (fun hm => HD2.out k hm hk)
            have hD3 := hU3.off HA2.out.lt (fun k hk hm => HD2.out k hm hk)
            have HA3 := Lib.hid hA3
            have HO3 := Lib.hid hO3
            have HD3 := Lib.hid hD3
            have HU3 := Lib.hid (HUU.out.trans (hU3.weaken (F := F3 ++ F2) (F' := F3 ++ F4) (by simp +contextual) (fun k hk => by simp only [List.mem_append] at hk ⊢; rcases hk with h | h <;> simp [h])))
            clear hA3 hO3 hD3 hU3 hc2 HUU HA2 HO2 HD2
            go_wp2
            go_roundw
            case rel => exact ⟨k + 1, L, F3, F4, by go_num, by omega, HOK.out, HA3.out, HO3.out, HD3.out, HU3.out⟩
            case measure => simp [intOf]; omega
        · go_wp2
          go_ret
          exact ⟨rfl, HU.out.fr.below (Nat.le_refl _) (fun _ hk => absurd hk List.not_mem_nil)⟩
      · go_wp2
        go_ret
        exact ⟨rfl, HU.out.fr.below (Nat.le_refl _) (fun _ hk => absurd hk List.not_mem_nil)⟩

end Go.Proofs.Ytcfmemnokecgbaa
