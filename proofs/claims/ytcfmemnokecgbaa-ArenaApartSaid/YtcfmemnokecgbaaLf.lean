/- ArenaFills: a block is laid just if it fits: proved for every number of cells and every list of sizes: the law returns true and leaves its arguments as they were. -/
import Derived.Test.YtcfmemnokecgbaaAq
namespace Go.Proofs.Ytcfmemnokecgbaa
open Go.RowKit

/-- What is told of a slice of numbers that came in. -/
def InRow (k : IntKind) (w : World) (ad : Option Addr) (len : Nat) (zs : List Int) : Prop :=
  zs.length = len ∧ len ≤ 9223372036854775807 ∧ (∀ z ∈ zs, (Lit.int k z).wf = true) ∧ (len = 0 ∨ ∃ g off, ad = some ⟨g, off, none⟩ ∧ g < w.heap.size ∧ ∀ j z, zs[j]? = some z → w.cell? ⟨g, off + j, none⟩ = some (.int k z))

theorem find_last {A : Ar} {tag size : Nat} (hn : A.top + 1 ≤ 2147483647) : (A.alloc tag size).find (wPtr ((A.top : Int) + 1)) = some (A.L.length, 0) := by
  have h1 : wAddr (wPtr ((A.top : Int) + 1)) = (A.top : Int) + 1 := wAddr_wPtr (by omega) (by omega)
  rw [find_look (y := A.top + 1) (wIsInt_wPtr _) (by rw [h1]; omega) (by rw [h1]; omega)]
  refine look_found _ _ _ _ (by simp [Ar.alloc]) ?_
  have h2 : (starts A.base (A.L ++ [(⟨tag, List.replicate size 1⟩ : Bk)]))[A.L.length]? = some (A.base + (flat A.L).length + 1) := by
    rw [starts_append, List.getElem?_append_right (by rw [starts_length]; omega), starts_length]
    simp
  rw [starts_get _ _ _ (by simp)] at h2
  exact Option.some.inj h2

theorem blk_last {A : Ar} {tag size : Nat} (hn : A.top + 1 ≤ 2147483647) : (A.alloc tag size).blk (wPtr ((A.top : Int) + 1)) = some ⟨tag, List.replicate size 1⟩ := by
  unfold Ar.blk
  rw [find_last hn]
  simp [Ar.alloc]
theorem top_alloc (A : Ar) (tag size : Nat) : (A.alloc tag size).top = A.top + size + 1 := by
  unfold Ar.top Ar.alloc
  simp [flat_append, flat, Ar.base]
  omega

theorem wf_u16 {x : Int} (h : (Lit.int .u16 x).wf = true) : 0 ≤ x ∧ x ≤ 65535 := by
  simpa [Lit.wf, IntKind.min, IntKind.max, IntKind.bits, IntKind.signed] using h

theorem fills_full {A : Ar} {t : Nat} {n k x : Int} (h : A.top = t ∧ A.ok ∧ A.hi = false ∧ (A.n : Int) = n) (hk : 0 ≤ k) (hk' : k < 60) (hx : 0 ≤ x) (hf : n < (t : Int) + x % 4097 + 1) :
    A.allocR (k % 200) (x % 4097) = (A, (0, 10)) := by
  have hb : A.base = 0 := by unfold Ar.base; rw [h.2.2.1]; rfl
  unfold Ar.allocR
  rw [if_neg (by unfold TagOk; omega), if_neg (by omega), if_pos (by rw [hb, h.1]; omega)]
theorem fills_room {A : Ar} {t : Nat} {n k x : Int} (h : A.top = t ∧ A.ok ∧ A.hi = false ∧ (A.n : Int) = n) (hk : 0 ≤ k) (hk' : k < 60) (hx : 0 ≤ x) (hf : ¬ n < (t : Int) + x % 4097 + 1) :
    ∃ A', A.allocR (k % 200) (x % 4097) = (A', (wPtr ((t : Int) + 1), 0)) ∧ A'.ok ∧ A'.hi = false ∧ (A'.n : Int) = n ∧ ((A'.top : Nat) : Int) = (t : Int) + (x % 4097 + 1) ∧
      A'.sizeOf (wPtr ((t : Int) + 1)) = x % 4097 ∧ A'.tagOf (wPtr ((t : Int) + 1)) = k % 200 := by
  have hb : A.base = 0 := by unfold Ar.base; rw [h.2.2.1]; rfl
  have hr : A.allocR (k % 200) (x % 4097) = (A.alloc (k % 200).toNat (x % 4097).toNat, (wPtr ((t : Int) + 1), 0)) := by
    unfold Ar.allocR
    rw [if_neg (by unfold TagOk; omega), if_neg (by omega), if_neg (by rw [hb, h.1]; omega), h.1]
  have hok := alloc_ok h.2.1 (k % 200) (x % 4097)
  rw [hr] at hok
  have hn := h.2.1.2.1
  have hbk : (A.alloc (k % 200).toNat (x % 4097).toNat).blk (wPtr ((t : Int) + 1)) = some ⟨(k % 200).toNat, List.replicate (x % 4097).toNat 1⟩ := by
    rw [← h.1]
    exact blk_last (by omega)
  refine ⟨_, hr, hok, h.2.2.1, h.2.2.2, ?_, ?_, ?_⟩
  · rw [top_alloc, h.1]; omega
  · unfold Ar.sizeOf; rw [hbk]; simp; omega
  · unfold Ar.tagOf; rw [hbk]; simp; omega

set_option maxRecDepth 100000 in
set_option maxHeartbeats 1600000 in
theorem law_fills (n : Int) (ad : Option Addr) (len cap : Nat) (zs : List Int) (w : World) (hin : InRow .u16 w ad len zs) :
    Calls Try.prog 3 #[.int .i64 n, .slice ad len cap] w fun e w' => e = .returned (.bool true) ∧ Below w.heap.size w w' := by
  obtain ⟨hz, hlen, hwf, hc⟩ := hin
  have HC := Lib.hid hc
  have HZ := Lib.hid hz
  have HW := Lib.hid hwf
  clear hz hwf hc
  by_cases hn : n < 2 ∨ 32768 < n
  · have hb : (decide (n < 2) || decide (32768 < n)) = true := by simpa using hn
    rcases hn with hn | hn
    all_goals
      clear hb
      go_enter Try.func3, Try.ntmps3
      go_wp2_with (first | (go_at_call 8; with_reducible refine Calls.mono (law_awake _) ?_; rintro e w' ⟨rfl, hU⟩) | (go_at_call 9; with_reducible refine Calls.mono (arena_New_no _ (by omega) _) ?_; rintro e w' ⟨rfl, rfl⟩))
      go_ret
      exact ⟨rfl, (‹Upd [] [] w _›).fr.below (Nat.le_refl _) (fun _ hk => absurd hk List.not_mem_nil)⟩
  · have h1 : 2 ≤ n := by omega
    have h2 : n ≤ 32768 := by omega
    clear hn
    go_enter Try.func3, Try.ntmps3
    go_wp2_with (first | (go_at_call 8; with_reducible refine Calls.mono (law_awake _) ?_; rintro e w' ⟨rfl, hU⟩))
    rename_i wq
    have HU := Lib.hid hU
    clear hU
    refine Calls.mono (arena_New_in n h1 h2 _) ?_
    rintro e w1 ⟨a, F0, rfl, hA, hU1⟩
    have HA := Lib.hid hA
    have HU1 := Lib.hid (HU.out.trans hU1)
    clear hA hU1
    go_wp2
    go_loopw [6, 7] (fun u i wr => ∃ (k : Nat) (A : Ar) (F : List Nat) (t : Nat), i = .int .i64 k ∧ u = .int .i64 t ∧ k ≤ len ∧ k ≤ 60 ∧ t ≤ 32768 ∧ Hid (A.top = t ∧ A.ok ∧ A.hi = false ∧ (A.n : Int) = n) ∧ Hid (IsAr wr a A F) ∧ Hid (Upd [] F w wr)) (fun _ i _ => 60 - (intOf i).toNat)
    case atStart =>
      refine ⟨0, _, F0, 0, rfl, rfl, by omega, by omega, by omega, ⟨rfl, ⟨?_, ?_, ?_, ?_⟩, rfl, ?_⟩, HA.out, HU1.out⟩
      · show 2 ≤ n.toNat; omega
      · show n.toNat ≤ 32768; omega
      · simp [flat]
      · simp
      · show ((n.toNat : Nat) : Int) = n; omega
    case round =>
      clear HA HU1 HU
      obtain ⟨k, A, F, t, rfl, rfl, hk, hk60, ht, HP, HA, HU⟩ := hrel
      by_cases hlt : k < len
      · by_cases h60 : k < 60
        · obtain ⟨x, hx⟩ : ∃ x, zs[k]? = some x := ⟨_, List.getElem?_eq_getElem (by rw [HZ.out]; exact hlt)⟩
          have hxb := wf_u16 (HW.out x (List.mem_of_getElem? hx))
          rcases HC.out with h0 | ⟨g, off, rfl, hg, hcell⟩
          · omega
          have hc1 := hcell k x hx
          rw [← World.cell?_of_block (HU.out.fr.block g hg (by simp))] at hc1
          clear hx hcell
          by_cases hf : n < (t : Int) + x % 4097 + 1
          · go_wp2_with (fail)
            have c1 := arena_Alloc HA.out HP.out.2.1 ((k : Int) % 200) (x % 4097)
            rw [fills_full (k := (k : Int)) (x := x) HP.out (by omega) (by omega) (by omega) hf] at c1
            refine Calls.mono c1 ?_
            clear c1
            rintro e w2 ⟨rfl, F2, hA2, hU2⟩
            have HA2 := Lib.hid hA2
            have HU2 := Lib.hid (HU.out.trans hU2)
            clear hA2 hU2
            go_wp2
            go_roundw
            case rel => exact ⟨k + 1, A, F2, t, by go_num, rfl, by omega, by omega, ht, HP.out, HA2.out, HU2.out⟩
            case measure => simp [intOf]; omega
          · obtain ⟨A', h1', h2', h3', h4', h5', h6', h7'⟩ := fills_room (k := (k : Int)) (x := x) HP.out (by omega) (by omega) (by omega) hf
            have c1 := arena_Alloc HA.out HP.out.2.1 ((k : Int) % 200) (x % 4097)
            rw [h1'] at c1
            have C1 := Lib.hid c1
            have P2 := Lib.hid h2'
            have P3 := Lib.hid h3'
            have P4 := Lib.hid h4'
            have P5 := Lib.hid h5'
            have P6 := Lib.hid h6'
            have P7 := Lib.hid h7'
            clear c1 h1' h2' h3' h4' h5' h6' h7'
            go_wp2_with (fail)
            refine Calls.mono C1.out ?_
            rintro e w2 ⟨rfl, F2, hA2, hU2⟩
            obtain ⟨hb, hcb, ht1, _, _⟩ := hA2.half
            have HA2 := Lib.hid hA2
            have HU2 := Lib.hid (HU.out.trans hU2)
            clear hA2 hU2 C1 hc1
            go_wp2_with (fail)
            have c2 := arena_Size HA2.out P2.out (wPtr ((t : Int) + 1)) (wPtr_u _)
            rw [P6.out] at c2
            refine Calls.mono c2 ?_
            clear c2
            rintro e w3 ⟨rfl, n1, rfl⟩
            go_wp2_with (fail)
            have c2 := arena_Tag (HA2.out.drewN n1) P2.out (wPtr ((t : Int) + 1)) (wPtr_u _)
            rw [P7.out] at c2
            refine Calls.mono c2 ?_
            clear c2
            rintro e w3 ⟨rfl, n2, rfl⟩
            go_wp2_with (fail)
            have c2 := ht1.out (w2.drewN (n1 + n2)) rfl
            rw [P5.out] at c2
            refine Calls.mono c2 ?_
            clear c2
            rintro e w3 ⟨rfl, rfl⟩
            go_wp2
            go_roundw
            case rel =>
              have h8 : A'.n ≤ 32768 := P2.out.2.1
              have h9 := P2.out.2.2.1
              have h10 := P5.out
              have h11 : A'.top = (flat A'.L).length := by unfold Ar.top Ar.base; rw [P3.out]; simp
              exact ⟨k + 1, A', F2, A'.top, by go_num, by rw [h10], by omega, by omega, by omega, ⟨rfl, P2.out, P3.out, P4.out⟩, HA2.out.drewN _, HU2.out.drewN _⟩
            case measure => simp [intOf]; omega
        · have h60' : ¬ (k : Int) < 60 := by omega
          have hlt' : (k : Int) < (len : Int) := by omega
          clear h60 hlt
          go_wp2
          go_ret
          exact ⟨rfl, (HU.out.fr).below (Nat.le_refl _) (fun _ hk => absurd hk List.not_mem_nil)⟩
      · have hlt' : ¬ ((k : Int) < (len : Int)) := by omega
        clear hlt
        go_wp2
        go_ret
        exact ⟨rfl, (HU.out.fr).below (Nat.le_refl _) (fun _ hk => absurd hk List.not_mem_nil)⟩

end Go.Proofs.Ytcfmemnokecgbaa
