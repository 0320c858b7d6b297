/- The laws' play: the same steps in the arena and in the reference. -/
import Derived.Test.YtcfmemnokecgbaaRi
import Derived.Deep.RegionHeld3
namespace Go.Proofs.Ytcfmemnokecgbaa
open Go.RowKit

structure St where
  kd : Int
  a : Int
  b : Int
  w : Int
  x : Int
def stC (s : St) : List Value := [.int .i64 s.kd, .int .i64 s.a, .int .i64 s.b, .int .u64 s.w, .int .u64 s.x]
def InSteps (w : World) (ad : Option Addr) (len : Nat) (S : List St) : Prop :=
  S.length = len ∧ len ≤ 9223372036854775807 ∧ (∀ s ∈ S, U64 s.w ∧ U64 s.x) ∧
  (len = 0 ∨ ∃ g off, ad = some ⟨g, off, none⟩ ∧ g < w.heap.size ∧ ∀ k s, S[k]? = some s → ∀ o u, (stC s)[o]? = some u → w.cell? ⟨g, off + k * 5 + o, none⟩ = some u)

structure Pr (w : World) (a b : Nat) (A : Ar) (F G : List Nat) : Prop where
  ok : A.ok
  ar : IsAr w a A F
  rf : IsRf w b A G
  dj : ∀ k ∈ F, k ∉ G

theorem Pr.go {w w' : World} {a b : Nat} {A : Ar} {F G : List Nat} (h : Pr w a b A F G) (hk : ∀ k, k < w.heap.size → w'.heap[k]? = w.heap[k]?) : Pr w' a b A F G :=
  ⟨h.ok, h.ar.go fun k hm => hk k (h.ar.lt k hm), h.rf.go fun k hm => hk k (h.rf.lt k hm), h.dj⟩
theorem Pr.alloc {w : World} {a b : Nat} {A : Ar} {F G : List Nat} (h : Pr w a b A F G) (o : Obj) : Pr (w.alloc o) a b A F G := h.go fun _ hk => heap_alloc_old w o hk
theorem Pr.drewN {w : World} {a b : Nat} {A : Ar} {F G : List Nat} (h : Pr w a b A F G) (n : Nat) : Pr (w.drewN n) a b A F G := h.go fun _ _ => rfl
theorem Pr.step {w w2 : World} {a b : Nat} {A : Ar} {F F' G : List Nat} (h : Pr w a b A F G) (U2 : Upd F F' w w2) : IsRf w2 b A G :=
  h.rf.go fun k hm => U2.fr.block k (h.rf.lt k hm) (fun hf => h.dj k hf hm)
theorem Pr.join {w w2 w3 : World} {a b : Nat} {A A' : Ar} {F F' G G' : List Nat} (h : Pr w a b A F G) (ok : A'.ok) (hA : IsAr w2 a A' F') (U2 : Upd F F' w w2) (hR : IsRf w3 b A' G') (U3 : Upd G G' w2 w3) :
    Pr w3 a b A' F' G' ∧ Upd (F ++ G) (F' ++ G') w w3 := by
  have hFG : ∀ k ∈ F', k ∉ G := fun k hk hm => by
    rcases U2.new k hk with h1 | h1
    · exact h.dj k h1 hm
    · have := h.rf.lt k hm; omega
  refine ⟨⟨ok, hA.go fun k hm => U3.fr.block k (hA.lt k hm) (hFG k hm), hR, fun k hk hm => ?_⟩, ?_⟩
  · rcases U3.new k hm with h1 | h1
    · exact hFG k hk h1
    · have := hA.lt k hk; omega
  · have V2 : Upd (F ++ G) (F' ++ G) w w2 := U2.weaken (by simp +contextual) (fun k hk => by simp only [List.mem_append] at hk ⊢; rcases hk with h | h <;> simp [h])
    exact V2.trans (U3.weaken (by simp +contextual) (fun k hk => by simp only [List.mem_append] at hk ⊢; rcases hk with h | h <;> simp [h]))

/-- The list of steps, and a world that has changed nothing of it. -/
def HasSteps (w : World) (ad : Option Addr) (len : Nat) (S : List St) (k : Nat) : Prop :=
  k < len → ∃ (g off : Nat) (s : St), ad = some ⟨g, off, none⟩ ∧ U64 s.w ∧ U64 s.x ∧ g < w.heap.size ∧ w.cell? ⟨g, off + k * 5, none⟩ = some (.int .i64 s.kd) ∧ w.cell? ⟨g, off + k * 5 + 1, none⟩ = some (.int .i64 s.a) ∧
    w.cell? ⟨g, off + k * 5 + 2, none⟩ = some (.int .i64 s.b) ∧ w.cell? ⟨g, off + k * 5 + 3, none⟩ = some (.int .u64 s.w) ∧ w.cell? ⟨g, off + k * 5 + 4, none⟩ = some (.int .u64 s.x)
theorem InSteps.has {w w' : World} {ad : Option Addr} {len : Nat} {S : List St} {F : List Nat} (h : InSteps w ad len S) (U : Upd [] F w w') (k : Nat) : HasSteps w' ad len S k := by
  intro hk
  obtain ⟨hl, _, hu, hc⟩ := h
  obtain ⟨s, hs⟩ : ∃ s, S[k]? = some s := ⟨_, List.getElem?_eq_getElem (by omega)⟩
  rcases hc with h0 | ⟨g, off, rfl, hg, hc⟩
  · omega
  · have hcc : ∀ o u, (stC s)[o]? = some u → w'.cell? ⟨g, off + k * 5 + o, none⟩ = some u := fun o u hu' => by
      have e := U.fr.block g hg (by simp)
      rw [World.cell?_of_block (w := w) e]
      exact hc k s hs o u hu'
    have hm := hu s (List.mem_of_getElem? hs)
    exact ⟨g, off, s, rfl, hm.1, hm.2, Nat.lt_of_lt_of_le hg U.fr.size, hcc 0 _ rfl, hcc 1 _ rfl, hcc 2 _ rfl, hcc 3 _ rfl, hcc 4 _ rfl⟩

theorem allocR_n (A : Ar) (t s : Int) : (A.allocR t s).1.n = A.n := by
  unfold Ar.allocR
  split
  · rfl
  · split
    · rfl
    · split <;> rfl
theorem setF_n (A : Ar) (x i v : Int) : (A.setF x i v).n = A.n := by
  unfold Ar.setF
  split
  · split <;> rfl
  · rfl

theorem setF_ok {A : Ar} (h : A.ok) (x i v : Int) (hv : U64 v) : (A.setF x i v).ok := by
  unfold Ar.setF
  split
  · split
    · rename_i r _ _
      refine ⟨h.1, h.2.1, by rw [putF_flat_length]; exact h.2.2.1, fun b hb => ?_⟩
      obtain ⟨j, hj⟩ := List.getElem?_of_mem hb
      unfold putF at hj
      rw [List.getElem?_modify] at hj
      cases hL : A.L[j]? with
      | none => rw [hL] at hj; cases hj
      | some c =>
        rw [hL] at hj
        have hc := h.2.2.2 c (List.mem_of_getElem? hL)
        split at hj
        · injection hj with hj
          subst hj
          refine ⟨hc.1, by simpa using hc.2.1, fun y hy => ?_⟩
          rcases List.mem_or_eq_of_mem_set hy with hy | rfl
          · exact hc.2.2 y hy
          · exact hv
        · injection hj with hj
          subst hj
          exact hc
    · exact h
  · exact h

set_option maxRecDepth 100000 in
set_option maxHeartbeats 3200000 in
theorem law_play {w0 w : World} {a b : Nat} {A : Ar} {F G : List Nat} (h : Pr w a b A F G) (ad : Option Addr) (len cap : Nat) (S : List St) (hin : InSteps w0 ad len S) (hU : Upd [] (F ++ G) w0 w) :
    Calls Try.prog 15 #[.pointer (some ⟨a, 0, none⟩), .pointer (some ⟨b, 0, none⟩), .slice ad len cap] w fun e w' =>
      e = .returned (.bool true) ∧ ∃ A' F' G', Pr w' a b A' F' G' ∧ A'.n = A.n ∧ Upd [] (F' ++ G') w0 w' := by
  have hlen := hin.2.1
  have HIN := Lib.hid hin
  have HP := Lib.hid h
  have HU := Lib.hid hU
  clear h hin hU
  go_enter Try.func15, Try.ntmps15
  go_wp2
  go_loopw [7] (fun i wr => ∃ (k : Nat) (A' : Ar) (F' G' : List Nat), i = .int .i64 k ∧ k ≤ len ∧ Pr wr a b A' F' G' ∧ A'.n = A.n ∧ Upd [] (F' ++ G') w0 wr) (fun i _ => len - (intOf i).toNat)
  case atStart => exact ⟨0, A, F, G, rfl, by omega, HP.out, rfl, HU.out⟩
  case round =>
    obtain ⟨k, A', F', G', rfl, hk, hp, hn, hU⟩ := hrel
    obtain ⟨wo, rfl⟩ : ∃ wo : World, wo = wr := ⟨_, rfl⟩
    have HPo := Lib.hid hp
    have HUo := Lib.hid hU
    have HNo := Lib.hid hn
    have HSt := Lib.hid (HIN.out.has hU k)
    clear hp hn hU
    by_cases hlt : (k : Int) < (len : Int)
    · by_cases hlt2 : (k : Int) < 60
      · obtain ⟨g, off, s, rfl, hw, hx, hg, c0, c1, c2, c3, c4⟩ := HSt.out (by omega)
        obtain ⟨kd, ai, bi, wi, xi⟩ := s
        simp only at hw hx c0 c1 c2 c3 c4
        have hbs : Blk (wo.alloc (.cells #[.int .i64 kd, .int .i64 ai, .int .i64 bi, .int .u64 wi, .int .u64 xi] 66)) wo.heap.size [.int .i64 kd, .int .i64 ai, .int .i64 bi, .int .u64 wi, .int .u64 xi] 66 := Blk.new' (c := [_, _, _, _, _]) rfl
        have HBS := Lib.hid hbs
        have hp1 := HPo.out.alloc (.cells #[.int .i64 kd, .int .i64 ai, .int .i64 bi, .int .u64 wi, .int .u64 xi] 66)
        have HU1 := Lib.hid (HUo.out.alloc (.cells #[.int .i64 kd, .int .i64 ai, .int .i64 bi, .int .u64 wi, .int .u64 xi] 66))
        have HP1 := Lib.hid hp1
        have HNF := Lib.hid (show ∀ m ∈ F', m ≠ wo.heap.size from fun m hm => by have := HPo.out.ar.lt m hm; omega)
        have HNG := Lib.hid (show ∀ m ∈ G', m ≠ wo.heap.size from fun m hm => by have := HPo.out.rf.lt m hm; omega)
        clear hbs hp1
        by_cases h0 : kd = 0
        · subst h0
          obtain ⟨A2, v, ev, HR⟩ : ∃ A2 v ev, Hid (A'.allocR ai bi = (A2, (v, ev))) := ⟨_, _, _, rfl⟩
          have hok2 := alloc_ok HP1.out.ok ai bi
          rw [HR.out] at hok2
          have HN2 := Lib.hid (show A2.n = A'.n by have := allocR_n A' ai bi; rw [HR.out] at this; exact this)
          have HOK := Lib.hid hok2
          clear hok2
          go_wp2_with (fail)
          have hc := arena_Alloc HP1.out.ar HP1.out.ok ai bi
          rw [HR.out] at hc
          refine Calls.mono hc ?_
          clear hc
          rintro e w2 ⟨rfl, F2, hA2, hU2⟩
          have hb2 := hU2.fr.keep HBS.out (fun h => HNF.out _ h rfl)
          have cb2 := hb2.cell
          have HA2 := Lib.hid hA2
          have HU2 := Lib.hid hU2
          clear hA2 hU2 hb2
          go_wp2_with (fail)
          have hc := ref_Alloc (HP1.out.step HU2.out) HP1.out.ok ai bi
          rw [HR.out] at hc
          refine Calls.mono hc ?_
          clear hc
          rintro e w3 ⟨rfl, G2, hR3, hU3⟩
          obtain ⟨hp3, hv3⟩ := HP1.out.join HOK.out HA2.out HU2.out hR3 hU3
          have HP3 := Lib.hid hp3
          have HU3 := Lib.hid (HU1.out.trans hv3)
          clear hp3 hv3 hR3 hU3 cb2
          go_wp2
          go_roundw
          case rel => exact ⟨k + 1, A2, F2, G2, by go_num, by omega, HP3.out, HN2.out.trans HNo.out, HU3.out⟩
          case measure => simp [intOf]; omega
        · have b0 : (kd == 0) = false := by rw [beq_eq_false_iff_ne]; exact h0
          clear h0
          by_cases h1 : kd = 1
          · subst h1
            obtain ⟨ev, HE⟩ : ∃ ev, Hid (A'.setE wi ai = ev) := ⟨_, rfl⟩
            clear b0
            go_wp2
            go_region_held3 (fun w' => w'.cell? ⟨wo.heap.size, 1, none⟩ = some (.int .i64 ai) ∧ w'.cell? ⟨wo.heap.size, 3, none⟩ = some (.int .u64 wi) ∧ w'.cell? ⟨wo.heap.size, 4, none⟩ = some (.int .u64 xi))
              (first | exact ⟨HBS.out.cell 1, HBS.out.cell 3, HBS.out.cell 4⟩ | exact ⟨HB2.out.cell 1, HB2.out.cell 3, HB2.out.cell 4⟩ | exact ⟨HB3.out.cell 1, HB3.out.cell 3, HB3.out.cell 4⟩)
              (first
                | (go_at_call 20; have hc := arena_Set (HP1.out.ar.drew) HP1.out.ok wi ai xi hw hx; rw [HE.out] at hc; refine Calls.mono hc ?_; clear hc; rintro e w2 ⟨rfl, hA2, hU2⟩; have HB2 := Lib.hid (hU2.fr.keep HBS.out.drew (fun h => HNF.out _ h rfl)); have HA2 := Lib.hid hA2; have HU2 := Lib.hid (((Upd.refl F' _).drew).trans hU2); clear hA2 hU2)
                | (go_at_call 33; have hc := ref_Set (HP1.out.step HU2.out) HP1.out.ok wi ai xi hw; rw [HE.out] at hc; refine Calls.mono hc ?_; clear hc; rintro e w3 ⟨rfl, G2, hR3, hU3⟩; have HB3 := Lib.hid (hU3.fr.keep HB2.out (fun h => HNG.out _ h rfl)); have HR3 := Lib.hid hR3; have HU3 := Lib.hid hU3; clear hR3 hU3))
            all_goals
              obtain ⟨hp3, hv3⟩ := HP1.out.join (setF_ok HP1.out.ok wi ai xi hx) HA2.out HU2.out HR3.out HU3.out
              have HP3 := Lib.hid hp3
              have HV3 := Lib.hid (HU1.out.trans hv3)
              clear hp3 hv3
              go_wp2
              go_roundw
              case rel => exact ⟨k + 1, _, F', G2, by go_num, by omega, HP3.out, (setF_n _ _ _ _).trans HNo.out, HV3.out⟩
              case measure => simp [intOf]; omega
          · have b1 : (kd == 1) = false := by rw [beq_eq_false_iff_ne]; exact h1
            clear h1
            by_cases h2 : kd = 2
            · subst h2
              clear b0 b1
              go_wp2_with (fail)
              refine Calls.mono (arena_Flip HP1.out.ar HP1.out.ok) ?_
              rintro e w2 ⟨rfl, F2, hA2, hU2⟩
              have HA2 := Lib.hid hA2
              have HU2 := Lib.hid hU2
              clear hA2 hU2
              go_wp2_with (fail)
              refine Calls.mono (ref_Flip (HP1.out.step HU2.out)) ?_
              rintro e w3 ⟨rfl, G2, hR3, hU3⟩
              obtain ⟨hp3, hv3⟩ := HP1.out.join (flip_ok HP1.out.ok) HA2.out HU2.out hR3 hU3
              have HP3 := Lib.hid hp3
              have HV3 := Lib.hid (HU1.out.trans hv3)
              clear hp3 hv3 hR3 hU3
              go_wp2
              go_roundw
              case rel => exact ⟨k + 1, _, F2, G2, by go_num, by omega, HP3.out, HNo.out, HV3.out⟩
              case measure => simp [intOf]; omega
            · have b2 : (kd == 2) = false := by rw [beq_eq_false_iff_ne]; exact h2
              clear h2
              go_wp2
              go_roundw
              case rel => exact ⟨k + 1, A', F', G', by go_num, by omega, HP1.out, HNo.out, HU1.out⟩
              case measure => simp [intOf]; omega
      · go_wp2
        go_ret
        exact ⟨rfl, A', F', G', HPo.out, HNo.out, HUo.out⟩
    · go_wp2
      go_ret
      exact ⟨rfl, A', F', G', HPo.out, HNo.out, HUo.out⟩

end Go.Proofs.Ytcfmemnokecgbaa
