/- The walks of package arena: Alloc, where there is room. -/
import Derived.Test.YtcfmemnokecgbaaAn
import Derived.Maps.AppendAt
namespace Go.Proofs.Ytcfmemnokecgbaa
open Go.RowKit

set_option maxRecDepth 100000 in
set_option maxHeartbeats 3200000 in
theorem alloc_room {w : World} {a : Nat} {A : Ar} {F : List Nat} (h : IsAr w a A F) (hok : A.ok) (tag size : Nat) (ht : TagOk tag) (hs : size ≤ 4096) (hf : A.top + size + 1 ≤ A.base + A.n) :
    Calls Try.prog 10 #[.pointer (some ⟨a, 0, none⟩), .int .i64 tag, .int .i64 size] w fun e w' => e = .returned (.tuple #[.int .u64 (wPtr ((A.top : Int) + 1)), .int .i64 0]) ∧ ∃ F', IsAr w' a (A.alloc tag size) F' ∧ Upd F F' w w' := by
  obtain ⟨hb, cb, sv, cells, rfl, p⟩ := h
  obtain ⟨i0, hi, hz0, hz1, hz2⟩ := info_parts Try.infoInt
  have ca := p.ba.cell
  have ch := p.bh.cell
  have cc := p.bc.cell
  have fa := p.ba.free
  have fh := p.bh.free
  have fc := p.bc.free
  have hac := p.ba.ne p.bc (by decide)
  have hhc := p.bh.ne p.bc (by decide)
  have hah := p.ba.ne p.bh (by decide)
  have hn := hok.2.1
  have hbl := A.base_le
  have hlen := p.len
  have hcnt : A.L.length ≤ 32768 := by have := flat_count A.L; have := hok.2.2.1; omega
  have Hp := Lib.hid p
  have Hf := Lib.hid hf
  clear p hok hf
  have hf := Hf.out
  obtain ⟨t, hte⟩ : ∃ t, A.top = t := ⟨_, rfl⟩
  simp only [hte] at ch hf ⊢
  have HT := Lib.hid hte
  clear hte
  obtain ⟨v0, hv0⟩ := cels_get (l := cells) (k := t) (by omega)
  have e1 : IntKind.i64.wrap ((t : Int) + (size : Int)) = (t : Int) + (size : Int) := IntWalk.i64_in _ (by omega)
  have e2 : IntKind.i64.wrap ((t : Int) + (size : Int) + 1) = (t : Int) + (size : Int) + 1 := IntWalk.i64_in _ (by omega)
  have e3 : IntKind.i64.wrap ((A.base : Int) + (A.n : Int)) = (A.base : Int) + (A.n : Int) := IntWalk.i64_in _ (by omega)
  have hfull : (t : Int) + (size : Int) + 1 ≤ (A.base : Int) + (A.n : Int) := by omega
  have hidx : (t : Int) < 2 * (A.n : Int) := by omega
  have hidx0 : (0 : Int) ≤ (t : Int) := by omega
  have hq : ((tag : Int) < 200) ∨ ((199 : Int) < (tag : Int) ∧ ((tag : Int) != 200) = false) ∨ ((199 : Int) < (tag : Int) ∧ ((tag : Int) != 200) = true ∧ ((tag : Int) != 202) = false) := by
    rcases ht with h | h | h
    · exact .inl (by omega)
    · exact .inr (.inl ⟨by omega, by rw [h]; rfl⟩)
    · exact .inr (.inr ⟨by omega, by rw [h]; rfl, by rw [h]; rfl⟩)
  clear ht
  rcases hq with h | ⟨h, h'⟩ | ⟨h, h', h''⟩
  all_goals
    go_enter Try.func10, Try.ntmps10
    go_wp2
    go_quiet (fail)
    go_wp2
    clear e1 e2 e3
    refine wp_tail 18 (by kernel_rfl) (by kernel_rfl) ?_
    simp only [List.take_succ_cons, List.take_zero, List.drop_succ_cons, List.drop_zero]
    repeat still_step
    still_call (ssame (word_Head _ _ _))
    repeat still_step
    refine wpStill_nil ?_
    change wpList _ _ _ _ _ ((w.drewN nq).drew)
    go_wp2
    go_loopw [86] (fun i wr => ∃ k : Nat, i = .int .i64 k ∧ k ≤ size ∧ Blk wr cb (cels (fillK cells t (wHead tag size) k)) 28 ∧ Upd [cb] [cb] w wr) (fun i _ => size - (intOf i).toNat)
    case atStart =>
      refine ⟨0, rfl, by omega, ?_, ((((Upd.refl [cb] w).drewN nq).set (by simp) _ _).drew)⟩
      have := Hp.out.bc.set t (.int .u64 (wHead tag size))
      rw [cels_set, fillK_zero (by omega)] at this
      exact this
    case round =>
      obtain ⟨k, rfl, hk, hbk, hU⟩ := hrel
      have ca := (hU.fr.keep Hp.out.ba (by simpa using hac)).cell
      have ch := (hU.fr.keep Hp.out.bh (by simpa using hhc)).cell
      have fa := (hU.fr.keep Hp.out.ba (by simpa using hac)).free
      have fh := (hU.fr.keep Hp.out.bh (by simpa using hhc)).free
      rw [HT.out] at ch
      have cc := hbk.cell
      have fc := hbk.free
      have HK := Lib.hid hbk
      have HU := Lib.hid hU
      clear hbk hU
      by_cases hlt : k < size
      · obtain ⟨v1, hv1⟩ := cels_get (l := fillK cells t (wHead tag size) k) (k := t + 1 + k) (by rw [fillK_len (by omega)]; omega)
        have e1 : IntKind.i64.wrap ((t : Int) + 1 + (k : Int)) = (t : Int) + 1 + (k : Int) := IntWalk.i64_in _ (by omega)
        have hidx1 : (t : Int) + 1 + (k : Int) < 2 * (A.n : Int) := by omega
        have hidx2 : (0 : Int) ≤ (t : Int) + 1 + (k : Int) := by omega
        have hidx3 : ((t : Int) + 1 + (k : Int)).toNat = t + 1 + k := by omega
        go_wp2
        refine wp_tail 12 (by kernel_rfl) (by kernel_rfl) ?_
        simp only [List.take_succ_cons, List.take_zero, List.drop_succ_cons, List.drop_zero]
        repeat still_step
        still_call (ssame (word_Int _ _))
        repeat still_step
        refine wpStill_nil ?_
        change wpList _ _ _ _ _ (wr.drew)
        clear e1 hidx2 hidx3
        go_wp2
        go_roundw
        case rel =>
          refine ⟨k + 1, by go_num, by omega, ?_, (HU.out.set (by simp) _ _).drew⟩
          have := HK.out.set (t + 1 + k) (.int .u64 1)
          rw [cels_set, fillK_set (by omega)] at this
          exact this
        case measure => simp [intOf]; omega
      · have hks : k = size := by omega
        have HKS := Lib.hid hks
        have hlt2 : ¬ ((k : Int) < (size : Int)) := by omega
        clear hlt hks
        have na := Hp.out.st.ne Hp.out.ba (by decide)
        have nh := Hp.out.st.ne Hp.out.bh (by decide)
        have nc := Hp.out.st.ne Hp.out.bc (by decide)
        go_wp2_with (at_builtin; refine wpList_app _ rfl (.tmp 115) (.tmp 117) 35 rfl 3 i0 (.int .i64 0) 1 8 Try.ulInts hi hz0 hz1 hz2 rfl sv A.L.length (nums (starts A.base A.L)) rfl ?hown _ 1 1 [.int .i64 ((t : Int) + 1)] rfl rfl (by exact cell_new1 (by simp)) (by exact one_cell1 rfl) (by unfold maxLen; omega) (by omega) ?go)
        case hown =>
          refine Hp.out.st.go (fun k hk => ?_)
          refine (((HU.out.weaken (F := [cb, hb]) (F' := [cb, hb]) (by simp) (by simp)).set (by simp) _ _).alloc _).same (G := own sv) Hp.out.st.lt ?_ k hk
          intro k hk hm
          simp only [List.mem_cons, List.not_mem_nil, or_false] at hm
          rcases hm with rfl | rfl
          · exact nc hk
          · exact nh hk
        case go =>
          intro ad' cap' w2 hs2 hU2
          have ba2 : Blk w2 a [.pointer (some ⟨hb, 0, none⟩), sv] 37 := hU2.fr.keep (((HU.out.fr.keep Hp.out.ba (by simpa using hac)).other hah 3 _).alloc _) na
          have bh2 : Blk w2 hb [.slice (some ⟨cb, 0, none⟩) (2 * A.n) (2 * A.n), .int .i64 A.n, .int .i64 A.base, .int .i64 ((t : Int) + 1 + (size : Int))] 59 := hU2.fr.keep (((HU.out.fr.keep Hp.out.bh (by simpa using hhc)).set 3 _).alloc _) nh
          have bc2 : Blk w2 cb (cels (fillK cells t (wHead tag size) k)) 28 := hU2.fr.keep ((HK.out.other (Ne.symm hhc) 3 _).alloc _) nc
          rw [HKS.out] at bc2
          have U2 := (((((HU.out.weaken (F := a :: hb :: cb :: own sv) (F' := a :: hb :: cb :: own sv) (by simp) (fun k h => .inl h)).set (b := hb) (by simp) 3 (.int .i64 ((t : Int) + 1 + (size : Int)))).alloc (.cells #[.int .i64 ((t : Int) + 1)] 3)).trans (hU2.weaken (F := a :: hb :: cb :: own sv) (F' := a :: hb :: cb :: own (.slice ad' (A.L.length + 1) cap')) (by simp +contextual) (by simp +contextual)))).set (b := a) (by simp) 1 (.slice ad' (A.L.length + 1) cap')
          have ca2 := ba2.cell
          have fa2 := ba2.free
          have HA := Lib.hid ba2
          have HB := Lib.hid bh2
          have HC := Lib.hid bc2
          have HS := Lib.hid hs2
          have H2 := Lib.hid U2
          have N2 := Lib.hid (show a ∉ own (.slice ad' (A.L.length + 1) cap') from hs2.ne ba2 (by decide))
          clear ba2 bh2 bc2 hs2 U2 hU2 ca ch fa fh cc fc
          go_wp2_with ((go_at_call 28; with_reducible refine Calls.mono (word_Ptr _ _) ?_; rintro e w' ⟨rfl, rfl⟩))
          go_ret2
          refine ⟨rfl, _, ⟨hb, cb, .slice ad' (A.L.length + 1) cap', _, rfl, ar_alloc Hp.out (by rw [HT.out]; exact hf) ?_ ?_ ?_ ?_⟩, H2.out⟩
          · exact HA.out.set 1 _
          · rw [HT.out]; exact HB.out.other (Ne.symm hah) 1 _
          · rw [HT.out]; exact HC.out.other (Ne.symm hac) 1 _
          · rw [HT.out]
            exact HS.out.go fun k hk => heap_setCell_other w2 _ k _ (fun e => N2.out (by subst e; exact hk))

end Go.Proofs.Ytcfmemnokecgbaa
