/- The reference's arena: Alloc, where there is room. -/
import Derived.Test.YtcfmemnokecgbaaRe
namespace Go.Proofs.Ytcfmemnokecgbaa
open Go.RowKit

theorem Try.infoBlock : (Try.prog.info? 72).map (fun i => (i.zero, i.size, i.bytes)) = some (some (.agg #[.int .i64 0, .int .i64 0, .slice none 0 0]), 3, 40) := by kernel_rfl
theorem Try.ulBlocks : Try.prog.underlying 62 = some (.slice 72) := by kernel_rfl

theorem cell_newL {w : World} {l : List Value} {t : TypeId} {k : Nat} (hk : k = w.heap.size) : ∀ j u, l[j]? = some u → (w.alloc (.cells l.toArray t)).cell? ((⟨k, 0, none⟩ : Addr).add j) = some u := by
  intro j u hj
  have hb : Blk (w.alloc (.cells l.toArray t)) k l t := Blk.new' hk
  rw [show (⟨k, 0, none⟩ : Addr).add j = ⟨k, j, none⟩ by unfold Addr.add; split <;> simp_all, hb.cell]
  exact hj
theorem Sl.disj {w : World} {v v' : Value} {e e' : TypeId} {s s' n n' : Nat} {xs xs' : List Value} (h : Sl w v e s n xs) (h' : Sl w v' e' s' n' xs') (he : e ≠ e') : ∀ k ∈ own v, k ∉ own v' := by
  intro k hk hk'
  rcases h.2 with ⟨rfl, _⟩ | ⟨g, off, cap, cur, rfl, hg, _⟩
  · simp [own, Value.ownBlock] at hk
  · simp [own, Value.ownBlock] at hk
    subst hk
    exact h'.ne (b := k) (c := cur.toList) (t := e) (by unfold Blk; simpa using hg) (Ne.symm he) hk'

theorem ralloc_end {w wo wx w2 : World} {b bl : Nat} {A : Ar} {lv v' fv : Value} {fvs : List Value} {tag size : Nat} (p : IsRfP w b A lv fvs)
    (hU : Upd [] (bl :: own fv) w wo) (hs : Sl wo fv 28 1 size (cels (List.replicate size 1))) (hx : Upd [] [] wo wx)
    (hb2 : Blk w2 b [.int .i64 (A.n : Nat), .int .i64 (if A.hi then 1 else 0), lv] 64)
    (hs2 : Sl w2 v' 72 3 (A.L.length + 1) (rcells A.base A.L fvs ++ [.int .i64 ((A.top : Int) + 1), .int .i64 (tag : Nat), fv]))
    (hU2 : Upd (own lv) (own v') wx w2) :
    IsRf (w2.setCell ⟨b, 2, none⟩ v') b (A.alloc tag size) (b :: (own v' ++ (fvs ++ [fv]).flatMap own)) ∧ Upd (b :: (own lv ++ fvs.flatMap own)) (b :: (own v' ++ (fvs ++ [fv]).flatMap own)) w (w2.setCell ⟨b, 2, none⟩ v') := by
  have nb2 : b ∉ own v' := hs2.ne hb2 (by decide)
  have hbw := p.bb.lt
  have old : ∀ m, m < w.heap.size → m ≠ b → m ∉ own lv → (w2.setCell ⟨b, 2, none⟩ v').heap[m]? = w.heap[m]? := fun m h1 h2 h3 => by
    have s1 := hU.fr.size
    have s2 := hx.fr.size
    rw [heap_setCell_other w2 _ m _ h2, hU2.fr.block m (by omega) h3, hx.fr.block m (by omega) (by simp), hU.fr.block m h1 (by simp)]
  refine ⟨⟨v', fvs ++ [fv], rfl, hb2.set 2 v', by simp [Ar.alloc, p.lf], ?_, ?_⟩, ?_⟩
  · have e := rcells_append A.base A.L fvs ⟨tag, List.replicate size 1⟩ fv p.lf
    show Sl _ _ _ 3 (A.L ++ [(⟨tag, List.replicate size 1⟩ : Bk)]).length (rcells A.base (A.L ++ [⟨tag, List.replicate size 1⟩]) (fvs ++ [fv]))
    rw [e, List.length_append]
    have e2 : ((A.base + (flat A.L).length + 1 : Nat) : Int) = (A.top : Int) + 1 := by unfold Ar.top; omega
    rw [e2]
    exact hs2.set nb2 2 v'
  · intro i f k hf hk
    by_cases hi : i < fvs.length
    · rw [List.getElem?_append_left hi] at hf
      have hk' : A.L[i]? = some k := by
        unfold Ar.alloc at hk
        rw [List.getElem?_append_left (by rw [← p.lf]; exact hi)] at hk
        exact hk
      have q := p.sf i f k hf hk'
      refine q.go fun m hm => old m (q.lt m hm) (fun e => ?_) (q.disj p.sl (by decide) m hm)
      subst e
      exact q.ne p.bb (by decide) hm
    · have hl : i = fvs.length := by
        have := (List.getElem?_eq_some_iff.1 hf).1
        simp at this
        omega
      subst hl
      rw [List.getElem?_append_right (Nat.le_refl _)] at hf
      simp at hf
      subst hf
      unfold Ar.alloc at hk
      rw [p.lf, List.getElem?_append_right (Nat.le_refl _)] at hk
      simp at hk
      subst hk
      simp only [List.length_replicate]
      refine hs.go fun m hm => ?_
      have h1 : w.heap.size ≤ m := by
        rcases hU.new m (by simp [hm]) with h | h
        · cases h
        · exact h
      have h2 := hs.lt m hm
      have s2 := hx.fr.size
      rw [heap_setCell_other w2 _ m _ (by show m ≠ b; omega), hU2.fr.block m (by omega) (fun h => by have := p.sl.lt m h; omega), hx.fr.block m h2 (by simp)]
  · have u1 : Upd (b :: (own lv ++ fvs.flatMap own)) (bl :: (own fv ++ (b :: (own lv ++ fvs.flatMap own)))) w wx :=
      (hU.weaken (by simp) (fun k hk => by simp only [List.mem_cons, List.mem_append] at hk ⊢; rcases hk with h | h | h | h | h <;> simp [h])).trans (hx.weaken (by simp) (fun k hk => .inl hk))
    have u2 : Upd (b :: (own lv ++ fvs.flatMap own)) (bl :: (own v' ++ (own fv ++ (b :: (own lv ++ fvs.flatMap own))))) w w2 :=
      u1.trans (hU2.weaken (fun k hk => by simp [hk]) (fun k hk => by simp only [List.mem_cons, List.mem_append] at hk ⊢; rcases hk with h | h | h | h | h | h <;> simp [h]))
    refine (u2.set (b := b) (by simp) 2 v').sub fun k hk => .inl ?_
    simp only [List.mem_cons, List.mem_append, List.flatMap_append, List.flatMap_cons, List.flatMap_nil, List.append_nil] at hk ⊢
    rcases hk with h | h | h | h <;> simp [h]

set_option maxRecDepth 100000 in
set_option maxHeartbeats 3200000 in
theorem ralloc_room {w : World} {b : Nat} {A : Ar} {F : List Nat} (h : IsRf w b A F) (hok : A.ok) (tag size : Nat) (ht : TagOk tag) (hs : size ≤ 4096) (hf : A.top + size + 1 ≤ A.base + A.n) :
    Calls Try.prog 32 #[.pointer (some ⟨b, 0, none⟩), .int .i64 tag, .int .i64 size] w fun e w' => e = .returned (.tuple #[.int .u64 (wPtr ((A.top : Int) + 1)), .int .i64 0]) ∧ ∃ F', IsRf w' b (A.alloc tag size) F' ∧ Upd F F' w w' := by
  obtain ⟨i0, hi, hz0, hz1, hz2⟩ := info_parts Try.infoWord
  obtain ⟨j0, hj, hy0, hy1, hy2⟩ := info_parts Try.infoBlock
  have HB := Lib.hid (fun n : Nat => ref_Base (h.drewN n) hok)
  have HT0 := Lib.hid (ref_Top h hok)
  have hn := hok.2.1
  have hbl := A.base_le
  have hcnt : A.L.length ≤ 32768 := by have := flat_count A.L; have := hok.2.2.1; omega
  have Hlt := Lib.hid h.lt
  obtain ⟨lv, fvs, rfl, p⟩ := h
  have Hp := Lib.hid p
  have cb := p.bb.cell
  have hbw := p.bb.lt
  clear p hok
  have e1 : IntKind.i64.wrap ((A.top : Int) + 1) = (A.top : Int) + 1 := IntWalk.i64_in _ (by omega)
  have e2 : IntKind.i64.wrap ((A.top : Int) + 1 + (size : Int)) = (A.top : Int) + 1 + (size : Int) := IntWalk.i64_in _ (by omega)
  have e3 : IntKind.i64.wrap ((A.base : Int) + (A.n : Int)) = (A.base : Int) + (A.n : Int) := IntWalk.i64_in _ (by omega)
  have hfull : (A.top : Int) + 1 + (size : Int) ≤ (A.base : Int) + (A.n : Int) := by omega
  have hq : ((tag : Int) < 200) ∨ ((199 : Int) < (tag : Int) ∧ ((tag : Int) != 200) = false) ∨ ((199 : Int) < (tag : Int) ∧ ((tag : Int) != 200) = true ∧ ((tag : Int) != 202) = false) := by
    rcases ht with h | h | h
    · exact .inl (by omega)
    · exact .inr (.inl ⟨by omega, by rw [h]; rfl⟩)
    · exact .inr (.inr ⟨by omega, by rw [h]; rfl, by rw [h]; rfl⟩)
  clear ht
  have HE := Lib.hid hfull
  rcases hq with h | ⟨h, h'⟩ | ⟨h, h', h''⟩
  all_goals
    go_enter Try.func32, Try.ntmps32
    go_wp2_with (fail)
    refine Calls.mono HT0.out ?_
    rintro e w' ⟨rfl, n, rfl⟩
    go_wp2
    go_quiet ((go_at_call 38; with_reducible exact qread2 (HB.out _)))
    clear e1 e2 e3
    obtain ⟨wd, hwd⟩ : ∃ wd, wd = w.drewN (n + nq) := ⟨_, rfl⟩
    rw [World.drewN_drewN, ← hwd]
    have cd : ∀ o, wd.cell? ⟨b, o, none⟩ = [Value.int .i64 (A.n : Nat), Value.int .i64 (if A.hi then 1 else 0), lv][o]? := fun o => by rw [hwd]; exact cb o
    have hdw : b < wd.heap.size := by rw [hwd]; exact hbw
    have HWD := Lib.hid hwd
    clear hwd cb
    have e1 : IntKind.i64.wrap ((A.top : Int) + 1) = (A.top : Int) + 1 := IntWalk.i64_in _ (by omega)
    go_wp2
    clear e1
    go_loopw [10] (fun i wr => ∃ (k : Nat) (fv : Value), i = .int .i64 k ∧ k ≤ size ∧ Blk wr wd.heap.size [.int .i64 ((A.top : Int) + 1), .int .i64 (tag : Nat), fv] 72 ∧ Sl wr fv 28 1 k (cels (List.replicate k 1)) ∧ Upd [] (wd.heap.size :: own fv) wd wr) (fun i _ => size - (intOf i).toNat)
    case atStart =>
      refine ⟨0, .slice none 0 0, rfl, by omega, Blk.new' (c := [_, _, _]) rfl, Sl.nil _ _ _, ((Upd.refl [] wd).alloc _).sub (by simp [own, Value.ownBlock])⟩
    case round =>
      obtain ⟨k, fv, rfl, hk, hbl, hsl, hU⟩ := hrel
      obtain ⟨wo, rfl⟩ : ∃ wo : World, wo = wr := ⟨_, rfl⟩
      have cbl := hbl.cell
      have HK := Lib.hid hbl
      have HU := Lib.hid hU
      have HS := Lib.hid hsl
      clear hbl hU hsl
      by_cases hlt : (k : Int) < (size : Int)
      · go_wp2_with (at_builtin; go_loud (refine wpList_app _ rfl (.tmp 55) (.tmp 56) 44 rfl 28 i0 (.int .u64 0) 1 8 Try.ulWords hi hz0 hz1 hz2 rfl fv k (cels (List.replicate k 1)) rfl ?hown _ 1 1 [.int .u64 1] rfl rfl (by exact cell_new1 (by simp)) (by exact one_cell1 rfl) (by unfold maxLen; omega) (by omega) ?go))
        case hown => exact HS.out.alloc _
        case go =>
          intro ad' cap' w2 hs2 hU2
          have nb : wd.heap.size ∉ own (.slice ad' (k + 1) cap') := hs2.ne (hU2.fr.keep (HK.out.alloc _) (HS.out.ne HK.out (by decide))) (by decide)
          have hb2 := hU2.fr.keep (HK.out.alloc _) (HS.out.ne HK.out (by decide))
          have cb2 := hb2.cell
          have fb2 := hb2.free
          have HB2 := Lib.hid hb2
          have HS2 := Lib.hid hs2
          have HN2 := Lib.hid nb
          have HU2 := Lib.hid (((HU.out.alloc (.cells #[.int .u64 1] 28)).trans (hU2.weaken (F := wd.heap.size :: own fv) (F' := wd.heap.size :: own (.slice ad' (k + 1) cap')) (by simp +contextual) (by simp +contextual))).set (b := wd.heap.size) (by simp) 2 (.slice ad' (k + 1) cap'))
          clear hb2 hs2 nb hU2 cbl
          go_wp2
          go_roundw
          case rel =>
            refine ⟨k + 1, .slice ad' (k + 1) cap', by go_num, by omega, HB2.out.set 2 _, ?_, HU2.out⟩
            have e : cels (List.replicate (k + 1) 1) = cels (List.replicate k 1) ++ [.int .u64 1] := by rw [List.replicate_succ']; simp [cels]
            rw [e]
            exact HS2.out.set HN2.out _ _
          case measure => simp [intOf]; omega
      · have hks : k = size := by omega
        subst hks
        have hw2 : wo.heap[b]? = wd.heap[b]? := HU.out.fr.block b hdw (by simp)
        have bw : Blk wo b [.int .i64 (A.n : Nat), .int .i64 (if A.hi then 1 else 0), lv] 64 := by
          refine Hp.out.bb.go (hw2.trans ?_)
          rw [HWD.out]; rfl
        have hsl : Sl wo lv 72 3 A.L.length (rcells A.base A.L fvs) := by
          refine Hp.out.sl.go (fun k hk => (HU.out.fr.block k ?_ (by simp)).trans ?_)
          · rw [HWD.out]; exact Hp.out.sl.lt k hk
          · rw [HWD.out]; rfl
        have nbl : wd.heap.size ∉ own lv := fun hm => by have h1 := Hp.out.sl.lt _ hm; rw [HWD.out] at h1; exact Nat.lt_irrefl _ h1
        have nbb : b ∉ own lv := hsl.ne bw (by decide)
        have cw := bw.cell
        have hbo := bw.lt
        have fw := bw.free
        have HBW := Lib.hid bw
        have HSL := Lib.hid hsl
        have NBL := Lib.hid nbl
        have NBB := Lib.hid nbb
        have hbn : b ≠ wd.heap.size := by omega
        clear bw hsl nbl nbb hw2 cd
        go_wp2
        have e1 : IntKind.i64.wrap ((A.top : Int) + 1) = (A.top : Int) + 1 := IntWalk.i64_in _ (by omega)
        have H1 : ∀ u ∈ [Value.int .i64 ((A.top : Int) + 1), Value.int .i64 (tag : Nat), fv], u.oneCell' = true := by
          obtain ⟨fa, fc, rfl, _⟩ := HS.out.form
          intro u hu
          simp only [List.mem_cons, List.not_mem_nil, or_false] at hu
          rcases hu with rfl | rfl | rfl <;> rfl
        have HH1 := Lib.hid H1
        clear H1
        go_region_law (refine step_app rfl (.tmp 63) (.tmp 65) 62 rfl 72 j0 (.agg #[.int .i64 0, .int .i64 0, .slice none 0 0]) 3 40 Try.ulBlocks hj hy0 hy1 hy2 rfl lv A.L.length (rcells A.base A.L fvs) rfl (by exact HSL.out.drew.alloc _) ⟨wo.heap.size, 0, none⟩ 1 1 [.int .i64 ((A.top : Int) + 1), .int .i64 (tag : Nat), fv] rfl rfl (by exact cell_newL (by simp)) HH1.out (by unfold maxLen; omega) (by omega) ?_; intro ad' cap' w2 hs2 hU2; have hb2 := hU2.fr.keep ((HBW.out.alloc _).drew) NBB.out; have hk2 := hU2.fr.keep ((HK.out.alloc _).drew) NBL.out; have cb2 := hb2.cell; have fb2 := hb2.free; have ck2 := hk2.cell; have HB2 := Lib.hid hb2; have HK2 := Lib.hid hk2; have HS2 := Lib.hid hs2; have HU2 := Lib.hid hU2; clear hb2 hk2 hs2 hU2 cw fw cbl)
        all_goals
          go_wp2_with ((go_at_call 23; with_reducible refine Calls.mono (ref_Ptr _ _ (by unfold I64; omega)) ?_; rintro e w' ⟨rfl, rfl⟩))
          go_ret2
          have hfin := ralloc_end (w := w) (wo := wo) (wx := (wo.alloc (.cells #[.int .i64 ((A.top : Int) + 1), .int .i64 (tag : Nat), fv] 72)).drew) Hp.out (by rw [HWD.out] at HU; exact ⟨⟨HU.out.fr.os, HU.out.fr.tape, HU.out.fr.output, HU.out.fr.size, HU.out.fr.block⟩, HU.out.new⟩) HS.out (((Upd.refl [] wo).alloc _).drew) HB2.out HS2.out HU2.out
          exact ⟨rfl, _, hfin.1, hfin.2⟩

end Go.Proofs.Ytcfmemnokecgbaa
