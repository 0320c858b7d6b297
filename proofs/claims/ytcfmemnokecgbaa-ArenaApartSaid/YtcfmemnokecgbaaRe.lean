/- The reference's arena: New, Flip, Alloc. -/
import Derived.Test.YtcfmemnokecgbaaRc
import Derived.Deep.RegionLaw
namespace Go.Proofs.Ytcfmemnokecgbaa
open Go.RowKit

theorem ref_New_no (n : Int) (h : n < 2 ∨ 32768 < n) (w : World) :
    Calls Try.prog 14 #[.int .i64 n] w fun e w' => e = .returned (.pointer none) ∧ w = w' := by
  rcases h with h | h
  all_goals
    go_enter Try.func14, Try.ntmps14
    go_wp2
    go_ret
    exact ⟨rfl, rfl⟩

theorem ref_New_in (n : Int) (h1 : 2 ≤ n) (h2 : n ≤ 32768) (w : World) :
    Calls Try.prog 14 #[.int .i64 n] w fun e w' => ∃ b F, e = .returned (.pointer (some ⟨b, 0, none⟩)) ∧ IsRf w' b ⟨n.toNat, false, []⟩ F ∧ Upd [] F w w' := by
  go_enter Try.func14, Try.ntmps14
  go_wp2
  go_ret
  refine ⟨w.heap.size, [w.heap.size], rfl, ⟨.slice none 0 0, [], by simp [own, Value.ownBlock], ⟨?_, rfl, Sl.nil _ _ _, by simp⟩⟩, ((Upd.refl [] w).alloc _).sub (by simp)⟩
  have e : ((n.toNat : Nat) : Int) = n := by omega
  show Blk _ _ [.int .i64 ((n.toNat : Nat) : Int), .int .i64 0, .slice none 0 0] _
  rw [e]
  exact Blk.new' (c := [_, _, _]) rfl

theorem ref_Flip {w : World} {b : Nat} {A : Ar} {F : List Nat} (h : IsRf w b A F) :
    Calls Try.prog 34 #[.pointer (some ⟨b, 0, none⟩)] w fun e w' => e = .returned (.tuple #[]) ∧ (∃ F', IsRf w' b A.flip F' ∧ Upd F F' w w') := by
  obtain ⟨lv, fvs, rfl, p⟩ := h
  have cb := p.bb.cell
  have fb := p.bb.free
  obtain ⟨q, hq⟩ : ∃ q : Int, (if A.hi then (1 : Int) else 0) = q := ⟨_, rfl⟩
  have hq2 : 0 ≤ q ∧ q ≤ 1 := by rw [← hq]; split <;> omega
  have Hq := Lib.hid (show 1 - q = (if A.flip.hi then (1 : Int) else 0) by rw [← hq]; unfold Ar.flip; cases A.hi <;> simp)
  have Hp := Lib.hid p
  rw [hq] at cb
  have HQ := Lib.hid hq
  clear p hq
  go_enter Try.func34, Try.ntmps34
  go_wp2
  go_end0
  have hb := Hp.out.bb
  rw [HQ.out] at hb
  refine ⟨rfl, [b], ⟨.slice none 0 0, [], by simp [own, Value.ownBlock], ⟨?_, rfl, Sl.nil _ _ _, by simp⟩⟩, ?_⟩
  · rw [← Hq.out]
    exact (hb.set 1 _).set 2 _
  · exact (((Upd.refl (b :: (own lv ++ fvs.flatMap own)) w).set (by simp) _ _).set (by simp) _ _).sub (by simp)

theorem step_app {P : Program} {ops : Array Oper} {o : Oper} {a : Act} {w : World} {K : Act → World → Prop} {Q : Exit → Act → World → Prop} {E : Prop} (hgd : o.guard = none) (s x : Operand) (t : TypeId)
    (ho : o.op = .call { callee := .builtin .append, args := #[s, x], argTypes := #[t, t] })
    (e : TypeId) (i : TypeInfo) (z : Value) (size bytes : Nat) (ht : P.underlying t = some (.slice e)) (hi : P.info? e = some i) (hz : i.zero = some z)
    (hsize : i.size = size) (hby : i.bytes = bytes) (hzs : z.cells.size = size)
    (v : Value) (n : Nat) (xs : List Value) (hs : a.eval s = v) (hown : Sl w v e size n xs)
    (ad : Addr) (m c : Nat) (news : List Value) (hx : a.eval x = .slice (some ad) m c) (hl : news.length = m * size) (hnews : ∀ j u, news[j]? = some u → w.cell? (ad.add j) = some u) (h1 : ∀ u ∈ news, u.oneCell' = true)
    (h63 : n + m ≤ maxLen) (hbytes : (n + m) * bytes ≤ 140737488355328)
    (h : ∀ ad' cap' w', Sl w' (.slice ad' (n + m) cap') e size (n + m) (xs ++ news) → Upd (own v) (own (.slice ad' (n + m) cap')) w w' → K (a.put o.dst (.slice ad' (n + m) cap')) w') :
    if Region.wanted o (yielded ops a.tmps) = true then Oper.wp P o a w K Q else E := by
  rw [if_pos (by simp [Region.wanted, hgd])]
  exact wp_app w s x t ho e i z size bytes ht hi hz hsize hby hzs v n xs hs hown ad m c news hx hl hnews h1 h63 hbytes h

theorem ralloc_arg {w : World} {b : Nat} (tag size : Int) (ht : ¬ TagOk tag) :
    Calls Try.prog 32 #[.pointer (some ⟨b, 0, none⟩), .int .i64 tag, .int .i64 size] w fun e w' => e = .returned (.tuple #[.int .u64 0, .int .i64 1]) ∧ ∃ n, w' = w.drewN n := by
  have h : tag < 0 ∨ (200 < tag ∧ tag < 202) ∨ 202 < tag := by unfold TagOk at ht; omega
  clear ht
  have h2 : (tag != 200) = true := by rw [bne_iff_ne]; omega
  have h3 : (tag != 202) = true := by rw [bne_iff_ne]; omega
  rcases h with h | ⟨h, h'⟩ | h
  all_goals
    go_enter Try.func32, Try.ntmps32
    go_wp2
    go_ret2
    exact ⟨rfl, 0, rfl⟩

theorem ralloc_range {w : World} {b : Nat} (tag size : Int) (ht : TagOk tag) (hs : size < 0 ∨ 4096 < size) :
    Calls Try.prog 32 #[.pointer (some ⟨b, 0, none⟩), .int .i64 tag, .int .i64 size] w fun e w' => e = .returned (.tuple #[.int .u64 0, .int .i64 2]) ∧ ∃ n, w' = w.drewN n := by
  have hq : (tag < 200) ∨ (199 < tag ∧ (tag != 200) = false) ∨ (199 < tag ∧ (tag != 200) = true ∧ (tag != 202) = false) := by
    rcases ht with h | h | h
    · exact .inl (by omega)
    · exact .inr (.inl ⟨by omega, by rw [h]; rfl⟩)
    · exact .inr (.inr ⟨by omega, by rw [h]; rfl, by rw [h]; rfl⟩)
  have h0 : 0 ≤ tag := by unfold TagOk at ht; omega
  clear ht
  rcases hq with h | ⟨h, h'⟩ | ⟨h, h', h''⟩ <;> rcases hs with hs | hs
  all_goals
    go_enter Try.func32, Try.ntmps32
    go_wp2
    go_ret2
    exact ⟨rfl, 0, rfl⟩

set_option maxRecDepth 100000 in
set_option maxHeartbeats 1600000 in
theorem ralloc_full {w : World} {b : Nat} {A : Ar} {F : List Nat} (h : IsRf w b A F) (hok : A.ok) (tag : Int) (size : Nat) (ht : TagOk tag) (hs : size ≤ 4096) (hf : A.base + A.n < A.top + size + 1) :
    Calls Try.prog 32 #[.pointer (some ⟨b, 0, none⟩), .int .i64 tag, .int .i64 size] w fun e w' => e = .returned (.tuple #[.int .u64 0, .int .i64 10]) ∧ ∃ n, w' = w.drewN n := by
  have HT := Lib.hid (fun n : Nat => ref_Top (h.drewN n) hok)
  have HB := Lib.hid (fun n : Nat => ref_Base (h.drewN n) hok)
  have HT0 := Lib.hid (ref_Top h hok)
  have hn := hok.2.1
  have hbl := A.base_le
  have htl : A.top ≤ A.base + A.n := by have := hok.2.2.1; unfold Ar.top; omega
  obtain ⟨lv, fvs, rfl, p⟩ := h
  have cb := p.bb.cell
  clear p hok
  have e1 : IntKind.i64.wrap ((A.top : Int) + 1) = (A.top : Int) + 1 := IntWalk.i64_in _ (by omega)
  have e2 : IntKind.i64.wrap ((A.top : Int) + 1 + (size : Int)) = (A.top : Int) + 1 + (size : Int) := IntWalk.i64_in _ (by omega)
  have e3 : IntKind.i64.wrap ((A.base : Int) + (A.n : Int)) = (A.base : Int) + (A.n : Int) := IntWalk.i64_in _ (by omega)
  have hfull : (A.base : Int) + (A.n : Int) < (A.top : Int) + 1 + (size : Int) := by omega
  have hq : (tag < 200) ∨ (199 < tag ∧ (tag != 200) = false) ∨ (199 < tag ∧ (tag != 200) = true ∧ (tag != 202) = false) := by
    rcases ht with h | h | h
    · exact .inl (by omega)
    · exact .inr (.inl ⟨by omega, by rw [h]; rfl⟩)
    · exact .inr (.inr ⟨by omega, by rw [h]; rfl, by rw [h]; rfl⟩)
  have h0 : 0 ≤ tag := by unfold TagOk at ht; omega
  clear ht
  rcases hq with h | ⟨h, h'⟩ | ⟨h, h', h''⟩
  all_goals
    go_enter Try.func32, Try.ntmps32
    go_wp2_with (fail)
    refine Calls.mono HT0.out ?_
    rintro e w' ⟨rfl, n, rfl⟩
    go_wp2
    go_quiet ((go_at_call 38; with_reducible exact qread2 (HB.out _)))
    clear e1 e2 e3
    go_wp2
    go_ret2
    exact ⟨rfl, n + nq, by simp⟩

end Go.Proofs.Ytcfmemnokecgbaa
