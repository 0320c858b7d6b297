/- script.quoted, script.act. -/
import Derived.Test.YtnmpckdggddpoaaGreatDoorSw
import Derived.Test.YtnmpckdggddpoaaGreatDoorSl
namespace Go.Proofs.YtnmpckdggddpoaaGreatDoor
set_option linter.unusedSimpArgs false
set_option linter.unusedVariables false
open Go.RowKit Go.Shelf Go.Lib

set_option maxRecDepth 100000 in
set_option maxHeartbeats 2000000 in
theorem lx_Lex_big (s : ByteArray) (w : World) (hs : 4096 < s.size) (hs2 : s.size ≤ 9223372036854775807) :
    Calls Tryz.prog 90 #[.string s] w (LexR s w) := by
  have hgt : (4096 : Int) < (s.size : Int) := by omega
  go_enter_defers Tryz.func90, Tryz.ntmps90
  go_wp2_with (fail)
  refine ⟨_, ret_lex (a := w.heap.size) (b := w.heap.size + 1) (c := w.heap.size + 1 + 1) rfl rfl rfl rfl (x := .slice none 0 0) (u := .int .i64 4) (v := .int .i64 0) (((Blk.new' (c := [_]) rfl).alloc _).alloc _) ((Blk.new' (c := [_]) (by simp)).alloc _) (Blk.new' (c := [_]) (by simp)), ?_⟩
  refine LexR.bad 4 0 ?_ ((((Below.refl _ w).alloc (Nat.le_refl _) _).alloc (by simp) _).alloc (by simp; omega) _)
  unfold quoS
  rw [if_pos (by rw [size_toList]; exact hs)]
theorem lx_Lex_any (s : ByteArray) (B : Nat) (w : World) (hE : Env B w) (hs2 : s.size ≤ 9223372036854775807) : Calls Tryz.prog 90 #[.string s] w (LexR s w) := by
  by_cases h : s.size ≤ 4096
  · exact lx_Lex s B w hE h
  · exact lx_Lex_big s w (by omega) hs2

theorem add_at (g off j : Nat) : (⟨g, off, none⟩ : Addr).add j = ⟨g, off + j, none⟩ := by unfold Addr.add; split <;> simp_all
theorem bstr (x : ByteArray) : (⟨x.data.toList.toArray⟩ : ByteArray) = x := by cases x; simp

set_option maxRecDepth 100000 in
set_option maxHeartbeats 4000000 in
theorem sc_quoted (s : ByteArray) (B : Nat) (w : World) (hE : Env B w) (hs2 : s.size ≤ 9223372036854775807) :
    Calls Tryz.prog 53 #[.string s] w fun e w' => e = .returned (.tuple #[.string ⟨((quoS s.data.toList).getD []).toArray⟩, .bool (quoS s.data.toList).isSome]) ∧ Below w.heap.size w w' := by
  have HL := Lib.hid (lx_Lex_any s B w hE hs2)
  clear hE
  obtain ⟨T, hT⟩ : ∃ T, Hid (quoS s.data.toList = T) := ⟨_, rfl⟩
  rw [hT.out]
  go_enter Tryz.func53, Tryz.ntmps53
  go_wp2_with (fail)
  refine HL.out.mono ?_
  rintro e w' ⟨v, er, at_, n, xs, k0, a0, n0, t0, rfl, hS, hX, hOk, hB⟩
  have HOk := Lib.hid hOk
  have HB := Lib.hid hB
  clear hOk hB HL
  obtain ⟨a, cap, rfl, hnc, hcm, hn0, hc⟩ := hS.form
  by_cases h1 : ¬ er = 0
  · have hq : quoS s.data.toList = none := by
      rcases HOk.out with ⟨h, _⟩ | ⟨_, h, _⟩
      · exact h
      · exact absurd h h1
    obtain rfl : T = none := hT.out.symm.trans hq
    have t1 : (er != 0) = true := by rw [bne_iff_ne]; exact h1
    clear hS hX hc hq
    go_wp2_with (fail)
    go_ret2
    exact ⟨rfl, HB.out⟩
  rw [Classical.not_not] at h1
  subst h1
  by_cases h2 : ¬ n = 2
  · have hq : quoS s.data.toList = none := by
      rcases HOk.out with ⟨h, _⟩ | ⟨_, _, h, _⟩
      · exact h
      · exact absurd h h2
    obtain rfl : T = none := hT.out.symm.trans hq
    have t1 : ((n : Int) != 2) = true := by rw [bne_iff_ne]; omega
    clear hS hX hc hq
    go_wp2_with (fail)
    go_ret2
    exact ⟨rfl, HB.out⟩
  rw [Classical.not_not] at h2
  subst h2
  have hx := hX (by omega)
  cases a with
  | none => exact absurd (hn0 rfl) (by omega)
  | some ad =>
  have hsx : xs = [.int .i64 k0, .int .i64 a0, .int .i64 n0, .string t0] ++ xs.drop 4 := by rw [← hx, List.take_append_drop]
  obtain ⟨g, off, had⟩ : ∃ g off, ad = ⟨g, off, none⟩ := by
    rcases hS.2 with ⟨h, _⟩ | ⟨g, off, _, _, h, _⟩
    · cases h
    · cases h; exact ⟨g, off, rfl⟩
  subst had
  have hcell := (hc _ rfl).2
  have hadd : ∀ j, (⟨g, off, none⟩ : Addr).add j = ⟨g, off + j, none⟩ := fun j => add_at g off j
  have c0 : w'.cell? ⟨g, off, none⟩ = some (.int .i64 k0) := by have := hcell 0 (.int .i64 k0) (by rw [hsx]; rfl); rw [hadd] at this; exact this
  have c1 : w'.cell? ⟨g, off + 1, none⟩ = some (.int .i64 a0) := by have := hcell 1 (.int .i64 a0) (by rw [hsx]; rfl); rw [hadd] at this; exact this
  have c3 : w'.cell? ⟨g, off + 3, none⟩ = some (.string t0) := by have := hcell 3 (.string t0) (by rw [hsx]; rfl); rw [hadd] at this; exact this
  clear hS hX hc hx hsx hcell hadd
  by_cases h3 : ¬ k0 = 2
  · have hq : quoS s.data.toList = none := by
      rcases HOk.out with ⟨h, _⟩ | ⟨_, _, _, h, _⟩
      · exact h
      · exact absurd h h3
    obtain rfl : T = none := hT.out.symm.trans hq
    have t1 : (k0 != 2) = true := by rw [bne_iff_ne]; exact h3
    clear hq
    go_wp2_with (fail)
    go_ret2
    exact ⟨rfl, HB.out⟩
  rw [Classical.not_not] at h3
  subst h3
  by_cases h4 : ¬ a0 = 0
  · have hq : quoS s.data.toList = none := by
      rcases HOk.out with ⟨h, _⟩ | ⟨_, _, _, _, h, _⟩
      · exact h
      · exact absurd h h4
    obtain rfl : T = none := hT.out.symm.trans hq
    have t1 : (a0 != 0) = true := by rw [bne_iff_ne]; exact h4
    clear hq
    go_wp2_with (fail)
    go_ret2
    exact ⟨rfl, HB.out⟩
  rw [Classical.not_not] at h4
  subst h4
  have hpos : 0 < s.data.toList.length := by
    rcases HOk.out with ⟨_, h⟩ | ⟨_, _, _, _, _, _, h, _⟩
    · exact (h rfl rfl).1
    · exact h
  obtain ⟨c, hcl⟩ : ∃ c, s.data.toList[s.data.toList.length - 1]? = some c := ⟨_, List.getElem?_eq_getElem (by omega)⟩
  rw [size_toList] at hpos hcl
  have hb := byte_at hcl
  have e1 : IntKind.i64.wrap ((s.size : Int) - 1) = (s.size : Int) - 1 := IntWalk.i64_in _ (by omega)
  have e2 : ((s.size : Int) - 1).toNat = s.size - 1 := by omega
  have p1 : (0 : Int) ≤ (s.size : Int) - 1 := by omega
  have p2 : (s.size : Int) - 1 < (s.size : Int) := by omega
  have p3 : s.size - 1 < s.size := by omega
  by_cases h5 : c = 34
  · have hq : quoS s.data.toList = some t0.data.toList := by
      rcases HOk.out with ⟨_, h⟩ | ⟨h, _⟩
      · exfalso
        refine (h rfl rfl).2 rfl rfl ?_
        rw [size_toList, hcl, h5]
      · exact h
    subst h5
    obtain rfl : T = some t0.data.toList := hT.out.symm.trans hq
    have hbs := Lib.hid (show (⟨((some t0.data.toList).getD []).toArray⟩ : ByteArray) = t0 from bstr t0)
    clear hq hcl hpos
    go_wp2_with (fail)
    go_ret2
    exact ⟨by rw [hbs.out]; rfl, HB.out⟩
  · have hq : quoS s.data.toList = none := by
      rcases HOk.out with ⟨h, _⟩ | ⟨_, _, _, _, _, _, _, h⟩
      · exact h
      · rw [size_toList, hcl] at h; exact absurd (Option.some.inj h) h5
    obtain rfl : T = none := hT.out.symm.trans hq
    have t1 : ((c.toNat : Int) != 34) = true := by rw [bne_iff_ne]; intro h; exact h5 (UInt8.toNat_inj.1 (by show c.toNat = 34; omega))
    clear hq hcl hpos
    go_wp2_with (fail)
    go_ret2
    exact ⟨rfl, HB.out⟩

def bs (l : List UInt8) : ByteArray := ⟨l.toArray⟩
theorem bs_toList (l : List UInt8) : (bs l).data.toList = l := rfl
/-- An act, as a value's cells. -/
def acCells (a : Ac) : List Value := [.int .i64 (a.kind : Nat), .int .i64 (a.n : Nat), .string (bs a.s)]
theorem cmp_bs (x : ByteArray) (l : List UInt8) : (x.toList == l) = decide (x.data.toList = l) := by
  rw [ByteArray.toList_eq]
  by_cases h : x.data.toList = l
  · rw [decide_eq_true h]; simp [h]
  · rw [decide_eq_false h]; simpa using h

theorem below_act {w w' : World} {o : Obj} (h : Below (w.alloc o).heap.size (w.alloc o) w') : Below w.heap.size w w' := ((Below.refl _ w).alloc (Nat.le_refl _) _).trans (h.mono (by simp))

set_option maxRecDepth 100000 in
set_option maxHeartbeats 4000000 in
theorem sc_act (x r : ByteArray) (m : Bool) (B : Nat) (w : World) (hE : Env B w) (hr : r.size ≤ 9223372036854775806) :
    Calls Tryz.prog 27 #[.string x, .string r, .bool m] w fun e w' => ∃ a : Ac, Hid (∀ b, actS x.data.toList r.data.toList m = some b → a = b) ∧ e = .returned (.tuple #[.agg #[.int .i64 (a.kind : Nat), .int .i64 (a.n : Nat), .string (bs a.s)], .bool (actS x.data.toList r.data.toList m).isSome]) ∧ Below w.heap.size w w' := by
  have HQ := Lib.hid (fun w (hE : Env B w) => sc_quoted r B w hE (by omega))
  have HN := Lib.hid (fun w => sc_number r w hr)
  have HE := Lib.hid hE
  clear hE
  obtain ⟨T, hT⟩ : ∃ T, Hid (actS x.data.toList r.data.toList m = T) := ⟨_, rfl⟩
  rw [hT.out]
  have ha := hT.out
  unfold actS at ha
  have w1 := cmp_bs x [108, 105, 110, 101]
  have w2 := cmp_bs x [114, 117, 110]
  have w3 := cmp_bs x [99, 111, 108, 108, 101, 99, 116]
  have ho : Hid (Blk (w.alloc (.cells #[.int .i64 0, .int .i64 0, .string ⟨#[]⟩] 55)) w.heap.size [.int .i64 0, .int .i64 0, .string ⟨#[]⟩] 55) := Lib.hid (Blk.new' (c := [_, _, _]) rfl)
  by_cases h1 : x.data.toList = wLine ∧ m = true
  · rw [if_pos h1] at ha
    have t1 : (x.toList == [108, 105, 110, 101]) = true := by rw [w1]; exact decide_eq_true h1.1
    have t2 := h1.2
    subst t2
    have HA := Lib.hid ha
    clear w1 w2 w3 ha h1
    go_enter Tryz.func27, Tryz.ntmps27
    go_wp2_with (fail)
    refine (HQ.out _ (HE.out.on (((Below.refl B w).alloc HE.out.le _)))).mono ?_
    rintro e w' ⟨rfl, hB⟩
    have hb1 := blk_below ho.out hB
    have cb := hb1.cell
    have fb := hb1.free
    have HB1 := Lib.hid hb1
    have HB := Lib.hid (below_act hB)
    clear hb1 hB
    go_wp2_with (fail)
    refine ⟨rfl, _, ret_act (a := w.heap.size) rfl rfl (((HB1.out.set 0 _).set 1 _).set 2 _), ⟨(⟨1, 0, (quoS r.data.toList).getD []⟩ : Ac), ?_, ?_, (((HB.out.setCell (p := ⟨w.heap.size, 0, none⟩) (Nat.le_refl _) _).setCell (p := ⟨w.heap.size, 1, none⟩) (Nat.le_refl _) _).setCell (p := ⟨w.heap.size, 2, none⟩) (Nat.le_refl _) _)⟩⟩
    · intro b hb
      subst hb
      have := HA.out
      cases hq : quoS r.data.toList with
      | none => rw [hq] at this; cases this
      | some z => rw [hq] at this; cases this; rfl
    · have h1 : (quoS r.data.toList).isSome = T.isSome := by rw [← HA.out]; cases quoS r.data.toList <;> rfl
      show Ending.returned (.tuple #[_, .bool (quoS r.data.toList).isSome]) = _
      rw [h1]
      rfl
  rw [if_neg h1] at ha
  by_cases h2 : x.data.toList = wRun ∧ m = true
  · rw [if_pos h2] at ha
    have t1 : (x.toList == [108, 105, 110, 101]) = false := by rw [w1, h2.1]; decide
    have t3 : (x.toList == [114, 117, 110]) = true := by rw [w2]; exact decide_eq_true h2.1
    have t2 := h2.2
    subst t2
    have HA := Lib.hid ha
    clear w1 w2 w3 ha h1 h2
    go_enter Tryz.func27, Tryz.ntmps27
    go_wp2_with (fail)
    refine (HN.out _).mono ?_
    rintro e w' ⟨rfl, hB⟩
    have hb1 := blk_below ho.out hB
    have cb := hb1.cell
    have fb := hb1.free
    have HB1 := Lib.hid hb1
    have HB := Lib.hid (below_act hB)
    clear hb1 hB
    go_wp2_with (fail)
    refine ⟨rfl, _, ret_act (a := w.heap.size) rfl rfl (((HB1.out.set 0 _).set 1 _).set 2 _), ⟨(⟨2, (numB r.data.toList).getD 0, []⟩ : Ac), ?_, ?_, (((HB.out.setCell (p := ⟨w.heap.size, 0, none⟩) (Nat.le_refl _) _).setCell (p := ⟨w.heap.size, 1, none⟩) (Nat.le_refl _) _).setCell (p := ⟨w.heap.size, 2, none⟩) (Nat.le_refl _) _)⟩⟩
    · intro b hb
      subst hb
      have := HA.out
      cases hq : numB r.data.toList with
      | none => rw [hq] at this; cases this
      | some z => rw [hq] at this; cases this; rfl
    · have h1 : (numB r.data.toList).isSome = T.isSome := by rw [← HA.out]; cases numB r.data.toList <;> rfl
      show Ending.returned (.tuple #[_, .bool (numB r.data.toList).isSome]) = _
      rw [h1]
      rfl
  rw [if_neg h2] at ha
  have HA := Lib.hid ha
  have key : ∀ (p q z : Bool), (x.toList == [108, 105, 110, 101]) = p → (x.toList == [114, 117, 110]) = q → (x.toList == [99, 111, 108, 108, 101, 99, 116]) = z → ¬ (p = true ∧ m = true) → ¬ (q = true ∧ m = true) → T.isSome = (z && !m) →
      Calls Tryz.prog 27 #[.string x, .string r, .bool m] w fun e w' => ∃ a : Ac, Hid (∀ b, T = some b → a = b) ∧ e = .returned (.tuple #[.agg #[.int .i64 (a.kind : Nat), .int .i64 (a.n : Nat), .string (bs a.s)], .bool T.isSome]) ∧ Below w.heap.size w w' := by
    intro p q z hp hq hz np nq hT2
    have HT2 := Lib.hid hT2
    have HO2 := Lib.hid (show Hid (Blk (w.alloc (.cells #[.int .i64 3, .int .i64 0, .string ⟨#[]⟩] 55)) w.heap.size [.int .i64 3, .int .i64 0, .string ⟨#[]⟩] 55) from Lib.hid (Blk.new' (c := [_, _, _]) rfl))
    have HA2 : Hid (∀ b, T = some b → (⟨3, 0, []⟩ : Ac) = b) := Lib.hid (by
      intro b hb
      have := HA.out
      rw [hb] at this
      split at this
      · cases this; rfl
      · cases this)
    clear w1 w2 w3 ha h1 h2 hT2 HA
    cases p <;> cases q <;> cases z <;> cases m
    all_goals first
      | exact absurd ⟨rfl, rfl⟩ np
      | exact absurd ⟨rfl, rfl⟩ nq
      | skip
    all_goals
      clear np nq
      go_enter Tryz.func27, Tryz.ntmps27
      go_wp2_with (fail)
      refine ⟨rfl, _, ret_act (a := w.heap.size) rfl rfl HO2.out.out, ⟨⟨3, 0, []⟩, HA2, ?_, ((Below.refl _ w).alloc (Nat.le_refl _) _)⟩⟩
      rw [HT2.out]
      rfl
  refine key _ _ _ w1 w2 w3 ?_ ?_ ?_
  · rintro ⟨a, b⟩; exact h1 ⟨of_decide_eq_true a, b⟩
  · rintro ⟨a, b⟩; exact h2 ⟨of_decide_eq_true a, b⟩
  · rw [← ha]
    by_cases h : x.data.toList = wColl
    · rw [show decide (x.data.toList = [99, 111, 108, 108, 101, 99, 116]) = true from decide_eq_true h]
      cases m
      · rw [if_pos ⟨h, rfl⟩]; rfl
      · rw [if_neg (fun e => by cases e.2)]; rfl
    · rw [show decide (x.data.toList = [99, 111, 108, 108, 101, 99, 116]) = false from decide_eq_false h, if_neg (fun e => h e.1)]; rfl

end Go.Proofs.YtnmpckdggddpoaaGreatDoor
