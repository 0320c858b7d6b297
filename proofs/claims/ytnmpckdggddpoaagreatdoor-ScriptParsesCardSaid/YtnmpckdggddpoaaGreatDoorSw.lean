/- lex.Lex, loosely. -/
import Derived.Test.YtnmpckdggddpoaaGreatDoorSv
import Derived.Deep.RegionLaw
import Derived.Lib.SliceRun
namespace Go.Proofs.YtnmpckdggddpoaaGreatDoor
set_option linter.unusedSimpArgs false
set_option linter.unusedVariables false
open Go.RowKit Go.Shelf Go.Lib

theorem cell_newL {w : World} {l : List Value} {t : TypeId} {k : Nat} (hk : k = w.heap.size) : ∀ j u, l[j]? = some u → (w.alloc (.cells l.toArray t)).cell? ((⟨k, 0, none⟩ : Addr).add j) = some u := by
  intro j u hj
  have hb : Blk (w.alloc (.cells l.toArray t)) k l t := Blk.new' hk
  rw [show (⟨k, 0, none⟩ : Addr).add j = ⟨k, j, none⟩ by unfold Addr.add; split <;> simp_all, hb.cell]
  exact hj
theorem step_app {P : Program} {ops : Array Oper} {o : Oper} {a : Act} {w : World} {K : Act → World → Prop} {Q : Exit → Act → World → Prop} {E : Prop} (hgd : o.guard = none) (s x : Operand) (t : TypeId)
    (ho : o.op = .call { callee := .builtin .append, args := #[s, x], argTypes := #[t, t] })
    (e : TypeId) (i : TypeInfo) (z : Value) (size bytes : Nat) (ht : P.underlying t = some (.slice e)) (hi : P.info? e = some i) (hz : i.zero = some z)
    (hsize : i.size = size) (hby : i.bytes = bytes) (hzs : z.cells.size = size)
    (v : Value) (n : Nat) (xs : List Value) (hs : a.eval s = v) (hown : Sl w v e size n xs)
    (ad : Addr) (m c : Nat) (news : List Value) (hx : a.eval x = .slice (some ad) m c) (hl : news.length = m * size) (hnews : ∀ j u, news[j]? = some u → w.cell? (ad.add j) = some u) (h1 : ∀ u ∈ news, u.oneCell' = true)
    (h63 : n + m ≤ maxLen) (hbytes : (n + m) * bytes ≤ 140737488355328)
    (h : ∀ ad' cap' w', Sl w' (.slice ad' (n + m) cap') e size (n + m) (xs ++ news) → Upd (own v) (own (.slice ad' (n + m) cap')) w w' → K (a.put o.dst (.slice ad' (n + m) cap')) w') :
    if Region.wanted o (yielded ops a.tmps) = true then Oper.wp P o a w K Q else E := by
  rw [if_pos (by simp [Region.wanted, hgd])]
  exact wp_app w s x t ho e i z size bytes ht hi hz hsize hby hzs v n xs hs hown ad m c news hx hl hnews h1 h63 hbytes h

/-- What a region may be left by: a panic of the kind PF (which doesn't hang on the slots). -/
def OrP (PF : List PanicEntry → List Deferred → World → Prop) (Q : Exit → Act → World → Prop) : Exit → Act → World → Prop
  | .panic ch, a, w => PF ch a.defers w
  | .normal, a, w => Q .normal a w
  | _, _, _ => False
theorem orP_panic {PF : List PanicEntry → List Deferred → World → Prop} {Q : Exit → Act → World → Prop} {ch : List PanicEntry} {a : Act} {w : World} (h : PF ch a.defers w) : OrP PF Q (.panic ch) a w := h
theorem orP_normal {PF : List PanicEntry → List Deferred → World → Prop} {Q : Exit → Act → World → Prop} {a : Act} {w : World} (h : Q .normal a w) : OrP PF Q .normal a w := h
/-- Slots that a region doesn't write. -/
def KeepT (S : List Nat) (a0 a : Act) : Prop := ∀ i ∈ S, a.tmps[i]? = a0.tmps[i]?
theorem KeepT.put {S : List Nat} {a0 a : Act} (h : KeepT S a0 a) {dst : Option Tmp} (hd : ∀ d, dst = some d → d ∉ S) (v : Value) : KeepT S a0 (a.put dst v) := by
  cases dst with
  | none => exact h
  | some d =>
    intro i hi
    show (a.tmps.setIfInBounds d v)[i]? = _
    rw [Array.getElem?_setIfInBounds_ne (fun e => hd d rfl (by rw [e]; exact hi))]
    exact h i hi
theorem oper_keep {P : Program} {S : List Nat} {a0 : Act} {PF : List PanicEntry → List Deferred → World → Prop} {Q : Exit → Act → World → Prop} (hq : ∀ ch a w, KeepT S a0 a → PF ch a.defers w → Q (.panic ch) a w)
    {o : Oper} (hd : ∀ d, o.dst = some d → d ∉ S) {a : Act} {w : World} (ha : KeepT S a0 a) {K K' : Act → World → Prop} (hK : ∀ a w, KeepT S a0 a → K a w → K' a w) (hh : o.wp P a w K (OrP PF Q)) : o.wp P a w K' Q := by
  unfold Oper.wp at *
  generalize (execOp a.eval o).run P w = r at *
  cases r with
  | ok n w' =>
    cases n <;> simp only [Oper.upon] at hh ⊢ <;>
      first
        | exact hK _ _ (ha.put hd _) hh
        | exact hK _ _ (KeepT.put (a := { a with defers := _ :: a.defers }) ha hd _) hh
        | exact Calls.mono hh (fun e w'' he => by cases e <;> first | exact hK _ _ (ha.put hd _) he | exact hq _ _ _ ha he | exact he.elim (fun _ h => h.elim (fun _ h => h.elim)))
        | exact Rows.mono hh (fun _ _ he => hK _ _ (ha.put hd _) he)
  | halt x w' => cases x <;> simp only [Oper.upon] at hh ⊢ <;> first | exact hq _ _ _ ha hh | exact hh
theorem wpAny_keep {P : Program} {md : Region.Mode} {ops : Array Oper} (S : List Nat) (a0 : Act) {PF : List PanicEntry → List Deferred → World → Prop} {Q : Exit → Act → World → Prop} (hq : ∀ ch a w, KeepT S a0 a → PF ch a.defers w → Q (.panic ch) a w)
    (hops : (ops.toList.all fun o => match o.dst with | some d => !S.contains d | none => true) = true) : ∀ (fuel : Nat) (listed : Array Bool) (a : Act) (w : World), KeepT S a0 a → wpAny P md ops (OrP PF Q) fuel listed a w → wpAny P md ops Q fuel listed a w
  | 0, _, _, _, _, h => h
  | fuel + 1, listed, a, w, ha, h => by
    refine ⟨h.1, fun i hi => ?_⟩
    have h2 := h.2 i hi
    unfold wpOp at h2 ⊢
    cases ho : ops[i]? with
    | none =>
      simp only [ho] at h2 ⊢
      exact wpAny_keep S a0 hq hops fuel _ a w ha h2
    | some o =>
      simp only [ho] at h2 ⊢
      have hd : ∀ d, o.dst = some d → d ∉ S := fun d hd => by
        have hm : o ∈ ops.toList := by
          obtain ⟨h1, h2⟩ := Array.getElem?_eq_some_iff.1 ho
          rw [← h2]; simp
        have := List.all_eq_true.1 hops o hm
        rw [hd] at this
        simpa using this
      split
      · rename_i hw
        simp only [hw, if_true] at h2
        rcases h2 with h2 | ⟨_, _, _, h2⟩
        · exact .inl (oper_keep hq hd ha (fun a' w' hk h' => wpAny_keep S a0 hq hops fuel _ a' w' hk h') h2)
        · exact h2.elim
      · rename_i hw
        simp only [hw] at h2
        exact wpAny_keep S a0 hq hops fuel _ _ w (ha.put hd _) h2

theorem infoTok : (Tryz.prog.info? 84).map (fun i => (i.zero, i.size, i.bytes)) = some (some (.agg #[.int .i64 0, .int .i64 0, .int .i64 0, .string ⟨#[]⟩]), 4, 40) := by kernel_rfl
theorem ulTok : Tryz.prog.underlying 115 = some (.slice 84) := by kernel_rfl

theorem sl_fr {w w' : World} {v : Value} {e : TypeId} {size n : Nat} {xs : List Value} {F : List Nat} (h : Sl w v e size n xs) (hf : Fr F w w') (hn : ∀ q ∈ own v, q ∉ F) : Sl w' v e size n xs := h.go fun q hq => hf.block q (h.lt q hq) (hn q hq)
theorem tok_one (a b c : Int) (t : ByteArray) : ∀ u ∈ [Value.int .i64 a, .int .i64 b, .int .i64 c, .string t], u.oneCell' = true := by
  intro u hu
  simp only [List.mem_cons, List.not_mem_nil, or_false] at hu
  rcases hu with rfl | rfl | rfl | rfl <;> rfl

set_option maxRecDepth 100000 in
set_option maxHeartbeats 2000000 in
theorem tok_Clone {w : World} {v : Value} {n : Nat} {xs : List Value} (h : Sl w v 84 4 n xs) (h1 : ∀ u ∈ xs, u.oneCell' = true) (hn : n ≤ 100000) :
    Calls Tryz.prog 159 #[v] w fun e w' => ∃ v', e = .returned v' ∧ Sl w' v' 84 4 n xs ∧ Upd [] (own v') w w' := by
  obtain ⟨j0, hj, hy0, hy1, hy2⟩ := info_parts infoTok
  obtain ⟨a, cap, rfl, _, _, hn0, hc⟩ := h.form
  have H := Lib.hid h
  have H1 := Lib.hid h1
  clear h h1
  have q22 : ∀ (w : World) (a : Option Addr) (n c n' c' : Nat), (binOp .eql 115 (.slice a n c) (.slice none n' c')).run Tryz.prog w = .ok (.bool a.isNone) w := fun w a n c n' c' => Lib.run_eql_slice_nil w _ _ a n c n' c' ulTok
  cases a with
  | none =>
    have hz : n = 0 := hn0 rfl
    have hx : xs = [] := List.eq_nil_of_length_eq_zero (by rw [H.out.1, hz])
    subst hz
    subst hx
    clear hc
    go_enter Tryz.func159, Tryz.ntmps159
    go_wp2_with (fail)
    go_ret
    exact ⟨_, rfl, Sl.nil _ _ _, by simpa [own, Value.ownBlock] using Upd.refl [] w⟩
  | some ad =>
    have HCell := Lib.hid (hc ad rfl).2
    clear hc hn0
    have hl := H.out.1
    go_enter Tryz.func159, Tryz.ntmps159
    go_wp2_with (at_builtin; go_loud (refine wpList_app _ rfl (.tmp 5) (.tmp 6) 115 rfl 84 j0 (.agg #[.int .i64 0, .int .i64 0, .int .i64 0, .string ⟨#[]⟩]) 4 40 ulTok hj hy0 hy1 hy2 rfl _ 0 [] rfl ?hown _ n cap xs rfl hl ?hcell H1.out (by unfold maxLen; omega) (by omega) ?go))
    case hown => exact Sl.ofBlk (Blk.new' (c := []) rfl) rfl (by unfold maxLen; omega)
    case hcell =>
      intro j u hu
      have := HCell.out j u hu
      rw [← this]
      refine World.cell?_of_block (heap_alloc_old w _ ?_)
      exact block_lt_of_cell this
    case go =>
      intro ad' cap' w2 hs2 hU2
      have HS2 := Lib.hid hs2
      have HU2 := Lib.hid hU2
      clear hs2 hU2
      go_wp2_with (fail)
      go_ret
      refine ⟨_, rfl, by simpa using HS2.out, ?_⟩
      have h0 : Upd [] [w.heap.size] w (w.alloc (.cells #[] 84)) := ((Upd.refl [] w).alloc _).sub (fun q hq => by simp at hq; omega)
      have hU2 := HU2.out
      exact h0.trans (hU2.weaken (F := [w.heap.size]) (F' := own (.slice ad' n cap')) (fun q hq => by simpa [own, Value.ownBlock] using hq) (fun q hq => .inr hq))

abbrev lexDef (ra : Nat) : List Deferred := [{ target := .fn (.func 156) #[.pointer (some ⟨ra, 0, none⟩), .pointer (some ⟨ra + 1, 0, none⟩), .pointer (some ⟨ra + 1 + 1, 0, none⟩)], args := #[] }]
def LexPF (s : ByteArray) (p ra rb : Nat) (wr : World) (ch : List PanicEntry) (ds : List Deferred) (w' : World) : Prop :=
  ∃ er at_ : Int, ch = [{ v := .iface 204 (.agg #[.int .i64 er, .int .i64 at_]), recovered := false }] ∧ OneF s.data.toList p ∧ Fr [rb] wr.drew w' ∧ ds = lexDef ra
/-- Lex's door, where a fault goes through it. -/
theorem lex_door {R : Ending → World → Prop} {tmps : Array Value} {ra : Nat} {er at_ : Int} {x y z : Value} {w1 : World}
    (h2 : tmps.getD 2 undef = .pointer (some ⟨ra, 0, none⟩)) (h3 : tmps.getD 3 undef = .pointer (some ⟨ra + 1, 0, none⟩)) (h4 : tmps.getD 4 undef = .pointer (some ⟨ra + 1 + 1, 0, none⟩))
    (ha : Blk w1 ra [x] 115) (hb : Blk w1 (ra + 1) [y] 26) (hc : Blk w1 (ra + 1 + 1) [z] 3)
    (hR : ∀ w', Fr [ra, ra + 1, ra + 1 + 1] w1 w' → R (.returned (.tuple #[.slice none 0 0, .int .i64 er, .int .i64 at_])) w') :
    bodyPostD Tryz.prog Tryz.f90 R (Exit.panic [{ v := .iface 204 (.agg #[.int .i64 er, .int .i64 at_]), recovered := false }]) { tmps := tmps, defers := lexDef ra } w1 := by
  refine leaves_cons (f := 156) (args := #[.pointer (some ⟨ra, 0, none⟩), .pointer (some ⟨ra + 1, 0, none⟩), .pointer (some ⟨ra + 1 + 1, 0, none⟩)]) (by simp) (by simp [go_sem]) ?_
  refine (lx_catch ra (ra + 1) (ra + 1 + 1) er at_ x y z w1 ha hb hc (by omega) (by omega) (by omega)).mono ?_
  rintro e u' w' ⟨rfl, rfl, hA, hB, hC, hF⟩
  exact ⟨_, ret_lex rfl h2 h3 h4 hA hB hC, hR w' hF⟩
/-- Lex's door, where it ends well. -/
theorem lex_out {R : Ending → World → Prop} {tmps : Array Value} {ra : Nat} {x y z : Value} {w1 : World}
    (h2 : tmps.getD 2 undef = .pointer (some ⟨ra, 0, none⟩)) (h3 : tmps.getD 3 undef = .pointer (some ⟨ra + 1, 0, none⟩)) (h4 : tmps.getD 4 undef = .pointer (some ⟨ra + 1 + 1, 0, none⟩))
    (ha : Blk w1 ra [x] 115) (hb : Blk w1 (ra + 1) [y] 26) (hc : Blk w1 (ra + 1 + 1) [z] 3)
    (hR : ∀ w', Below w1.heap.size w1 w' → R (.returned (.tuple #[x, y, z])) w') :
    bodyPostD Tryz.prog Tryz.f90 R Exit.ret { tmps := tmps, defers := lexDef ra } w1 := by
  refine leaves_cons (f := 156) (args := #[.pointer (some ⟨ra, 0, none⟩), .pointer (some ⟨ra + 1, 0, none⟩), .pointer (some ⟨ra + 1 + 1, 0, none⟩)]) (by simp) (by simp [go_sem]) ?_
  refine (lx_idle ra (ra + 1) (ra + 1 + 1) w1).mono ?_
  rintro e u' w' ⟨rfl, rfl, hB⟩
  exact ⟨_, ret_lex rfl h2 h3 h4 (blk_below ha hB) (blk_below hb hB) (blk_below hc hB), hR w' hB⟩

def LexR (s : ByteArray) (w : World) (e : Ending) (w' : World) : Prop :=
  ∃ (v : Value) (er at_ : Int) (n : Nat) (xs : List Value) (k0 a0 n0 : Int) (t0 : ByteArray),
      e = .returned (.tuple #[v, .int .i64 er, .int .i64 at_]) ∧ Sl w' v 84 4 n xs ∧ (0 < n → xs.take 4 = [.int .i64 k0, .int .i64 a0, .int .i64 n0, .string t0]) ∧ LexOk s.data.toList er n k0 a0 n0 t0.data.toList ∧ Below w.heap.size w w'
theorem LexR.bad {s : ByteArray} {w w' : World} (er at_ : Int) (hq : quoS s.data.toList = none) (hB : Below w.heap.size w w') : LexR s w (.returned (.tuple #[.slice none 0 0, .int .i64 er, .int .i64 at_])) w' :=
  ⟨_, er, at_, 0, [], 0, 0, 0, ByteArray.empty, rfl, Sl.nil _ _ _, fun h => by omega, .inl ⟨hq, fun _ h => by omega⟩, hB⟩

set_option maxRecDepth 100000 in
set_option maxHeartbeats 8000000 in
theorem lx_Lex (s : ByteArray) (B : Nat) (w : World) (hE : Env B w) (hs : s.size ≤ 4096) :
    Calls Tryz.prog 90 #[.string s] w (LexR s w) := by
  have hmf : ∀ (fn : Fn) (first cap : Array Value) (w : World), (Instr.makeFunc fn first cap).run Tryz.prog w = .ok (.func fn first cap) w := fun _ _ _ _ => rfl
  have hgt : ¬ (4096 : Int) < (s.size : Int) := by omega
  obtain ⟨j0, hj, hy0, hy1, hy2⟩ := info_parts infoTok
  have HE := Lib.hid hE
  clear hE
  go_enter_defers Tryz.func90, Tryz.ntmps90
  go_wp2_with (fail)
  obtain ⟨ra, hra⟩ : ∃ ra, ra = w.heap.size := ⟨_, rfl⟩
  rw [← hra]
  obtain ⟨wb, hwb⟩ : ∃ wb, wb = ((((w.alloc (.cells #[.slice none 0 0] 115)).alloc (.cells #[.int .i64 0] 26)).alloc (.cells #[.int .i64 0] 3)).alloc (.cells #[.string s, .int .i64 0, .slice none 0 0] 208)) := ⟨_, rfl⟩
  have h1 : Blk wb ra [.slice none 0 0] 115 := by
    rw [hwb]; exact ((Blk.new' (c := [_]) hra).alloc _).alloc _ |>.alloc _
  have h2 : Blk wb (ra + 1) [.int .i64 0] 26 := by
    rw [hwb]; exact ((Blk.new' (c := [_]) (by simp [hra])).alloc _).alloc _
  have h3 : Blk wb (ra + 1 + 1) [.int .i64 0] 3 := by
    rw [hwb]; exact (Blk.new' (c := [_]) (by simp [hra])).alloc _
  have h4 : Rd wb (ra + 1 + 1 + 1) s 0 (.slice none 0 0) := by
    rw [hwb]; exact Blk.new' (c := [_, _, _]) (by simp [hra])
  have hU : Upd [] [ra, ra + 1, ra + 1 + 1, ra + 1 + 1 + 1] w wb := by
    rw [hwb]
    exact (((((Upd.refl [] w).alloc _).alloc _).alloc _).alloc _).sub (fun q hq => by simp at hq; omega)
  have hBr : B ≤ ra := by rw [hra]; exact HE.out.le
  rw [← hwb]
  clear hwb
  obtain ⟨rb, hrb⟩ : ∃ rb, rb = ra + 1 + 1 + 1 := ⟨_, rfl⟩
  rw [← hrb] at h4 hU ⊢
  have HEb := Lib.hid (HE.out.fr hU.fr (by simp))
  have H1 := Lib.hid h1
  have H2 := Lib.hid h2
  have H3 := Lib.hid h3
  have H4 := Lib.hid h4
  have HU := Lib.hid hU
  have HRA := Lib.hid hra
  have HRB := Lib.hid hrb
  clear h1 h2 h3 h4 hU hra hrb
  refine (lx_gap rb s 0 (.slice none 0 0) wb H4.out hs (by omega)).mono ?_
  rintro e w1 (⟨p, rfl, hG, hR, hF⟩ | ⟨p, he, hG, hF⟩)
  · have HG := Lib.hid hG
    have HR := Lib.hid hR
    have HF := Lib.hid hF
    have hps := hG.ub
    rw [size_toList] at hps
    have L1 := Lib.hid (hF.keep H1.out (by have := HRB.out; simp; omega))
    have L2 := Lib.hid (hF.keep H2.out (by have := HRB.out; simp; omega))
    have L3 := Lib.hid (hF.keep H3.out (by have := HRB.out; simp; omega))
    have HU1 := Lib.hid (HU.out.trans (upd_of_fr (F' := [ra, ra + 1, ra + 1 + 1, rb]) hF (by simp)))
    clear hG hR hF
    go_wp2_with (fail)
    go_loopw [15] (fun _ wr => ∃ (p n : Nat) (v : Value) (xs : List Value) (k0 a0 n0 : Int) (t0 : ByteArray), p ≤ s.size ∧ n ≤ p ∧ Hid (LexI s.data.toList p n k0 a0 n0 t0.data.toList) ∧ Hid (0 < n → xs.take 4 = [.int .i64 k0, .int .i64 a0, .int .i64 n0, .string t0]) ∧ Hid (∀ u ∈ xs, u.oneCell' = true) ∧
      Rd wr rb s p v ∧ Sl wr v 84 4 n xs ∧ Hid (Blk wr ra [.slice none 0 0] 115 ∧ Blk wr (ra + 1) [.int .i64 0] 26 ∧ Blk wr (ra + 1 + 1) [.int .i64 0] 3) ∧ Upd [] ([ra, ra + 1, ra + 1 + 1, rb] ++ own v) w wr) (fun _ wr => s.size - posR wr rb)
    case atStart =>
      exact ⟨p, 0, .slice none 0 0, [], 0, 0, 0, ByteArray.empty, hps, by omega, ⟨fun _ => HG.out, fun h => by omega⟩, fun h => by omega, fun u hu => (by cases hu), HR.out, Sl.nil _ _ _, ⟨L1.out, L2.out, L3.out⟩, by simpa [own, Value.ownBlock] using HU1.out⟩
    case round =>
      clear HG HR L1 L2 L3 HU1 H1 H2 H3 H4 HEb HU HF hps
      obtain ⟨p, n, v, xs, k0, a0, n0, t0, hp, hn, HI, HX, HO1, hR, hS, HL, hU⟩ := hrel
      have cb := hR.cell
      have fb := hR.free
      have HEr := Lib.hid (HE.out.fr hU.fr (by simp))
      have hbv : rb ∉ own v := hS.ne hR (by decide)
      have HBV := Lib.hid hbv
      have HR := Lib.hid hR
      have HS := Lib.hid hS
      have HU := Lib.hid hU
      clear hR hS hU hbv
      rcases Nat.lt_or_ge p s.size with hlt | hge
      · have hlt' : (p : Int) < (s.size : Int) := by omega
        have HO := Lib.hid (lx_one rb s p v B wr.drew (HEr.out.drewN 1) (by have := HRB.out; omega) HR.out.drew hs hlt)
        go_wp2_with (fail)
        refine wp_region_any (by kernel_rfl) ?_
        change wpAny _ _ _ _ _ _ _ (World.drew _)
        refine wpAny_keep [2, 3, 4] _ (PF := LexPF s p ra rb wr) ?hq rfl _ _ _ _ (fun _ _ => rfl) ?_
        case hq =>
          rintro ch ⟨tmps, defers⟩ w' hk ⟨er, at_, rfl, hO, hF2, hd⟩
          simp only at hd
          subst hd
          have h2 := hk 2 (by simp)
          have h3 := hk 3 (by simp)
          have h4 := hk 4 (by simp)
          go_wp2_with (fail)
          obtain ⟨l1, l2, l3⟩ := HL.out
          refine lex_door (by simpa using congrArg (·.getD undef) h2) (by simpa using congrArg (·.getD undef) h3) (by simpa using congrArg (·.getD undef) h4) (hF2.keep l1.drew (by have := HRB.out; simp; omega)) (hF2.keep l2.drew (by have := HRB.out; simp; omega)) (hF2.keep l3.drew (by have := HRB.out; simp; omega)) (fun w2 hF3 => LexR.bad _ _ (HI.out.gapF hO) ?_)
          exact ((HU.out.drew.trans (upd_of_fr (F' := [ra, ra + 1, ra + 1 + 1, rb] ++ own v) hF2 (by simp))).trans (upd_of_fr hF3 (by simp))).fr.below (Nat.le_refl _) (by simp)
        refine wpAny_take (i := 0) (v := ?_) rfl (by kernel_rfl) (by kernel_rfl) (by kernel_rfl) (fun _ _ _ h => h) (Or.inl ⟨by rfl, ?_⟩) ?_
        rotate_left
        · intro w
          go_simp
          try with_reducible rfl
        refine wpAny_take (i := 1) (v := ?_) rfl (by kernel_rfl) (by kernel_rfl) (by kernel_rfl) (fun _ _ _ h => h) (Or.inl ⟨by rfl, ?_⟩) ?_
        rotate_left
        · intro w
          go_simp
          try with_reducible rfl
        refine wpAny_take (i := 5) (v := ?_) rfl (by kernel_rfl) (by kernel_rfl) (by kernel_rfl) (fun _ _ _ h => h) (Or.inl ⟨by rfl, ?_⟩) ?_
        rotate_left
        · intro w
          go_simp
          try with_reducible rfl
        refine wpAny_take (i := 2) (v := ?_) rfl (by kernel_rfl) (by kernel_rfl) (by kernel_rfl) (fun _ _ _ h => h) (Or.inl ⟨by rfl, ?_⟩) ?_
        rotate_left
        · intro w
          go_simp
          try with_reducible rfl
        refine wpAny_take (i := 3) (v := ?_) rfl (by kernel_rfl) (by kernel_rfl) (by kernel_rfl) (fun _ _ _ h => h) (Or.inl ⟨by rfl, ?_⟩) ?_
        rotate_left
        · intro w
          go_simp
          try with_reducible rfl
        refine wpAny_ready (rs := [4, 6]) (by kernel_rfl) (by simp) ?_
        refine AllReady.cons rfl (fun K hK => ?_) (AllReady.cons rfl (fun K hK => ?_) AllReady.nil)
        · skip
          go_simp
          refine hK _ _ ?_
          clear hK K
          refine wpAny_ready (rs := [6]) (by kernel_rfl) (by simp) ?_
          refine AllReady.cons rfl (fun K hK => ?_) AllReady.nil
          go_simp
          refine Calls.mono HO.out ?_
          rintro e wq (⟨j, kind, at2, m, t, hone, rfl, hR2, hF2⟩ | ⟨er, at2, he, hO, hF2⟩)
          rotate_left
          · unfold flt at he
            subst he
            refine orP_panic ?_
            exact ⟨_, _, rfl, hO, hF2, rfl⟩
          have cb1 := hR2.cell
          have fb1 := hR2.free
          have HR2 := Lib.hid hR2
          have HONE := Lib.hid hone
          have HF2 := Lib.hid hF2
          have HS2 := Lib.hid (sl_fr HS.out.drew hF2 (by intro q hq hm; simp at hm; subst hm; exact HBV.out hq))
          clear hR2 hone hF2
          refine hK _ _ ?_
          clear hK K
          refine wpAny_ready (rs := [7]) (by kernel_rfl) (by simp) ?_
          refine AllReady.cons rfl (fun K hK => ?_) AllReady.nil
          go_simp
          refine hK _ _ ?_
          clear hK K
          refine wpAny_ready (rs := [8]) (by kernel_rfl) (by simp) ?_
          refine AllReady.cons rfl (fun K hK => ?_) AllReady.nil
          refine step_app rfl (.tmp 28) (.tmp 31) 115 rfl 84 j0 (.agg #[.int .i64 0, .int .i64 0, .int .i64 0, .string ⟨#[]⟩]) 4 40 ulTok hj hy0 hy1 hy2 rfl v n xs rfl (by exact HS2.out.alloc _) ⟨wq.heap.size, 0, none⟩ 1 1 [.int .i64 kind, .int .i64 at2, .int .i64 m, .string t] rfl rfl (by exact cell_newL (by simp)) (tok_one _ _ _ _) (by unfold maxLen; omega) (by omega) ?_
          intro ad' cap' w2 hs2 hU2
          have hb2 := hU2.fr.keep (HR2.out.alloc _) HBV.out
          have cb2 := hb2.cell
          have fb2 := hb2.free
          have HB2 := Lib.hid hb2
          have HS3 := Lib.hid hs2
          have HU3 := Lib.hid hU2
          clear hb2 hs2 hU2
          refine hK _ _ ?_
          clear hK K
          refine wpAny_take (i := 9) (v := ?_) rfl (by kernel_rfl) (by kernel_rfl) (by kernel_rfl) (fun _ _ _ h => h) (Or.inl ⟨by rfl, ?_⟩) ?_
          rotate_left
          · intro w
            go_simp
            try with_reducible rfl
          refine wpAny_take (i := 10) (v := ?_) rfl (by kernel_rfl) (by kernel_rfl) (by kernel_rfl) (fun _ _ _ h => h) (Or.inl ⟨by rfl, ?_⟩) ?_
          rotate_left
          · intro w
            go_simp
            try with_reducible rfl
          refine wpAny_ready (rs := [11]) (by kernel_rfl) (by simp) ?_
          refine AllReady.cons rfl (fun K hK => ?_) AllReady.nil
          go_simp
          refine hK _ _ ?_
          clear hK K
          refine wpAny_done (by kernel_rfl) ?_ _
          refine orP_normal ?_
          have nb : rb ∉ own (.slice ad' (n + 1) cap') := HS3.out.ne HB2.out (by decide)
          have HR3 := Lib.hid (show Rd (w2.setCell ⟨rb, 2, none⟩ (.slice ad' (n + 1) cap')) rb s j (.slice ad' (n + 1) cap') from HB2.out.set 2 _)
          have HS4 := Lib.hid (HS3.out.set nb 2 (.slice ad' (n + 1) cap'))
          have HU4 := Lib.hid ((((HU.out.drew.trans (upd_of_fr (F' := [ra, ra + 1, ra + 1 + 1, rb] ++ own v) HF2.out (by simp))).alloc (.cells #[.int .i64 kind, .int .i64 at2, .int .i64 m, .string t] 84)).trans (HU3.out.weaken (F := [ra, ra + 1, ra + 1 + 1, rb] ++ own v) (F' := [ra, ra + 1, ra + 1 + 1, rb] ++ own (.slice ad' (n + 1) cap')) (fun q hq => List.mem_append_right _ hq) (fun q hq => (List.mem_append.1 hq).elim (fun h => .inl (List.mem_append_left _ h)) .inr))).set (b := rb) (by simp) 2 (.slice ad' (n + 1) cap'))
          have HL4 : Hid (Blk (w2.setCell ⟨rb, 2, none⟩ (.slice ad' (n + 1) cap')) ra [.slice none 0 0] 115 ∧ Blk (w2.setCell ⟨rb, 2, none⟩ (.slice ad' (n + 1) cap')) (ra + 1) [.int .i64 0] 26 ∧ Blk (w2.setCell ⟨rb, 2, none⟩ (.slice ad' (n + 1) cap')) (ra + 1 + 1) [.int .i64 0] 3) := Lib.hid (by
            obtain ⟨l1, l2, l3⟩ := HL.out
            have d1 := HS.out.ne l1 (by decide)
            have d2 := HS.out.ne l2 (by decide)
            have d3 := HS.out.ne l3 (by decide)
            have e := HRB.out
            exact ⟨(HU3.out.fr.keep ((HF2.out.keep l1.drew (by simp; omega)).alloc _) d1).other (by omega) _ _, (HU3.out.fr.keep ((HF2.out.keep l2.drew (by simp; omega)).alloc _) d2).other (by omega) _ _, (HU3.out.fr.keep ((HF2.out.keep l3.drew (by simp; omega)).alloc _) d3).other (by omega) _ _⟩)
          have HN : Hid (∃ (k1 a1 n1 : Int) (t1 : ByteArray), LexI s.data.toList j (n + 1) k1 a1 n1 t1.data.toList ∧ (xs ++ [Value.int .i64 kind, Value.int .i64 at2, Value.int .i64 m, Value.string t]).take 4 = [Value.int .i64 k1, .int .i64 a1, .int .i64 n1, .string t1]) := Lib.hid (by
            have h1 := HI.out.one HONE.out (by rw [size_toList]; exact hlt)
            have hl := HS.out.1
            by_cases hn0 : n = 0
            · have hx : xs = [] := List.eq_nil_of_length_eq_zero (by rw [hl, hn0])
              refine ⟨kind, at2, m, t, by rw [hn0]; exact h1.1 hn0, by rw [hx]; rfl⟩
            · refine ⟨k0, a0, n0, t0, h1.2 (by omega), ?_⟩
              rw [List.take_append_of_le_length (by rw [hl]; omega)]
              exact HX.out (by omega))
          have hj1 := HONE.out.lt
          have hj2 := HONE.out.ub
          rw [size_toList] at hj2
          have HGp := Lib.hid (lx_gap rb s j (.slice ad' (n + 1) cap') _ HR3.out hs hj2)
          clear nb HS2 HR2 HB2 HS3 HU3 HF2 HONE cb2 fb2
          go_wp2_with (fail)
          refine HGp.out.mono ?_
          rintro e w3 (⟨i, rfl, hG, hR, hF⟩ | ⟨i, he, hG, hF⟩)
          · have HR5 := Lib.hid hR
            have HG := Lib.hid hG
            have hF5 := Lib.hid hF
            clear hG hR hF
            go_wp2_with (fail)
            go_roundw
            case rel =>
              obtain ⟨k1, a1, n1, t1, hi1, hx1⟩ := HN.out
              obtain ⟨l1, l2, l3⟩ := HL4.out
              have e := HRB.out
              refine ⟨i, n + 1, .slice ad' (n + 1) cap', _, k1, a1, n1, t1, by have := HG.out.ub; rw [size_toList] at this; exact this, by have := HG.out.le; omega, hi1.gap HG.out, fun _ => hx1, (fun u hu => (List.mem_append.1 hu).elim (HO1.out u) (tok_one _ _ _ _ u)), HR5.out, sl_fr HS4.out hF5.out (fun q hq hm => by simp at hm; subst hm; exact (HS4.out.ne HR3.out (by decide)) hq), ⟨hF5.out.keep l1 (by simp; omega), hF5.out.keep l2 (by simp; omega), hF5.out.keep l3 (by simp; omega)⟩, HU4.out.trans (upd_of_fr hF5.out (by simp))⟩
            case measure =>
              have := HG.out.le
              rw [posR_eq HR5.out, posR_eq HR.out]
              omega
          · unfold flt at he
            subst he
            go_wp2_with (fail)
            obtain ⟨k1, a1, n1, t1, hi1, hx1⟩ := HN.out
            obtain ⟨l1, l2, l3⟩ := HL4.out
            have e := HRB.out
            refine lex_door rfl rfl rfl (hF.keep l1 (by simp; omega)) (hF.keep l2 (by simp; omega)) (hF.keep l3 (by simp; omega)) (fun w' hF2 => LexR.bad _ _ (hi1.gapF ⟨hG.1, fun h => absurd h hG.2⟩) ?_)
            exact ((HU4.out.trans (upd_of_fr hF (by simp))).trans (upd_of_fr hF2 (by simp))).fr.below (Nat.le_refl _) (by simp)
        · skip
          go_simp
          refine Calls.mono HO.out ?_
          rintro e wq (⟨j, kind, at2, m, t, hone, rfl, hR2, hF2⟩ | ⟨er, at2, he, hO, hF2⟩)
          rotate_left
          · unfold flt at he
            subst he
            refine orP_panic ?_
            exact ⟨_, _, rfl, hO, hF2, rfl⟩
          have cb1 := hR2.cell
          have fb1 := hR2.free
          have HR2 := Lib.hid hR2
          have HONE := Lib.hid hone
          have HF2 := Lib.hid hF2
          have HS2 := Lib.hid (sl_fr HS.out.drew hF2 (by intro q hq hm; simp at hm; subst hm; exact HBV.out hq))
          clear hR2 hone hF2
          refine hK _ _ ?_
          clear hK K
          refine wpAny_ready (rs := [4, 7]) (by kernel_rfl) (by simp) ?_
          refine AllReady.cons rfl (fun K hK => ?_) (AllReady.cons rfl (fun K hK => ?_) AllReady.nil)
          · skip
            go_simp
            refine hK _ _ ?_
            clear hK K
            refine wpAny_ready (rs := [7]) (by kernel_rfl) (by simp) ?_
            refine AllReady.cons rfl (fun K hK => ?_) AllReady.nil
            go_simp
            refine hK _ _ ?_
            clear hK K
            refine wpAny_ready (rs := [8]) (by kernel_rfl) (by simp) ?_
            refine AllReady.cons rfl (fun K hK => ?_) AllReady.nil
            refine step_app rfl (.tmp 28) (.tmp 31) 115 rfl 84 j0 (.agg #[.int .i64 0, .int .i64 0, .int .i64 0, .string ⟨#[]⟩]) 4 40 ulTok hj hy0 hy1 hy2 rfl v n xs rfl (by exact HS2.out.alloc _) ⟨wq.heap.size, 0, none⟩ 1 1 [.int .i64 kind, .int .i64 at2, .int .i64 m, .string t] rfl rfl (by exact cell_newL (by simp)) (tok_one _ _ _ _) (by unfold maxLen; omega) (by omega) ?_
            intro ad' cap' w2 hs2 hU2
            have hb2 := hU2.fr.keep (HR2.out.alloc _) HBV.out
            have cb2 := hb2.cell
            have fb2 := hb2.free
            have HB2 := Lib.hid hb2
            have HS3 := Lib.hid hs2
            have HU3 := Lib.hid hU2
            clear hb2 hs2 hU2
            refine hK _ _ ?_
            clear hK K
            refine wpAny_take (i := 9) (v := ?_) rfl (by kernel_rfl) (by kernel_rfl) (by kernel_rfl) (fun _ _ _ h => h) (Or.inl ⟨by rfl, ?_⟩) ?_
            rotate_left
            · intro w
              go_simp
              try with_reducible rfl
            refine wpAny_take (i := 10) (v := ?_) rfl (by kernel_rfl) (by kernel_rfl) (by kernel_rfl) (fun _ _ _ h => h) (Or.inl ⟨by rfl, ?_⟩) ?_
            rotate_left
            · intro w
              go_simp
              try with_reducible rfl
            refine wpAny_ready (rs := [11]) (by kernel_rfl) (by simp) ?_
            refine AllReady.cons rfl (fun K hK => ?_) AllReady.nil
            go_simp
            refine hK _ _ ?_
            clear hK K
            refine wpAny_done (by kernel_rfl) ?_ _
            refine orP_normal ?_
            have nb : rb ∉ own (.slice ad' (n + 1) cap') := HS3.out.ne HB2.out (by decide)
            have HR3 := Lib.hid (show Rd (w2.setCell ⟨rb, 2, none⟩ (.slice ad' (n + 1) cap')) rb s j (.slice ad' (n + 1) cap') from HB2.out.set 2 _)
            have HS4 := Lib.hid (HS3.out.set nb 2 (.slice ad' (n + 1) cap'))
            have HU4 := Lib.hid ((((HU.out.drew.trans (upd_of_fr (F' := [ra, ra + 1, ra + 1 + 1, rb] ++ own v) HF2.out (by simp))).alloc (.cells #[.int .i64 kind, .int .i64 at2, .int .i64 m, .string t] 84)).trans (HU3.out.weaken (F := [ra, ra + 1, ra + 1 + 1, rb] ++ own v) (F' := [ra, ra + 1, ra + 1 + 1, rb] ++ own (.slice ad' (n + 1) cap')) (fun q hq => List.mem_append_right _ hq) (fun q hq => (List.mem_append.1 hq).elim (fun h => .inl (List.mem_append_left _ h)) .inr))).set (b := rb) (by simp) 2 (.slice ad' (n + 1) cap'))
            have HL4 : Hid (Blk (w2.setCell ⟨rb, 2, none⟩ (.slice ad' (n + 1) cap')) ra [.slice none 0 0] 115 ∧ Blk (w2.setCell ⟨rb, 2, none⟩ (.slice ad' (n + 1) cap')) (ra + 1) [.int .i64 0] 26 ∧ Blk (w2.setCell ⟨rb, 2, none⟩ (.slice ad' (n + 1) cap')) (ra + 1 + 1) [.int .i64 0] 3) := Lib.hid (by
              obtain ⟨l1, l2, l3⟩ := HL.out
              have d1 := HS.out.ne l1 (by decide)
              have d2 := HS.out.ne l2 (by decide)
              have d3 := HS.out.ne l3 (by decide)
              have e := HRB.out
              exact ⟨(HU3.out.fr.keep ((HF2.out.keep l1.drew (by simp; omega)).alloc _) d1).other (by omega) _ _, (HU3.out.fr.keep ((HF2.out.keep l2.drew (by simp; omega)).alloc _) d2).other (by omega) _ _, (HU3.out.fr.keep ((HF2.out.keep l3.drew (by simp; omega)).alloc _) d3).other (by omega) _ _⟩)
            have HN : Hid (∃ (k1 a1 n1 : Int) (t1 : ByteArray), LexI s.data.toList j (n + 1) k1 a1 n1 t1.data.toList ∧ (xs ++ [Value.int .i64 kind, Value.int .i64 at2, Value.int .i64 m, Value.string t]).take 4 = [Value.int .i64 k1, .int .i64 a1, .int .i64 n1, .string t1]) := Lib.hid (by
              have h1 := HI.out.one HONE.out (by rw [size_toList]; exact hlt)
              have hl := HS.out.1
              by_cases hn0 : n = 0
              · have hx : xs = [] := List.eq_nil_of_length_eq_zero (by rw [hl, hn0])
                refine ⟨kind, at2, m, t, by rw [hn0]; exact h1.1 hn0, by rw [hx]; rfl⟩
              · refine ⟨k0, a0, n0, t0, h1.2 (by omega), ?_⟩
                rw [List.take_append_of_le_length (by rw [hl]; omega)]
                exact HX.out (by omega))
            have hj1 := HONE.out.lt
            have hj2 := HONE.out.ub
            rw [size_toList] at hj2
            have HGp := Lib.hid (lx_gap rb s j (.slice ad' (n + 1) cap') _ HR3.out hs hj2)
            clear nb HS2 HR2 HB2 HS3 HU3 HF2 HONE cb2 fb2
            go_wp2_with (fail)
            refine HGp.out.mono ?_
            rintro e w3 (⟨i, rfl, hG, hR, hF⟩ | ⟨i, he, hG, hF⟩)
            · have HR5 := Lib.hid hR
              have HG := Lib.hid hG
              have hF5 := Lib.hid hF
              clear hG hR hF
              go_wp2_with (fail)
              go_roundw
              case rel =>
                obtain ⟨k1, a1, n1, t1, hi1, hx1⟩ := HN.out
                obtain ⟨l1, l2, l3⟩ := HL4.out
                have e := HRB.out
                refine ⟨i, n + 1, .slice ad' (n + 1) cap', _, k1, a1, n1, t1, by have := HG.out.ub; rw [size_toList] at this; exact this, by have := HG.out.le; omega, hi1.gap HG.out, fun _ => hx1, (fun u hu => (List.mem_append.1 hu).elim (HO1.out u) (tok_one _ _ _ _ u)), HR5.out, sl_fr HS4.out hF5.out (fun q hq hm => by simp at hm; subst hm; exact (HS4.out.ne HR3.out (by decide)) hq), ⟨hF5.out.keep l1 (by simp; omega), hF5.out.keep l2 (by simp; omega), hF5.out.keep l3 (by simp; omega)⟩, HU4.out.trans (upd_of_fr hF5.out (by simp))⟩
              case measure =>
                have := HG.out.le
                rw [posR_eq HR5.out, posR_eq HR.out]
                omega
            · unfold flt at he
              subst he
              go_wp2_with (fail)
              obtain ⟨k1, a1, n1, t1, hi1, hx1⟩ := HN.out
              obtain ⟨l1, l2, l3⟩ := HL4.out
              have e := HRB.out
              refine lex_door rfl rfl rfl (hF.keep l1 (by simp; omega)) (hF.keep l2 (by simp; omega)) (hF.keep l3 (by simp; omega)) (fun w' hF2 => LexR.bad _ _ (hi1.gapF ⟨hG.1, fun h => absurd h hG.2⟩) ?_)
              exact ((HU4.out.trans (upd_of_fr hF (by simp))).trans (upd_of_fr hF2 (by simp))).fr.below (Nat.le_refl _) (by simp)
          · skip
            go_simp
            refine hK _ _ ?_
            clear hK K
            have ck := (HR2.out.alloc (.cells #[.int .i64 kind, .int .i64 at2, .int .i64 m, .string t] 84)).cell
            refine wpAny_ready (rs := [4]) (by kernel_rfl) (by simp) ?_
            refine AllReady.cons rfl (fun K hK => ?_) AllReady.nil
            go_simp
            refine hK _ _ ?_
            clear hK K
            clear ck
            refine wpAny_ready (rs := [8]) (by kernel_rfl) (by simp) ?_
            refine AllReady.cons rfl (fun K hK => ?_) AllReady.nil
            refine step_app rfl (.tmp 28) (.tmp 31) 115 rfl 84 j0 (.agg #[.int .i64 0, .int .i64 0, .int .i64 0, .string ⟨#[]⟩]) 4 40 ulTok hj hy0 hy1 hy2 rfl v n xs rfl (by exact HS2.out.alloc _) ⟨wq.heap.size, 0, none⟩ 1 1 [.int .i64 kind, .int .i64 at2, .int .i64 m, .string t] rfl rfl (by exact cell_newL (by simp)) (tok_one _ _ _ _) (by unfold maxLen; omega) (by omega) ?_
            intro ad' cap' w2 hs2 hU2
            have hb2 := hU2.fr.keep (HR2.out.alloc _) HBV.out
            have cb2 := hb2.cell
            have fb2 := hb2.free
            have HB2 := Lib.hid hb2
            have HS3 := Lib.hid hs2
            have HU3 := Lib.hid hU2
            clear hb2 hs2 hU2
            refine hK _ _ ?_
            clear hK K
            refine wpAny_take (i := 9) (v := ?_) rfl (by kernel_rfl) (by kernel_rfl) (by kernel_rfl) (fun _ _ _ h => h) (Or.inl ⟨by rfl, ?_⟩) ?_
            rotate_left
            · intro w
              go_simp
              try with_reducible rfl
            refine wpAny_take (i := 10) (v := ?_) rfl (by kernel_rfl) (by kernel_rfl) (by kernel_rfl) (fun _ _ _ h => h) (Or.inl ⟨by rfl, ?_⟩) ?_
            rotate_left
            · intro w
              go_simp
              try with_reducible rfl
            refine wpAny_ready (rs := [11]) (by kernel_rfl) (by simp) ?_
            refine AllReady.cons rfl (fun K hK => ?_) AllReady.nil
            go_simp
            refine hK _ _ ?_
            clear hK K
            refine wpAny_done (by kernel_rfl) ?_ _
            refine orP_normal ?_
            have nb : rb ∉ own (.slice ad' (n + 1) cap') := HS3.out.ne HB2.out (by decide)
            have HR3 := Lib.hid (show Rd (w2.setCell ⟨rb, 2, none⟩ (.slice ad' (n + 1) cap')) rb s j (.slice ad' (n + 1) cap') from HB2.out.set 2 _)
            have HS4 := Lib.hid (HS3.out.set nb 2 (.slice ad' (n + 1) cap'))
            have HU4 := Lib.hid ((((HU.out.drew.trans (upd_of_fr (F' := [ra, ra + 1, ra + 1 + 1, rb] ++ own v) HF2.out (by simp))).alloc (.cells #[.int .i64 kind, .int .i64 at2, .int .i64 m, .string t] 84)).trans (HU3.out.weaken (F := [ra, ra + 1, ra + 1 + 1, rb] ++ own v) (F' := [ra, ra + 1, ra + 1 + 1, rb] ++ own (.slice ad' (n + 1) cap')) (fun q hq => List.mem_append_right _ hq) (fun q hq => (List.mem_append.1 hq).elim (fun h => .inl (List.mem_append_left _ h)) .inr))).set (b := rb) (by simp) 2 (.slice ad' (n + 1) cap'))
            have HL4 : Hid (Blk (w2.setCell ⟨rb, 2, none⟩ (.slice ad' (n + 1) cap')) ra [.slice none 0 0] 115 ∧ Blk (w2.setCell ⟨rb, 2, none⟩ (.slice ad' (n + 1) cap')) (ra + 1) [.int .i64 0] 26 ∧ Blk (w2.setCell ⟨rb, 2, none⟩ (.slice ad' (n + 1) cap')) (ra + 1 + 1) [.int .i64 0] 3) := Lib.hid (by
              obtain ⟨l1, l2, l3⟩ := HL.out
              have d1 := HS.out.ne l1 (by decide)
              have d2 := HS.out.ne l2 (by decide)
              have d3 := HS.out.ne l3 (by decide)
              have e := HRB.out
              exact ⟨(HU3.out.fr.keep ((HF2.out.keep l1.drew (by simp; omega)).alloc _) d1).other (by omega) _ _, (HU3.out.fr.keep ((HF2.out.keep l2.drew (by simp; omega)).alloc _) d2).other (by omega) _ _, (HU3.out.fr.keep ((HF2.out.keep l3.drew (by simp; omega)).alloc _) d3).other (by omega) _ _⟩)
            have HN : Hid (∃ (k1 a1 n1 : Int) (t1 : ByteArray), LexI s.data.toList j (n + 1) k1 a1 n1 t1.data.toList ∧ (xs ++ [Value.int .i64 kind, Value.int .i64 at2, Value.int .i64 m, Value.string t]).take 4 = [Value.int .i64 k1, .int .i64 a1, .int .i64 n1, .string t1]) := Lib.hid (by
              have h1 := HI.out.one HONE.out (by rw [size_toList]; exact hlt)
              have hl := HS.out.1
              by_cases hn0 : n = 0
              · have hx : xs = [] := List.eq_nil_of_length_eq_zero (by rw [hl, hn0])
                refine ⟨kind, at2, m, t, by rw [hn0]; exact h1.1 hn0, by rw [hx]; rfl⟩
              · refine ⟨k0, a0, n0, t0, h1.2 (by omega), ?_⟩
                rw [List.take_append_of_le_length (by rw [hl]; omega)]
                exact HX.out (by omega))
            have hj1 := HONE.out.lt
            have hj2 := HONE.out.ub
            rw [size_toList] at hj2
            have HGp := Lib.hid (lx_gap rb s j (.slice ad' (n + 1) cap') _ HR3.out hs hj2)
            clear nb HS2 HR2 HB2 HS3 HU3 HF2 HONE cb2 fb2
            go_wp2_with (fail)
            refine HGp.out.mono ?_
            rintro e w3 (⟨i, rfl, hG, hR, hF⟩ | ⟨i, he, hG, hF⟩)
            · have HR5 := Lib.hid hR
              have HG := Lib.hid hG
              have hF5 := Lib.hid hF
              clear hG hR hF
              go_wp2_with (fail)
              go_roundw
              case rel =>
                obtain ⟨k1, a1, n1, t1, hi1, hx1⟩ := HN.out
                obtain ⟨l1, l2, l3⟩ := HL4.out
                have e := HRB.out
                refine ⟨i, n + 1, .slice ad' (n + 1) cap', _, k1, a1, n1, t1, by have := HG.out.ub; rw [size_toList] at this; exact this, by have := HG.out.le; omega, hi1.gap HG.out, fun _ => hx1, (fun u hu => (List.mem_append.1 hu).elim (HO1.out u) (tok_one _ _ _ _ u)), HR5.out, sl_fr HS4.out hF5.out (fun q hq hm => by simp at hm; subst hm; exact (HS4.out.ne HR3.out (by decide)) hq), ⟨hF5.out.keep l1 (by simp; omega), hF5.out.keep l2 (by simp; omega), hF5.out.keep l3 (by simp; omega)⟩, HU4.out.trans (upd_of_fr hF5.out (by simp))⟩
              case measure =>
                have := HG.out.le
                rw [posR_eq HR5.out, posR_eq HR.out]
                omega
            · unfold flt at he
              subst he
              go_wp2_with (fail)
              obtain ⟨k1, a1, n1, t1, hi1, hx1⟩ := HN.out
              obtain ⟨l1, l2, l3⟩ := HL4.out
              have e := HRB.out
              refine lex_door rfl rfl rfl (hF.keep l1 (by simp; omega)) (hF.keep l2 (by simp; omega)) (hF.keep l3 (by simp; omega)) (fun w' hF2 => LexR.bad _ _ (hi1.gapF ⟨hG.1, fun h => absurd h hG.2⟩) ?_)
              exact ((HU4.out.trans (upd_of_fr hF (by simp))).trans (upd_of_fr hF2 (by simp))).fr.below (Nat.le_refl _) (by simp)
      · have hlt' : ¬ (p : Int) < (s.size : Int) := by omega
        have hpe : p = s.size := by omega
        have HPE := Lib.hid hpe
        have HCl := Lib.hid (tok_Clone HS.out HO1.out (by omega))
        clear hpe
        go_wp2_with (fail)
        refine HCl.out.mono ?_
        rintro e w3 ⟨v3, rfl, hS3, hU3⟩
        have HS3 := Lib.hid hS3
        have HU3 := Lib.hid hU3
        obtain ⟨l1, l2, l3⟩ := HL.out
        have HL1 := Lib.hid (hU3.fr.keep l1 (by simp))
        have HL2 := Lib.hid (hU3.fr.keep l2 (by simp))
        have HL3 := Lib.hid (hU3.fr.keep l3 (by simp))
        clear hS3 hU3 l1 l2 l3 cb fb
        go_wp2_with (at_builtin; go_loud (refine wpList_app _ rfl (.tmp 39) (.tmp 43) 115 rfl 84 j0 (.agg #[.int .i64 0, .int .i64 0, .int .i64 0, .string ⟨#[]⟩]) 4 40 ulTok hj hy0 hy1 hy2 rfl v3 n xs rfl ?hown _ 1 1 [.int .i64 0, .int .i64 s.size, .int .i64 0, .string ⟨#[]⟩] rfl rfl (by exact cell_newL (by simp)) (tok_one _ _ _ _) (by unfold maxLen; omega) (by omega) ?go))
        case hown => exact HS3.out.alloc _
        case go =>
          intro ad' cap' w4 hs4 hU4
          have hb1 := hU4.fr.keep (HL1.out.alloc _) (HS3.out.ne HL1.out (by decide))
          have hb2 := hU4.fr.keep (HL2.out.alloc _) (HS3.out.ne HL2.out (by decide))
          have hb3 := hU4.fr.keep (HL3.out.alloc _) (HS3.out.ne HL3.out (by decide))
          have c1 := hb1.cell
          have f1 := hb1.free
          have c2 := hb2.cell
          have f2 := hb2.free
          have c3 := hb3.cell
          have f3 := hb3.free
          have HS4 := Lib.hid hs4
          have HU4 := Lib.hid hU4
          have HB1 := Lib.hid hb1
          have HB2 := Lib.hid hb2
          have HB3 := Lib.hid hb3
          clear hs4 hU4 hb1 hb2 hb3
          go_wp2_with (fail)
          refine lex_out rfl rfl rfl (((HB1.out.set 0 _).other (by omega) _ _).other (by omega) _ _) (((HB2.out.other (by omega) _ _).set 0 _).other (by omega) _ _) (((HB3.out.other (by omega) _ _).other (by omega) _ _).set 0 _) (fun w' hB => ?_)
          have n1 := HS4.out.ne HB1.out (by decide)
          have n2 := HS4.out.ne HB2.out (by decide)
          have n3 := HS4.out.ne HB3.out (by decide)
          have hS5 := (((HS4.out.set n1 0 (.slice ad' (n + 1) cap')).set n2 0 (.int .i64 0)).set n3 0 (.int .i64 0))
          have hS6 := sl_fr hS5 (fr_of_below (F := []) hB) (by simp)
          have hI := HI.out
          rw [HPE.out, ← size_toList] at hI
          have hlen : s.data.toList.length ≤ 4096 := by rw [size_toList]; exact hs
          have hU5 : Upd [] [ra, ra + 1, ra + 1 + 1, rb] w wr := HU.out.sub (fun q hq => .inl (List.mem_append_left _ hq))
          have hU6 := ((hU5.trans (upd_of_fr HU3.out.fr (F' := [ra, ra + 1, ra + 1 + 1, rb]) (by simp))).alloc (.cells #[.int .i64 0, .int .i64 s.size, .int .i64 0, .string ⟨#[]⟩] 84))
          have hFr : Below w.heap.size w w' := by
            have k1 : Below w.heap.size w w3 := (HU.out.fr.then (Fr.then (F := []) ⟨HU3.out.fr.os, HU3.out.fr.tape, HU3.out.fr.output, HU3.out.fr.size, HU3.out.fr.block⟩ (Fr.refl _ _))).below (Nat.le_refl _) (by simp)
            have hown3 : ∀ q ∈ own v3, w.heap.size ≤ q := fun q hq => by
              rcases HU3.out.new q hq with h | h
              · cases h
              · exact Nat.le_trans HU.out.fr.size h
            have k2 : Below w.heap.size w3 w4 := (((Upd.refl (own v3) w3).alloc (.cells #[.int .i64 0, .int .i64 s.size, .int .i64 0, .string ⟨#[]⟩] 84)).trans HU4.out).fr.below k1.size hown3
            have hra : w.heap.size ≤ ra := by rw [HRA.out]; exact Nat.le_refl _
            have k3 := (((k1.trans k2).setCell (p := ⟨ra, 0, none⟩) hra (.slice ad' (n + 1) cap')).setCell (p := ⟨ra + 1, 0, none⟩) (Nat.le_succ_of_le hra) (.int .i64 0)).setCell (p := ⟨ra + 1 + 1, 0, none⟩) (Nat.le_succ_of_le (Nat.le_succ_of_le hra)) (.int .i64 0)
            exact k3.trans (hB.mono k3.size)
          by_cases hn0 : n = 0
          · have hx : xs = [] := List.eq_nil_of_length_eq_zero (by rw [HS.out.1, hn0])
            refine ⟨_, 0, 0, n + 1, _, 0, s.size, 0, ⟨#[]⟩, rfl, hS6, fun _ => by rw [hx]; rfl, LexI.done ?_ hlen, hFr⟩
            exact ⟨hI.1, fun h => by omega⟩
          · refine ⟨_, 0, 0, n + 1, _, k0, a0, n0, t0, rfl, hS6, fun _ => ?_, LexI.done hI hlen, hFr⟩
            rw [List.take_append_of_le_length (by rw [HS.out.1]; omega)]
            exact HX.out (by omega)
  · unfold flt at he
    subst he
    go_wp2_with (fail)
    refine lex_door rfl rfl rfl (hF.keep H1.out (by have := HRB.out; simp; omega)) (hF.keep H2.out (by have := HRB.out; simp; omega)) (hF.keep H3.out (by have := HRB.out; simp; omega)) (fun w' hF2 => LexR.bad _ _ (gapF_start hG) ?_)
    exact ((HU.out.trans (upd_of_fr (F' := [ra, ra + 1, ra + 1 + 1, rb]) hF (by simp))).trans (upd_of_fr hF2 (by simp))).fr.below (Nat.le_refl _) (by simp)

end Go.Proofs.YtnmpckdggddpoaaGreatDoor
