/- The reference's Parse of a script. A region whose last operation writes what its loads read: the loads are taken first all the same, as the last one waits for each of them. The law's small calls: own, Same. The law's small calls: Same of two scripts that are alike; the reference's Parse, whole. The law ScriptParses. -/
import Derived.Test.YtnmpckdggddpoaaGreatDoorGC
import Derived.Deep.CutBlock
import Derived.Deep.DeepCutAuto
import Derived.OrdersHeld
import Derived.Test.YtnmpckdggddpoaaGreatDoorTg
import Derived.BigQuiet
import Derived.Deep.RegionLaw
import Derived.Deep.RegionHeld3
import Derived.StillTailTactics
import Derived.Test.YtnmpckdggddpoaaGreatDoorSz
namespace Go.Proofs.YtnmpckdggddpoaaGreatDoor
set_option linter.unusedSimpArgs false
set_option linter.unusedVariables false
open Go.RowKit Go.Shelf Go.Lib

theorem ulActR : Tryz.prog.underlying 29 = some (.slice 79) := by kernel_rfl
theorem infoActR : (Tryz.prog.info? 79).map (fun i => (i.zero, i.size, i.bytes)) = some (some (.agg #[.int .i64 0, .int .i64 0, .string ⟨#[]⟩]), 3, 32) := by kernel_rfl
theorem ret_rs {fn : Func} {p q r : Tmp} (h : fn.results = #[.cell p 31, .tmp q, .tmp r]) {tmps : Array Value} {r0 : Nat} {x y z : Value} (hp : tmps.getD p undef = .pointer (some ⟨r0, 0, none⟩)) {w : World} (hb : Blk w r0 [x, y, z] 31) :
    (results fn tmps).run Tryz.prog w = .ok (.tuple #[.agg #[x, y, z], tmps.getD q undef, tmps.getD r undef]) w := by
  have c0 := hb.cell 0
  have c1 := hb.cell 1
  have c2 := hb.cell 2
  simp only [List.getElem?_cons_zero, List.getElem?_cons_succ] at c0 c1 c2
  have hp' : tmps[p]?.getD undef = .pointer (some ⟨r0, 0, none⟩) := by simpa using hp
  simp [results, h, go_sem, hp', c0, c1, c2]

def RPar (w : World) (res : (Nat × Nat) ⊕ Sp) (e : Ending) (w' : World) : Prop :=
  (match res with
   | .inl (er, k) => e = .returned (.tuple #[.agg #[.int .i64 0, .int .i64 0, .slice none 0 0], .int .i64 (er : Nat), .int .i64 (k : Nat)])
   | .inr p => ∃ v, e = .returned (.tuple #[.agg #[.int .i64 (p.cells : Nat), .int .i64 (p.stack : Nat), v], .int .i64 0, .int .i64 0]) ∧ Sl w' v 79 3 p.l.length (acts p.l) ∧ ∀ k ∈ own v, w.heap.size ≤ k) ∧ Below w.heap.size w w'

/-- How it stands between two lines: the blocks. -/
structure OutB (w : World) (r0 r1 ro sb : Nat) (lsv : Value) (T : List (List UInt8)) (wr : World) (pc ps : Nat) (b1 b2 : Bool) (lv : Value) : Prop where
  res : Blk wr r0 [.int .i64 0, .int .i64 0, .slice none 0 0] 31
  non : Blk wr r1 [.int .i64 0, .int .i64 0, .slice none 0 0] 31
  out : Blk wr ro [.int .i64 (pc : Nat), .int .i64 (ps : Nat), lv] 31
  sn : Blk wr sb [.bool b1, .bool b2] 4
  ls : Sl wr lsv 9 1 T.length (strB T)
  bel : Below w.heap.size w wr
  h0 : w.heap.size ≤ r0
  h2 : w.heap.size ≤ ro
  h3 : w.heap.size ≤ sb
  n1 : r0 ≠ r1
  n2 : r0 ≠ ro
  n3 : r1 ≠ ro
  n4 : ro ≠ sb
  n5 : r0 ≠ sb
  n6 : r1 ≠ sb
structure OutI (w : World) (r0 r1 ro sb : Nat) (lsv : Value) (T : List (List UInt8)) (wr : World) (pc ps : Nat) (pl : List Ac) (b1 b2 : Bool) (lv : Value) : Prop where
  b : OutB w r0 r1 ro sb lsv T wr pc ps b1 b2 lv
  al : Sl wr lv 79 3 pl.length (acts pl)
  hl : ∀ q ∈ own lv, w.heap.size ≤ q

section
variable {w : World} {r0 r1 ro sb : Nat} {lsv : Value} {T : List (List UInt8)} {wr wr' : World} {pc ps : Nat} {pl : List Ac} {b1 b2 : Bool} {lv : Value}
theorem sl_apart {W : World} {v v' : Value} {e e' : TypeId} {s s' n n' : Nat} {xs xs' : List Value} (h : Sl W v e s n xs) (h' : Sl W v' e' s' n' xs') (he : e ≠ e') : ∀ q ∈ own v, q ∉ own v' := by
  intro q hq hq'
  rcases h.2 with ⟨rfl, _⟩ | ⟨g, off, cap, cur, rfl, hg, _⟩
  · simp [own, Value.ownBlock] at hq
  · rcases h'.2 with ⟨rfl, _⟩ | ⟨g', off', cap', cur', rfl, hg', _⟩
    · simp [own, Value.ownBlock] at hq'
    · simp [own, Value.ownBlock] at hq hq'
      subst hq
      subst hq'
      rw [hg] at hg'
      injection hg' with h1
      injection h1 with _ h2
      exact he h2
theorem OutB.fr (h : OutB w r0 r1 ro sb lsv T wr pc ps b1 b2 lv) {F : List Nat} (hf : Fr F wr wr') (k0 : r0 ∉ F) (k1 : r1 ∉ F) (k2 : ro ∉ F) (k3 : sb ∉ F) (k4 : ∀ q ∈ own lsv, q ∉ F) (hF : ∀ q ∈ F, w.heap.size ≤ q) : OutB w r0 r1 ro sb lsv T wr' pc ps b1 b2 lv :=
  ⟨hf.keep h.res k0, hf.keep h.non k1, hf.keep h.out k2, hf.keep h.sn k3, sl_fr h.ls hf k4, h.bel.trans (hf.below h.bel.size hF), h.h0, h.h2, h.h3, h.n1, h.n2, h.n3, h.n4, h.n5, h.n6⟩
theorem OutI.below (h : OutI w r0 r1 ro sb lsv T wr pc ps pl b1 b2 lv) (hf : Below wr.heap.size wr wr') : OutI w r0 r1 ro sb lsv T wr' pc ps pl b1 b2 lv :=
  ⟨h.b.fr (fr_of_below (F := []) hf) (by simp) (by simp) (by simp) (by simp) (by simp) (by simp), sl_fr h.al (fr_of_below (F := []) hf) (by simp), h.hl⟩
theorem OutI.grown (h : OutI w r0 r1 ro sb lsv T wr pc ps pl b1 b2 lv) {F' : List Nat} {o : Obj} (hu : Upd (own lv) F' (wr.alloc o) wr') : OutB w r0 r1 ro sb lsv T wr' pc ps b1 b2 lv ∧ (∀ q ∈ F', w.heap.size ≤ q) := by
  have h1 := h.below ((Below.refl _ wr).alloc (Nat.le_refl _) o)
  refine ⟨h1.b.fr hu.fr (h1.al.ne h1.b.res (by decide)) (h1.al.ne h1.b.non (by decide)) (h1.al.ne h1.b.out (by decide)) (h1.al.ne h1.b.sn (by decide)) (sl_apart h1.b.ls h1.al (by decide)) h.hl, fun q hq => ?_⟩
  rcases hu.new q hq with h2 | h2
  · exact h.hl q h2
  · exact Nat.le_trans h1.b.bel.size h2
theorem OutB.stored (h : OutB w r0 r1 ro sb lsv T wr pc ps b1 b2 lv) {v' : Value} {pl' : List Ac} (hs : Sl wr v' 79 3 pl'.length (acts pl')) (hn : ∀ q ∈ own v', w.heap.size ≤ q) : OutI w r0 r1 ro sb lsv T (wr.setCell ⟨ro, 2, none⟩ v') pc ps pl' b1 b2 v' :=
  ⟨⟨h.res.other h.n2 _ _, h.non.other h.n3 _ _, h.out.set 2 _, h.sn.other (Ne.symm h.n4) _ _, h.ls.set (h.ls.ne h.out (by decide)) _ _, h.bel.setCell h.h2 _, h.h0, h.h2, h.h3, h.n1, h.n2, h.n3, h.n4, h.n5, h.n6⟩, hs.set (hs.ne h.out (by decide)) _ _, hn⟩
theorem OutI.flag1 (h : OutI w r0 r1 ro sb lsv T wr pc ps pl b1 b2 lv) (n : Nat) : OutI w r0 r1 ro sb lsv T ((wr.setCell ⟨sb, 0, none⟩ (.bool true)).setCell ⟨ro, 0, none⟩ (.int .i64 (n : Nat))) n ps pl true b2 lv :=
  ⟨⟨(h.b.res.other h.b.n5 _ _).other h.b.n2 _ _, (h.b.non.other h.b.n6 _ _).other h.b.n3 _ _, (h.b.out.other h.b.n4 _ _).set 0 _, (h.b.sn.set 0 _).other (Ne.symm h.b.n4) _ _, (h.b.ls.set (h.b.ls.ne h.b.sn (by decide)) _ _).set (h.b.ls.ne h.b.out (by decide)) _ _, (h.b.bel.setCell h.b.h3 _).setCell h.b.h2 _, h.b.h0, h.b.h2, h.b.h3, h.b.n1, h.b.n2, h.b.n3, h.b.n4, h.b.n5, h.b.n6⟩, (h.al.set (h.al.ne h.b.sn (by decide)) _ _).set (h.al.ne h.b.out (by decide)) _ _, h.hl⟩
theorem OutI.flag2 (h : OutI w r0 r1 ro sb lsv T wr pc ps pl b1 b2 lv) (n : Nat) : OutI w r0 r1 ro sb lsv T ((wr.setCell ⟨sb, 1, none⟩ (.bool true)).setCell ⟨ro, 1, none⟩ (.int .i64 (n : Nat))) pc n pl b1 true lv :=
  ⟨⟨(h.b.res.other h.b.n5 _ _).other h.b.n2 _ _, (h.b.non.other h.b.n6 _ _).other h.b.n3 _ _, (h.b.out.other h.b.n4 _ _).set 1 _, (h.b.sn.set 1 _).other (Ne.symm h.b.n4) _ _, (h.b.ls.set (h.b.ls.ne h.b.sn (by decide)) _ _).set (h.b.ls.ne h.b.out (by decide)) _ _, (h.b.bel.setCell h.b.h3 _).setCell h.b.h2 _, h.b.h0, h.b.h2, h.b.h3, h.b.n1, h.b.n2, h.b.n3, h.b.n4, h.b.n5, h.b.n6⟩, (h.al.set (h.al.ne h.b.sn (by decide)) _ _).set (h.al.ne h.b.out (by decide)) _ _, h.hl⟩
theorem rpar_bad {j : Nat} {X : List UInt8} {p : Sp} {er : Nat} (hg : goS spNew 1 (T.take j) = .inr p) (hx : T[j]? = some X) (hs : stepS p X = .inl er) (hb : Below w.heap.size w wr) : RPar w (goS spNew 1 T) (.returned (.tuple #[.agg #[.int .i64 0, .int .i64 0, .slice none 0 0], .int .i64 (er : Nat), .int .i64 ((j : Int) + 1)])) wr := by
  rw [goS_bad hg hx hs]
  exact ⟨by simp, hb⟩
theorem rpar_go {j : Nat} {X : List UInt8} {p q : Sp} (hg : goS spNew 1 (T.take j) = .inr p) (hx : T[j]? = some X) (hs : stepS p X = .inr q) : Hid (goS spNew 1 (T.take (j + 1)) = .inr q) := Lib.hid (by rw [goS_end hg hx, hs])
end

def ParseCut (x : ByteArray) (wy : World) (av bv : Value) (wx : World) : Prop := ∃ m a b, Hid (pickW x 4 = (a, b)) ∧ av = .string a ∧ bv = .string b ∧ wx = wy.drewN m

set_option maxRecDepth 100000 in
set_option maxHeartbeats 16000000 in
theorem ref_Parse_go (s : ByteArray) (w : World) (hs : s.size ≤ 65536) (hl : Hid ((linesG [] s.data.toList).length ≤ 1000)) :
    Calls Tryz.prog 10 #[.string s] w (RPar w (goS spNew 1 (linesG [] s.data.toList))) := by
  obtain ⟨i0, hi, hz0, hz1, hz2⟩ := info_parts infoActR
  have hgt : ¬ (65536 : Int) < (s.size : Int) := by omega
  have HLn := Lib.hid (fun w => ref_lines s w hs)
  obtain ⟨T, hT⟩ : ∃ T, Hid (linesG [] s.data.toList = T) := ⟨_, rfl⟩
  have hmem : Hid (∀ X ∈ T, X.length ≤ 65536) := Lib.hid (fun X hX => by
    rw [← hT.out] at hX
    have := linesG_mem _ _ _ hX
    rw [size_toList] at this
    simp at this
    omega)
  unfold LnR at HLn
  rw [hT.out] at HLn hl ⊢
  go_enter Tryz.func10, Tryz.ntmps10
  go_wp2_with (fail)
  refine (HLn.out _).mono ?_
  rintro e w2 ⟨lsv, rfl, hS, hB, hN⟩
  obtain ⟨adl, capl, hlv, hlc, hlm, _⟩ := hS.form
  have hTn := hl.out
  have hgt2 : ¬ (1000 : Int) < (T.length : Int) := by omega
  obtain ⟨r0, hr0⟩ : ∃ r0, Hid (r0 = w.heap.size) := ⟨_, rfl⟩
  have HSl := Lib.hid hS
  have HB := Lib.hid hB
  have HLV := Lib.hid hlv
  clear hS hB hN
  subst hlv
  obtain ⟨ro, hro⟩ : ∃ ro, Hid (ro = w2.heap.size) := ⟨_, rfl⟩
  have HI0 : Hid (OutI w r0 (r0 + 1) ro (ro + 1) (.slice adl T.length capl) T ((w2.alloc (.cells #[.int .i64 32768, .int .i64 8192, .slice none 0 0] 31)).alloc (.cells #[.bool false, .bool false] 4)) 32768 8192 [] false false (.slice none 0 0)) := Lib.hid (by
    have h1 := hr0.out
    have h2 := hro.out
    have hB := HB.out
    have hsz := hB.size
    simp at hsz
    have k1 : Blk ((w.alloc (.cells #[.int .i64 0, .int .i64 0, .slice none 0 0] 31)).alloc (.cells #[.int .i64 0, .int .i64 0, .slice none 0 0] 31)) r0 [.int .i64 0, .int .i64 0, .slice none 0 0] 31 := (Blk.new' (c := [_, _, _]) h1).alloc _
    have k2 : Blk ((w.alloc (.cells #[.int .i64 0, .int .i64 0, .slice none 0 0] 31)).alloc (.cells #[.int .i64 0, .int .i64 0, .slice none 0 0] 31)) (r0 + 1) [.int .i64 0, .int .i64 0, .slice none 0 0] 31 := Blk.new' (c := [_, _, _]) (by simp [h1])
    have b0 : Below w.heap.size w w2 := (((Below.refl _ w).alloc (Nat.le_refl _) _).alloc (by simp) _).trans (hB.mono (by simp; omega))
    exact ⟨⟨((blk_below k1 hB).alloc _).alloc _, ((blk_below k2 hB).alloc _).alloc _, (Blk.new' (c := [_, _, _]) h2).alloc _, Blk.new' (c := [_, _]) (by simp [h2]), (HSl.out.alloc _).alloc _, (b0.alloc b0.size _).alloc (by simp; omega) _, by omega, by omega, by omega, by omega, by omega, by omega, by omega, by omega, by omega⟩, Sl.nil _ _ _, by simp [own, Value.ownBlock]⟩)
  go_wp2_with (fail)
  rw [← hr0.out, ← hro.out]
  obtain ⟨w3, hw3⟩ : ∃ w3, w3 = ((w2.alloc (.cells #[.int .i64 32768, .int .i64 8192, .slice none 0 0] 31)).alloc (.cells #[.bool false, .bool false] 4)) := ⟨_, rfl⟩
  rw [← hw3] at HI0 ⊢
  clear hw3 HB HSl HLV HLn hgt hgt2
  go_loopw [9, 10, 11, 12, 13, 14, 15, 16, 17, 18, 19] (fun iv _ _ _ _ _ _ _ _ _ _ wr => ∃ (j pc ps : Nat) (pl : List Ac) (b1 b2 : Bool) (lv : Value), iv = .int .i64 j ∧ j ≤ T.length ∧ pl.length ≤ j ∧ Hid (goS spNew 1 (T.take j) = .inr ⟨pc, ps, pl, b1, b2⟩) ∧ OutI w r0 (r0 + 1) ro (ro + 1) (.slice adl T.length capl) T wr pc ps pl b1 b2 lv) (fun iv _ _ _ _ _ _ _ _ _ _ _ => T.length - (RowKit.intOf iv).toNat)
  case atStart => exact ⟨0, 32768, 8192, [], false, false, .slice none 0 0, rfl, by omega, by simp, rfl, HI0.out⟩
  case round =>
    obtain ⟨j, pc, ps, pl, b1, b2, lv, rfl, hj, hpj, HG, hI⟩ := hrel
    clear HI0
    have HI := Lib.hid hI
    have j0 : (0 : Int) ≤ (j : Int) := by omega
    rcases Nat.lt_or_ge j T.length with hlt | hge
    · have hlt' : (j : Int) < (T.length : Int) := by omega
      obtain ⟨X, hX⟩ : ∃ X, T[j]? = some X := ⟨_, List.getElem?_eq_getElem hlt⟩
      have HX := Lib.hid hX
      have hXl := hmem.out X (List.mem_of_getElem? hX)
      obtain ⟨x, hx⟩ : ∃ x : ByteArray, x = bs X := ⟨_, rfl⟩
      have hxX : Hid (x.data.toList = X) := Lib.hid (by rw [hx]; rfl)
      have hxz : x.size ≤ 65536 := by rw [hx, bs_size]; exact hXl
      obtain ⟨gl, offl, rfl⟩ : ∃ g off, adl = some ⟨g, off, none⟩ := by
        rcases HI.out.b.ls.2 with ⟨h, hn⟩ | ⟨g, off, cap2, cur, h, _⟩
        · omega
        · simp only [Value.slice.injEq] at h; exact ⟨g, off, h.1⟩
      have HCX : Hid (∀ W, Sl W (.slice (some ⟨gl, offl, none⟩) T.length capl) 9 1 T.length (strB T) → W.cell? ⟨gl, offl + j, none⟩ = some (.string x)) := Lib.hid (fun W hW => by
        obtain ⟨_, _, hf, _, _, _, hc⟩ := hW.form
        simp only [Value.slice.injEq] at hf
        have := (hc _ hf.1.symm).2 j (.string x) (by simp [strB, hX, hx])
        rw [add_at] at this
        exact this)
      have e1 : IntKind.i64.wrap ((j : Int) + 1) = (j : Int) + 1 := IntWalk.i64_in _ (by omega)
      clear hI hX hx
      go_upto_block 2 with fail
      obtain ⟨g, hg⟩ : ∃ g, Hid (g = wr.heap.size) := ⟨_, rfl⟩
      obtain ⟨wy, hwy⟩ : ∃ wy, wy = wr.alloc (.cells #[.string ⟨#[99, 101, 108, 108, 115]⟩, .string ⟨#[115, 116, 97, 99, 107]⟩, .string ⟨#[108, 105, 110, 101]⟩, .string ⟨#[114, 117, 110]⟩] 9) := ⟨_, rfl⟩
      have HIy : Hid (OutI w r0 (r0 + 1) ro (ro + 1) (.slice (some ⟨gl, offl, none⟩) T.length capl) T wy pc ps pl b1 b2 lv) := Lib.hid (by rw [hwy]; exact HI.out.below ((Below.refl _ _).alloc (Nat.le_refl _) _))
      have HGy : Hid (Blk wy g (strs rW) 9) := Lib.hid (by rw [hwy]; exact Blk.new' (c := strs rW) hg.out)
      rw [← hwy, ← hg.out]
      clear hwy HI
      go_cut [10, 11] (fun av bv wx => ParseCut x wy av bv wx)
      case first =>
        go_wp2_with (fail)
        go_loopw [10, 11, 13, 14, 15] (fun av bv kv _ _ wx => ∃ (k m : Nat) (a b : ByteArray), av = .string a ∧ bv = .string b ∧ kv = .int .i64 k ∧ k ≤ 4 ∧ Hid (pickW x k = (a, b)) ∧ wx = wy.drewN m) (fun _ _ kv _ _ _ => 4 - (RowKit.intOf kv).toNat)
        case atStart => exact ⟨0, 0, ⟨#[]⟩, ⟨#[]⟩, rfl, rfl, rfl, by omega, rfl, rfl⟩
        case round =>
          obtain ⟨k, m, a, b, rfl, rfl, rfl, hk, HP, rfl⟩ := hrel
          have k0 : (0 : Int) ≤ (k : Int) := by omega
          rcases Nat.lt_or_ge k 4 with hk4 | hk4
          · have hk4' : (k : Int) < 4 := by omega
            obtain ⟨y, hy⟩ : ∃ y, rW[k]? = some y := ⟨_, List.getElem?_eq_getElem (by show k < 4; exact hk4)⟩
            have cy : wy.cell? ⟨g, k, none⟩ = some (.string y) := by rw [HGy.out.cell]; exact strs_get hy
            have cx := HCX.out wy HIy.out.b.ls
            have hys : y.size ≤ 100 := by
              have h1 := List.mem_of_getElem? hy
              have h2 : (rW.all fun x => decide (x.size ≤ 100)) = true := by decide
              exact of_decide_eq_true (List.all_eq_true.1 h2 y h1)
            have HA := Lib.hid (fun w => ref_after x y w (by omega) hys)
            obtain ⟨q, hq⟩ : ∃ q, Hid (aftB x.data.toList y.data.toList = q) := ⟨_, rfl⟩
            rw [hq.out] at HA
            have hP1 : Hid (pickW x (k + 1) = if q then (y, x.extract (y.size + 1) x.size) else (a, b)) := Lib.hid (by
              have h1 : rW.getD k ⟨#[]⟩ = y := by rw [List.getD, hy]; rfl
              simp only [pickW]
              rw [h1, hq.out, HP.out])
            have e2 : IntKind.i64.wrap ((k : Int) + 1) = (k : Int) + 1 := IntWalk.i64_in _ (by omega)
            clear hy hys
            cases q
            all_goals
              go_wp2_with (fail)
              go_quiet ((go_at_call 30; with_reducible (first | exact qeq2 (HA.out _) | exact qeq (HA.out _))))
              go_wp2_with (fail)
              go_roundw
              case rel => exact ⟨k + 1, _, _, _, rfl, rfl, by go_num, by omega, hP1, by first | rfl | exact World.drewN_drewN _ _ _⟩
              case measure => simp [RowKit.intOf]; omega
          · obtain rfl : k = 4 := by omega
            have hk4' : ¬ (4 : Int) < 4 := by omega
            go_wp2_with (fail)
            go_meet
            exact ⟨m, a, b, HP, rfl, rfl, rfl⟩
      case rest =>
        obtain ⟨m, a, b, HP, rfl, rfl, rfl⟩ := hcut
        have HI := Lib.hid (HIy.out.below (below_drewN (Below.refl _ _) m))
        generalize wy.drewN m = wz at HI ⊢
        have cx := HCX.out wz HI.out.b.ls
        have hcl := pick_cls x
        rw [hxX.out, HP.out] at hcl
        clear HGy HIy HP
        by_cases hco : X = wColl
        · have hc := hcl.1 hco
          have hb0 : b = ⟨#[]⟩ := by
            rcases hc with ⟨_, _, h, _⟩ | ⟨_, _, h, _⟩ | ⟨_, _, h, _⟩ | ⟨_, _, h, _⟩ | ⟨_, _, _, h⟩ | ⟨_, _, h⟩
            · exact absurd h (by decide)
            · exact absurd h (by decide)
            · exact absurd h (by decide)
            · exact absurd h (by decide)
            · exact h
            · exact h
          subst hb0
          have hcut : (cutS 32 X).1 = wColl ∧ (cutS 32 X).2.2 = false := by rw [hco]; decide
          have hct : (x.toList == [99, 111, 108, 108, 101, 99, 116]) = true := by
            rw [ByteArray.toList_eq, hxX.out, hco]; rfl
          have HCU := Lib.hid hcut
          have HNm := Lib.hid (fun w => ref_number ⟨#[]⟩ w (by decide))
          have HQ := Lib.hid (fun w => ref_quoted ⟨#[]⟩ w (by decide))
          generalize numR (⟨#[]⟩ : ByteArray).data.toList = N at HNm
          clear hc hcl hco hcut
          go_wp2_with (first | (go_at_call 31; ((with_reducible refine (HNm.out _).mono ?_); rintro e w' ⟨rfl, rfl⟩)))
          with_reducible refine (HQ.out _).mono ?_
          rintro e w4 ⟨rfl, hB4⟩
          have HI4 := Lib.hid (HI.out.below hB4)
          clear hB4
          have c0 := HI4.out.b.res.cell
          have f0 := HI4.out.b.res.free
          have c1 := HI4.out.b.non.cell
          have c2 := HI4.out.b.out.cell
          have f2 := HI4.out.b.out.free
          have c3 := HI4.out.b.sn.cell
          have f3 := HI4.out.b.sn.free
          have n1 := HI4.out.b.n1
          have n2 := HI4.out.b.n2
          have n3 := HI4.out.b.n3
          have n4 := HI4.out.b.n4
          have n5 := HI4.out.b.n5
          have n6 := HI4.out.b.n6
          have hst := Lib.hid (step_coll (p := ⟨pc, ps, pl, b1, b2⟩) HCU.out.1 HCU.out.2)
          obtain ⟨ada, capa, hav, _⟩ := HI4.out.al.form
          subst hav
          go_wp2_with (at_builtin; go_loud (refine wpList_app _ rfl (.tmp 165) (.tmp 167) 29 rfl 79 i0 (.agg #[.int .i64 0, .int .i64 0, .string ⟨#[]⟩]) 3 32 ulActR hi hz0 hz1 hz2 rfl _ pl.length (acts pl) rfl ?hown _ 1 1 [.int .i64 3, .int .i64 0, .string ⟨#[]⟩] rfl rfl (by exact cell_newL (by simp)) (by exact acCells_one (⟨3, 0, []⟩ : Ac)) (by unfold maxLen; omega) (by omega) ?go))
          case hown => exact HI4.out.al.alloc _
          case go =>
            intro ad' cap' w5 hs5 hU5
            have HS5 := Lib.hid hs5
            have HU5 := Lib.hid hU5
            have HI5 := Lib.hid (HI4.out.grown HU5.out)
            clear hs5 hU5 c0 f0 c1 c2 f2 c3 f3
            have c2 := HI5.out.1.out.cell
            have f2 := HI5.out.1.out.free
            go_wp2_with (fail)
            go_roundw
            case rel =>
              refine ⟨j + 1, pc, ps, pl ++ [(⟨3, 0, []⟩ : Ac)], b1, b2, .slice ad' (pl.length + 1) cap', by go_num, by omega, by simp; omega, rpar_go HG.out HX.out hst.out, ?_⟩
              exact HI5.out.1.stored (by rw [List.length_append, acts_snoc]; exact HS5.out) HI5.out.2
            case measure => simp [RowKit.intOf]; omega
        · have hc := hcl.2 hco
          have hct : (x.toList == [99, 111, 108, 108, 101, 99, 116]) = false := by
            rw [beq_eq_false_iff_ne, ByteArray.toList_eq, hxX.out]; exact hco
          have hrl := (cutS_le 32 X).2
          have HNm0 : Hid (∀ w, Calls Tryz.prog 31 #[.string (bs (cutS 32 X).2.1)] w fun e w' => e = .returned (.int .i64 (numR (cutS 32 X).2.1)) ∧ w = w') := Lib.hid (fun w => ref_number (bs (cutS 32 X).2.1) w (by rw [bs_size]; omega))
          have HQ0 : Hid (∀ w, Calls Tryz.prog 32 #[.string (bs (cutS 32 X).2.1)] w fun e w' => e = .returned (.tuple #[.string ⟨((quoS (cutS 32 X).2.1).getD []).toArray⟩, .bool (quoS (cutS 32 X).2.1).isSome]) ∧ Below w.heap.size w w') := Lib.hid (fun w => ref_quoted (bs (cutS 32 X).2.1) w (by rw [bs_size]; omega))
          clear hcl hco hrl
          rcases hc with ⟨hw, hm, h1, h2⟩ | ⟨hw, hm, h1, h2⟩ | ⟨hw, hm, h1, h2⟩ | ⟨hw, hm, h1, h2⟩ | ⟨hw, hm, h1, h2⟩ | ⟨hst0, h1, h2⟩
          · obtain rfl : a = ⟨#[99, 101, 108, 108, 115]⟩ := h1
            subst h2
            have HW := Lib.hid hw
            have HNm := HNm0
            have HQ := HQ0
            clear HNm0 HQ0 hw hm
            cases hN : numB (cutS 32 X).2.1 with
            | none =>
              have hr : numR (cutS 32 X).2.1 = -1 := by unfold numR; rw [hN]
              rw [hr] at HNm
              have hst := Lib.hid (step_bad (p := ⟨pc, ps, pl, b1, b2⟩) (.inl HW.out) hN)
              clear hr hN
              go_wp2_with (first | (go_at_call 31; ((with_reducible refine (HNm.out _).mono ?_); rintro e w' ⟨rfl, rfl⟩)))
              with_reducible refine (HQ.out _).mono ?_
              rintro e w4 ⟨rfl, hB4⟩
              have HI4 := Lib.hid (HI.out.below hB4)
              clear hB4
              have c0 := HI4.out.b.res.cell
              have f0 := HI4.out.b.res.free
              have c1 := HI4.out.b.non.cell
              have c2 := HI4.out.b.out.cell
              have f2 := HI4.out.b.out.free
              have c3 := HI4.out.b.sn.cell
              have f3 := HI4.out.b.sn.free
              have n1 := HI4.out.b.n1
              have n2 := HI4.out.b.n2
              have n3 := HI4.out.b.n3
              have n4 := HI4.out.b.n4
              have n5 := HI4.out.b.n5
              have n6 := HI4.out.b.n6
              go_wp2_with (fail)
              refine ⟨rfl, _, ret_rs rfl rfl (((HI4.out.b.res.set 0 _).set 1 _).set 2 _), ?_⟩
              exact rpar_bad HG.out HX.out hst.out (((HI4.out.b.bel.setCell HI4.out.b.h0 _).setCell HI4.out.b.h0 _).setCell HI4.out.b.h0 _)
            | some n =>
              have hr : numR (cutS 32 X).2.1 = (n : Int) := by unfold numR; rw [hN]
              rw [hr] at HNm
              have HNN := Lib.hid hN
              have hn0 : (0 : Int) ≤ (n : Int) := by omega
              have hnl : ¬ (n : Int) < 0 := by omega
              clear hr hN
              by_cases hlate : pl ≠ [] ∨ b1 = true
              · have hst := Lib.hid (step_late (p := ⟨pc, ps, pl, b1, b2⟩) (.inl HW.out) HNN.out (by rcases hlate with h | h; exact .inl h; (exact .inr (.inl ⟨HW.out, h⟩))))
                cases b1
                · have hpl : (0 : Int) < (pl.length : Int) := by
                    rcases hlate with h | h
                    · have := List.length_pos_iff.2 h; omega
                    · cases h
                  clear hlate
                  go_wp2_with (first | (go_at_call 31; ((with_reducible refine (HNm.out _).mono ?_); rintro e w' ⟨rfl, rfl⟩)))
                  with_reducible refine (HQ.out _).mono ?_
                  rintro e w4 ⟨rfl, hB4⟩
                  have HI4 := Lib.hid (HI.out.below hB4)
                  clear hB4
                  have c0 := HI4.out.b.res.cell
                  have f0 := HI4.out.b.res.free
                  have c1 := HI4.out.b.non.cell
                  have c2 := HI4.out.b.out.cell
                  have f2 := HI4.out.b.out.free
                  have c3 := HI4.out.b.sn.cell
                  have f3 := HI4.out.b.sn.free
                  have n1 := HI4.out.b.n1
                  have n2 := HI4.out.b.n2
                  have n3 := HI4.out.b.n3
                  have n4 := HI4.out.b.n4
                  have n5 := HI4.out.b.n5
                  have n6 := HI4.out.b.n6
                  obtain ⟨ada, capa, hav, _⟩ := HI4.out.al.form
                  subst hav
                  go_wp2_with (fail)
                  refine ⟨rfl, _, ret_rs rfl rfl (((HI4.out.b.res.set 0 _).set 1 _).set 2 _), ?_⟩
                  exact rpar_bad HG.out HX.out hst.out (((HI4.out.b.bel.setCell HI4.out.b.h0 _).setCell HI4.out.b.h0 _).setCell HI4.out.b.h0 _)
                · clear hlate
                  go_wp2_with (first | (go_at_call 31; ((with_reducible refine (HNm.out _).mono ?_); rintro e w' ⟨rfl, rfl⟩)))
                  with_reducible refine (HQ.out _).mono ?_
                  rintro e w4 ⟨rfl, hB4⟩
                  have HI4 := Lib.hid (HI.out.below hB4)
                  clear hB4
                  have c0 := HI4.out.b.res.cell
                  have f0 := HI4.out.b.res.free
                  have c1 := HI4.out.b.non.cell
                  have c2 := HI4.out.b.out.cell
                  have f2 := HI4.out.b.out.free
                  have c3 := HI4.out.b.sn.cell
                  have f3 := HI4.out.b.sn.free
                  have n1 := HI4.out.b.n1
                  have n2 := HI4.out.b.n2
                  have n3 := HI4.out.b.n3
                  have n4 := HI4.out.b.n4
                  have n5 := HI4.out.b.n5
                  have n6 := HI4.out.b.n6
                  go_wp2_with (fail)
                  refine ⟨rfl, _, ret_rs rfl rfl (((HI4.out.b.res.set 0 _).set 1 _).set 2 _), ?_⟩
                  exact rpar_bad HG.out HX.out hst.out (((HI4.out.b.bel.setCell HI4.out.b.h0 _).setCell HI4.out.b.h0 _).setCell HI4.out.b.h0 _)
              · have hpl : pl = [] := Classical.byContradiction fun h => hlate (.inl h)
                have hfl : b1 = false := by rw [← Bool.not_eq_true]; exact fun h => hlate (.inr h)
                subst hpl
                subst hfl
                clear hlate
                by_cases hrg : (n : Int) < 2 ∨ (32768 : Int) < (n : Int)
                · have hst := Lib.hid (step_sc_range (p := ⟨pc, ps, [], false, b2⟩) HW.out HNN.out rfl rfl (by omega))
                  by_cases hlo : (n : Int) < 2
                  · clear hrg
                    go_wp2_with (first | (go_at_call 31; ((with_reducible refine (HNm.out _).mono ?_); rintro e w' ⟨rfl, rfl⟩)))
                    with_reducible refine (HQ.out _).mono ?_
                    rintro e w4 ⟨rfl, hB4⟩
                    have HI4 := Lib.hid (HI.out.below hB4)
                    clear hB4
                    have c0 := HI4.out.b.res.cell
                    have f0 := HI4.out.b.res.free
                    have c1 := HI4.out.b.non.cell
                    have c2 := HI4.out.b.out.cell
                    have f2 := HI4.out.b.out.free
                    have c3 := HI4.out.b.sn.cell
                    have f3 := HI4.out.b.sn.free
                    have n1 := HI4.out.b.n1
                    have n2 := HI4.out.b.n2
                    have n3 := HI4.out.b.n3
                    have n4 := HI4.out.b.n4
                    have n5 := HI4.out.b.n5
                    have n6 := HI4.out.b.n6
                    obtain ⟨ada, capa, hav, _⟩ := HI4.out.al.form
                    subst hav
                    go_wp2_with (fail)
                    refine ⟨rfl, _, ret_rs rfl rfl ((((HI4.out.b.res.other HI4.out.b.n5 _ _).set 0 _).set 1 _).set 2 _), ?_⟩
                    exact rpar_bad HG.out HX.out hst.out ((((HI4.out.b.bel.setCell HI4.out.b.h3 _).setCell HI4.out.b.h0 _).setCell HI4.out.b.h0 _).setCell HI4.out.b.h0 _)
                  · have hhi : (32768 : Int) < (n : Int) := by rcases hrg with h | h; exact absurd h hlo; exact h
                    clear hrg
                    go_wp2_with (first | (go_at_call 31; ((with_reducible refine (HNm.out _).mono ?_); rintro e w' ⟨rfl, rfl⟩)))
                    with_reducible refine (HQ.out _).mono ?_
                    rintro e w4 ⟨rfl, hB4⟩
                    have HI4 := Lib.hid (HI.out.below hB4)
                    clear hB4
                    have c0 := HI4.out.b.res.cell
                    have f0 := HI4.out.b.res.free
                    have c1 := HI4.out.b.non.cell
                    have c2 := HI4.out.b.out.cell
                    have f2 := HI4.out.b.out.free
                    have c3 := HI4.out.b.sn.cell
                    have f3 := HI4.out.b.sn.free
                    have n1 := HI4.out.b.n1
                    have n2 := HI4.out.b.n2
                    have n3 := HI4.out.b.n3
                    have n4 := HI4.out.b.n4
                    have n5 := HI4.out.b.n5
                    have n6 := HI4.out.b.n6
                    obtain ⟨ada, capa, hav, _⟩ := HI4.out.al.form
                    subst hav
                    go_wp2_with (fail)
                    refine ⟨rfl, _, ret_rs rfl rfl ((((HI4.out.b.res.other HI4.out.b.n5 _ _).set 0 _).set 1 _).set 2 _), ?_⟩
                    exact rpar_bad HG.out HX.out hst.out ((((HI4.out.b.bel.setCell HI4.out.b.h3 _).setCell HI4.out.b.h0 _).setCell HI4.out.b.h0 _).setCell HI4.out.b.h0 _)
                · have hlo : ¬ (n : Int) < 2 := fun h => hrg (.inl h)
                  have hhi : ¬ (32768 : Int) < (n : Int) := fun h => hrg (.inr h)
                  have hst := Lib.hid (step_sc (p := ⟨pc, ps, [], false, b2⟩) HW.out HNN.out rfl rfl (by omega))
                  clear hrg
                  go_wp2_with (first | (go_at_call 31; ((with_reducible refine (HNm.out _).mono ?_); rintro e w' ⟨rfl, rfl⟩)))
                  with_reducible refine (HQ.out _).mono ?_
                  rintro e w4 ⟨rfl, hB4⟩
                  have HI4 := Lib.hid (HI.out.below hB4)
                  clear hB4
                  have c0 := HI4.out.b.res.cell
                  have f0 := HI4.out.b.res.free
                  have c1 := HI4.out.b.non.cell
                  have c2 := HI4.out.b.out.cell
                  have f2 := HI4.out.b.out.free
                  have c3 := HI4.out.b.sn.cell
                  have f3 := HI4.out.b.sn.free
                  have n1 := HI4.out.b.n1
                  have n2 := HI4.out.b.n2
                  have n3 := HI4.out.b.n3
                  have n4 := HI4.out.b.n4
                  have n5 := HI4.out.b.n5
                  have n6 := HI4.out.b.n6
                  obtain ⟨ada, capa, hav, _⟩ := HI4.out.al.form
                  subst hav
                  go_wp2_with (fail)
                  go_roundw
                  case rel =>
                    refine ⟨j + 1, n, ps, [], true, b2, .slice ada 0 capa, by go_num, by omega, by simp, rpar_go HG.out HX.out hst.out, ?_⟩
                    exact HI4.out.flag1 n
                  case measure => simp [RowKit.intOf]; omega
          · obtain rfl : a = ⟨#[115, 116, 97, 99, 107]⟩ := h1
            subst h2
            have HW := Lib.hid hw
            have HNm := HNm0
            have HQ := HQ0
            clear HNm0 HQ0 hw hm
            cases hN : numB (cutS 32 X).2.1 with
            | none =>
              have hr : numR (cutS 32 X).2.1 = -1 := by unfold numR; rw [hN]
              rw [hr] at HNm
              have hst := Lib.hid (step_bad (p := ⟨pc, ps, pl, b1, b2⟩) (.inr HW.out) hN)
              clear hr hN
              go_wp2_with (first | (go_at_call 31; ((with_reducible refine (HNm.out _).mono ?_); rintro e w' ⟨rfl, rfl⟩)))
              with_reducible refine (HQ.out _).mono ?_
              rintro e w4 ⟨rfl, hB4⟩
              have HI4 := Lib.hid (HI.out.below hB4)
              clear hB4
              have c0 := HI4.out.b.res.cell
              have f0 := HI4.out.b.res.free
              have c1 := HI4.out.b.non.cell
              have c2 := HI4.out.b.out.cell
              have f2 := HI4.out.b.out.free
              have c3 := HI4.out.b.sn.cell
              have f3 := HI4.out.b.sn.free
              have n1 := HI4.out.b.n1
              have n2 := HI4.out.b.n2
              have n3 := HI4.out.b.n3
              have n4 := HI4.out.b.n4
              have n5 := HI4.out.b.n5
              have n6 := HI4.out.b.n6
              go_wp2_with (fail)
              refine ⟨rfl, _, ret_rs rfl rfl (((HI4.out.b.res.set 0 _).set 1 _).set 2 _), ?_⟩
              exact rpar_bad HG.out HX.out hst.out (((HI4.out.b.bel.setCell HI4.out.b.h0 _).setCell HI4.out.b.h0 _).setCell HI4.out.b.h0 _)
            | some n =>
              have hr : numR (cutS 32 X).2.1 = (n : Int) := by unfold numR; rw [hN]
              rw [hr] at HNm
              have HNN := Lib.hid hN
              have hn0 : (0 : Int) ≤ (n : Int) := by omega
              have hnl : ¬ (n : Int) < 0 := by omega
              clear hr hN
              by_cases hlate : pl ≠ [] ∨ b2 = true
              · have hst := Lib.hid (step_late (p := ⟨pc, ps, pl, b1, b2⟩) (.inr HW.out) HNN.out (by rcases hlate with h | h; exact .inl h; (exact .inr (.inr ⟨HW.out, h⟩))))
                cases b2
                · have hpl : (0 : Int) < (pl.length : Int) := by
                    rcases hlate with h | h
                    · have := List.length_pos_iff.2 h; omega
                    · cases h
                  clear hlate
                  go_wp2_with (first | (go_at_call 31; ((with_reducible refine (HNm.out _).mono ?_); rintro e w' ⟨rfl, rfl⟩)))
                  with_reducible refine (HQ.out _).mono ?_
                  rintro e w4 ⟨rfl, hB4⟩
                  have HI4 := Lib.hid (HI.out.below hB4)
                  clear hB4
                  have c0 := HI4.out.b.res.cell
                  have f0 := HI4.out.b.res.free
                  have c1 := HI4.out.b.non.cell
                  have c2 := HI4.out.b.out.cell
                  have f2 := HI4.out.b.out.free
                  have c3 := HI4.out.b.sn.cell
                  have f3 := HI4.out.b.sn.free
                  have n1 := HI4.out.b.n1
                  have n2 := HI4.out.b.n2
                  have n3 := HI4.out.b.n3
                  have n4 := HI4.out.b.n4
                  have n5 := HI4.out.b.n5
                  have n6 := HI4.out.b.n6
                  obtain ⟨ada, capa, hav, _⟩ := HI4.out.al.form
                  subst hav
                  go_wp2_with (fail)
                  refine ⟨rfl, _, ret_rs rfl rfl (((HI4.out.b.res.set 0 _).set 1 _).set 2 _), ?_⟩
                  exact rpar_bad HG.out HX.out hst.out (((HI4.out.b.bel.setCell HI4.out.b.h0 _).setCell HI4.out.b.h0 _).setCell HI4.out.b.h0 _)
                · clear hlate
                  go_wp2_with (first | (go_at_call 31; ((with_reducible refine (HNm.out _).mono ?_); rintro e w' ⟨rfl, rfl⟩)))
                  with_reducible refine (HQ.out _).mono ?_
                  rintro e w4 ⟨rfl, hB4⟩
                  have HI4 := Lib.hid (HI.out.below hB4)
                  clear hB4
                  have c0 := HI4.out.b.res.cell
                  have f0 := HI4.out.b.res.free
                  have c1 := HI4.out.b.non.cell
                  have c2 := HI4.out.b.out.cell
                  have f2 := HI4.out.b.out.free
                  have c3 := HI4.out.b.sn.cell
                  have f3 := HI4.out.b.sn.free
                  have n1 := HI4.out.b.n1
                  have n2 := HI4.out.b.n2
                  have n3 := HI4.out.b.n3
                  have n4 := HI4.out.b.n4
                  have n5 := HI4.out.b.n5
                  have n6 := HI4.out.b.n6
                  go_wp2_with (fail)
                  refine ⟨rfl, _, ret_rs rfl rfl (((HI4.out.b.res.set 0 _).set 1 _).set 2 _), ?_⟩
                  exact rpar_bad HG.out HX.out hst.out (((HI4.out.b.bel.setCell HI4.out.b.h0 _).setCell HI4.out.b.h0 _).setCell HI4.out.b.h0 _)
              · have hpl : pl = [] := Classical.byContradiction fun h => hlate (.inl h)
                have hfl : b2 = false := by rw [← Bool.not_eq_true]; exact fun h => hlate (.inr h)
                subst hpl
                subst hfl
                clear hlate
                by_cases hrg : (n : Int) < 1 ∨ (8192 : Int) < (n : Int)
                · have hst := Lib.hid (step_ss_range (p := ⟨pc, ps, [], b1, false⟩) HW.out HNN.out rfl rfl (by omega))
                  by_cases hlo : (n : Int) < 1
                  · clear hrg
                    go_wp2_with (first | (go_at_call 31; ((with_reducible refine (HNm.out _).mono ?_); rintro e w' ⟨rfl, rfl⟩)))
                    with_reducible refine (HQ.out _).mono ?_
                    rintro e w4 ⟨rfl, hB4⟩
                    have HI4 := Lib.hid (HI.out.below hB4)
                    clear hB4
                    have c0 := HI4.out.b.res.cell
                    have f0 := HI4.out.b.res.free
                    have c1 := HI4.out.b.non.cell
                    have c2 := HI4.out.b.out.cell
                    have f2 := HI4.out.b.out.free
                    have c3 := HI4.out.b.sn.cell
                    have f3 := HI4.out.b.sn.free
                    have n1 := HI4.out.b.n1
                    have n2 := HI4.out.b.n2
                    have n3 := HI4.out.b.n3
                    have n4 := HI4.out.b.n4
                    have n5 := HI4.out.b.n5
                    have n6 := HI4.out.b.n6
                    obtain ⟨ada, capa, hav, _⟩ := HI4.out.al.form
                    subst hav
                    go_wp2_with (fail)
                    refine ⟨rfl, _, ret_rs rfl rfl ((((HI4.out.b.res.other HI4.out.b.n5 _ _).set 0 _).set 1 _).set 2 _), ?_⟩
                    exact rpar_bad HG.out HX.out hst.out ((((HI4.out.b.bel.setCell HI4.out.b.h3 _).setCell HI4.out.b.h0 _).setCell HI4.out.b.h0 _).setCell HI4.out.b.h0 _)
                  · have hhi : (8192 : Int) < (n : Int) := by rcases hrg with h | h; exact absurd h hlo; exact h
                    clear hrg
                    go_wp2_with (first | (go_at_call 31; ((with_reducible refine (HNm.out _).mono ?_); rintro e w' ⟨rfl, rfl⟩)))
                    with_reducible refine (HQ.out _).mono ?_
                    rintro e w4 ⟨rfl, hB4⟩
                    have HI4 := Lib.hid (HI.out.below hB4)
                    clear hB4
                    have c0 := HI4.out.b.res.cell
                    have f0 := HI4.out.b.res.free
                    have c1 := HI4.out.b.non.cell
                    have c2 := HI4.out.b.out.cell
                    have f2 := HI4.out.b.out.free
                    have c3 := HI4.out.b.sn.cell
                    have f3 := HI4.out.b.sn.free
                    have n1 := HI4.out.b.n1
                    have n2 := HI4.out.b.n2
                    have n3 := HI4.out.b.n3
                    have n4 := HI4.out.b.n4
                    have n5 := HI4.out.b.n5
                    have n6 := HI4.out.b.n6
                    obtain ⟨ada, capa, hav, _⟩ := HI4.out.al.form
                    subst hav
                    go_wp2_with (fail)
                    refine ⟨rfl, _, ret_rs rfl rfl ((((HI4.out.b.res.other HI4.out.b.n5 _ _).set 0 _).set 1 _).set 2 _), ?_⟩
                    exact rpar_bad HG.out HX.out hst.out ((((HI4.out.b.bel.setCell HI4.out.b.h3 _).setCell HI4.out.b.h0 _).setCell HI4.out.b.h0 _).setCell HI4.out.b.h0 _)
                · have hlo : ¬ (n : Int) < 1 := fun h => hrg (.inl h)
                  have hhi : ¬ (8192 : Int) < (n : Int) := fun h => hrg (.inr h)
                  have hst := Lib.hid (step_ss (p := ⟨pc, ps, [], b1, false⟩) HW.out HNN.out rfl rfl (by omega))
                  clear hrg
                  go_wp2_with (first | (go_at_call 31; ((with_reducible refine (HNm.out _).mono ?_); rintro e w' ⟨rfl, rfl⟩)))
                  with_reducible refine (HQ.out _).mono ?_
                  rintro e w4 ⟨rfl, hB4⟩
                  have HI4 := Lib.hid (HI.out.below hB4)
                  clear hB4
                  have c0 := HI4.out.b.res.cell
                  have f0 := HI4.out.b.res.free
                  have c1 := HI4.out.b.non.cell
                  have c2 := HI4.out.b.out.cell
                  have f2 := HI4.out.b.out.free
                  have c3 := HI4.out.b.sn.cell
                  have f3 := HI4.out.b.sn.free
                  have n1 := HI4.out.b.n1
                  have n2 := HI4.out.b.n2
                  have n3 := HI4.out.b.n3
                  have n4 := HI4.out.b.n4
                  have n5 := HI4.out.b.n5
                  have n6 := HI4.out.b.n6
                  obtain ⟨ada, capa, hav, _⟩ := HI4.out.al.form
                  subst hav
                  go_wp2_with (fail)
                  go_roundw
                  case rel =>
                    refine ⟨j + 1, pc, n, [], b1, true, .slice ada 0 capa, by go_num, by omega, by simp, rpar_go HG.out HX.out hst.out, ?_⟩
                    exact HI4.out.flag2 n
                  case measure => simp [RowKit.intOf]; omega
          · obtain rfl : a = ⟨#[108, 105, 110, 101]⟩ := h1
            subst h2
            have HW := Lib.hid hw
            have HM := Lib.hid hm
            have HNm := HNm0
            have HQ := HQ0
            clear HNm0 HQ0 hw hm
            generalize numR (cutS 32 X).2.1 = N at HNm
            cases hq : quoS (cutS 32 X).2.1 with
            | none =>
              have hst := Lib.hid (show stepS ⟨pc, ps, pl, b1, b2⟩ X = .inl 5 by rw [step_line HW.out HM.out, hq])
              rw [hq] at HQ
              clear hq
              go_wp2_with (first | (go_at_call 31; ((with_reducible refine (HNm.out _).mono ?_); rintro e w' ⟨rfl, rfl⟩)))
              with_reducible refine (HQ.out _).mono ?_
              rintro e w4 ⟨rfl, hB4⟩
              have HI4 := Lib.hid (HI.out.below hB4)
              clear hB4
              have c0 := HI4.out.b.res.cell
              have f0 := HI4.out.b.res.free
              have c1 := HI4.out.b.non.cell
              have c2 := HI4.out.b.out.cell
              have f2 := HI4.out.b.out.free
              have c3 := HI4.out.b.sn.cell
              have f3 := HI4.out.b.sn.free
              have n1 := HI4.out.b.n1
              have n2 := HI4.out.b.n2
              have n3 := HI4.out.b.n3
              have n4 := HI4.out.b.n4
              have n5 := HI4.out.b.n5
              have n6 := HI4.out.b.n6
              go_wp2_with (fail)
              refine ⟨rfl, _, ret_rs rfl rfl (((HI4.out.b.res.set 0 _).set 1 _).set 2 _), ?_⟩
              exact rpar_bad HG.out HX.out hst.out (((HI4.out.b.bel.setCell HI4.out.b.h0 _).setCell HI4.out.b.h0 _).setCell HI4.out.b.h0 _)
            | some y =>
              have hst0 := Lib.hid (show stepS ⟨pc, ps, pl, b1, b2⟩ X = .inr ⟨pc, ps, pl ++ [⟨1, 0, y⟩], b1, b2⟩ by rw [step_line HW.out HM.out, hq])
              rw [hq] at HQ
              clear hq
              go_wp2_with (first | (go_at_call 31; ((with_reducible refine (HNm.out _).mono ?_); rintro e w' ⟨rfl, rfl⟩)))
              with_reducible refine (HQ.out _).mono ?_
              rintro e w4 ⟨rfl, hB4⟩
              have HI4 := Lib.hid (HI.out.below hB4)
              clear hB4
              have c0 := HI4.out.b.res.cell
              have f0 := HI4.out.b.res.free
              have c1 := HI4.out.b.non.cell
              have c2 := HI4.out.b.out.cell
              have f2 := HI4.out.b.out.free
              have c3 := HI4.out.b.sn.cell
              have f3 := HI4.out.b.sn.free
              have n1 := HI4.out.b.n1
              have n2 := HI4.out.b.n2
              have n3 := HI4.out.b.n3
              have n4 := HI4.out.b.n4
              have n5 := HI4.out.b.n5
              have n6 := HI4.out.b.n6
              have hst := Lib.hid (hst0.out)
              obtain ⟨ada, capa, hav, _⟩ := HI4.out.al.form
              subst hav
              go_wp2_with (at_builtin; go_loud (refine wpList_app _ rfl (.tmp 142) (.tmp 145) 29 rfl 79 i0 (.agg #[.int .i64 0, .int .i64 0, .string ⟨#[]⟩]) 3 32 ulActR hi hz0 hz1 hz2 rfl _ pl.length (acts pl) rfl ?hown _ 1 1 [.int .i64 1, .int .i64 0, .string ⟨y.toArray⟩] rfl rfl (by exact cell_newL (by simp)) (by exact acCells_one (⟨1, 0, y⟩ : Ac)) (by unfold maxLen; omega) (by omega) ?go))
              case hown => exact HI4.out.al.alloc _
              case go =>
                intro ad' cap' w5 hs5 hU5
                have HS5 := Lib.hid hs5
                have HU5 := Lib.hid hU5
                have HI5 := Lib.hid (HI4.out.grown HU5.out)
                clear hs5 hU5 c0 f0 c1 c2 f2 c3 f3
                have c2 := HI5.out.1.out.cell
                have f2 := HI5.out.1.out.free
                go_wp2_with (fail)
                go_roundw
                case rel =>
                  refine ⟨j + 1, pc, ps, pl ++ [(⟨1, 0, y⟩ : Ac)], b1, b2, .slice ad' (pl.length + 1) cap', by go_num, by omega, by simp; omega, rpar_go HG.out HX.out hst.out, ?_⟩
                  exact HI5.out.1.stored (by rw [List.length_append, acts_snoc]; exact HS5.out) HI5.out.2
                case measure => simp [RowKit.intOf]; omega
          · obtain rfl : a = ⟨#[114, 117, 110]⟩ := h1
            subst h2
            have HW := Lib.hid hw
            have HM := Lib.hid hm
            have HNm := HNm0
            have HQ := HQ0
            clear HNm0 HQ0 hw hm
            cases hq : numB (cutS 32 X).2.1 with
            | none =>
              have hst := Lib.hid (show stepS ⟨pc, ps, pl, b1, b2⟩ X = .inl 5 by rw [step_run HW.out HM.out, hq])
              have hr : numR (cutS 32 X).2.1 = -1 := by unfold numR; rw [hq]
              rw [hr] at HNm
              clear hq hr
              go_wp2_with (first | (go_at_call 31; ((with_reducible refine (HNm.out _).mono ?_); rintro e w' ⟨rfl, rfl⟩)))
              with_reducible refine (HQ.out _).mono ?_
              rintro e w4 ⟨rfl, hB4⟩
              have HI4 := Lib.hid (HI.out.below hB4)
              clear hB4
              have c0 := HI4.out.b.res.cell
              have f0 := HI4.out.b.res.free
              have c1 := HI4.out.b.non.cell
              have c2 := HI4.out.b.out.cell
              have f2 := HI4.out.b.out.free
              have c3 := HI4.out.b.sn.cell
              have f3 := HI4.out.b.sn.free
              have n1 := HI4.out.b.n1
              have n2 := HI4.out.b.n2
              have n3 := HI4.out.b.n3
              have n4 := HI4.out.b.n4
              have n5 := HI4.out.b.n5
              have n6 := HI4.out.b.n6
              go_wp2_with (fail)
              refine ⟨rfl, _, ret_rs rfl rfl (((HI4.out.b.res.set 0 _).set 1 _).set 2 _), ?_⟩
              exact rpar_bad HG.out HX.out hst.out (((HI4.out.b.bel.setCell HI4.out.b.h0 _).setCell HI4.out.b.h0 _).setCell HI4.out.b.h0 _)
            | some n =>
              have hst0 := Lib.hid (show stepS ⟨pc, ps, pl, b1, b2⟩ X = .inr ⟨pc, ps, pl ++ [⟨2, n, []⟩], b1, b2⟩ by rw [step_run HW.out HM.out, hq])
              have hr : numR (cutS 32 X).2.1 = (n : Int) := by unfold numR; rw [hq]
              rw [hr] at HNm
              have hn0 : (0 : Int) ≤ (n : Int) := by omega
              have hnl : ¬ (n : Int) < 0 := by omega
              clear hq hr
              go_wp2_with (first | (go_at_call 31; ((with_reducible refine (HNm.out _).mono ?_); rintro e w' ⟨rfl, rfl⟩)))
              with_reducible refine (HQ.out _).mono ?_
              rintro e w4 ⟨rfl, hB4⟩
              have HI4 := Lib.hid (HI.out.below hB4)
              clear hB4
              have c0 := HI4.out.b.res.cell
              have f0 := HI4.out.b.res.free
              have c1 := HI4.out.b.non.cell
              have c2 := HI4.out.b.out.cell
              have f2 := HI4.out.b.out.free
              have c3 := HI4.out.b.sn.cell
              have f3 := HI4.out.b.sn.free
              have n1 := HI4.out.b.n1
              have n2 := HI4.out.b.n2
              have n3 := HI4.out.b.n3
              have n4 := HI4.out.b.n4
              have n5 := HI4.out.b.n5
              have n6 := HI4.out.b.n6
              have hst := Lib.hid (hst0.out)
              obtain ⟨ada, capa, hav, _⟩ := HI4.out.al.form
              subst hav
              go_wp2_with (at_builtin; go_loud (refine wpList_app _ rfl (.tmp 156) (.tmp 159) 29 rfl 79 i0 (.agg #[.int .i64 0, .int .i64 0, .string ⟨#[]⟩]) 3 32 ulActR hi hz0 hz1 hz2 rfl _ pl.length (acts pl) rfl ?hown _ 1 1 [.int .i64 2, .int .i64 n, .string ⟨#[]⟩] rfl rfl (by exact cell_newL (by simp)) (by exact acCells_one (⟨2, n, []⟩ : Ac)) (by unfold maxLen; omega) (by omega) ?go))
              case hown => exact HI4.out.al.alloc _
              case go =>
                intro ad' cap' w5 hs5 hU5
                have HS5 := Lib.hid hs5
                have HU5 := Lib.hid hU5
                have HI5 := Lib.hid (HI4.out.grown HU5.out)
                clear hs5 hU5 c0 f0 c1 c2 f2 c3 f3
                have c2 := HI5.out.1.out.cell
                have f2 := HI5.out.1.out.free
                go_wp2_with (fail)
                go_roundw
                case rel =>
                  refine ⟨j + 1, pc, ps, pl ++ [(⟨2, n, []⟩ : Ac)], b1, b2, .slice ad' (pl.length + 1) cap', by go_num, by omega, by simp; omega, rpar_go HG.out HX.out hst.out, ?_⟩
                  exact HI5.out.1.stored (by rw [List.length_append, acts_snoc]; exact HS5.out) HI5.out.2
                case measure => simp [RowKit.intOf]; omega
          · exfalso
            have h3 := (cut_no X hm).1
            rw [hw] at h3
            rw [beq_eq_false_iff_ne, ByteArray.toList_eq, hxX.out] at hct
            exact hct h3.symm
          · obtain rfl : a = ⟨#[]⟩ := h1
            obtain rfl : b = ⟨#[]⟩ := h2
            have hst := Lib.hid (hst0 ⟨pc, ps, pl, b1, b2⟩)
            have HNm := Lib.hid (fun w => ref_number ⟨#[]⟩ w (by decide))
            have HQ := Lib.hid (fun w => ref_quoted ⟨#[]⟩ w (by decide))
            generalize numR (⟨#[]⟩ : ByteArray).data.toList = N at HNm
            clear HNm0 HQ0 hst0
            go_wp2_with (first | (go_at_call 31; ((with_reducible refine (HNm.out _).mono ?_); rintro e w' ⟨rfl, rfl⟩)))
            with_reducible refine (HQ.out _).mono ?_
            rintro e w4 ⟨rfl, hB4⟩
            have HI4 := Lib.hid (HI.out.below hB4)
            clear hB4
            have c0 := HI4.out.b.res.cell
            have f0 := HI4.out.b.res.free
            have c1 := HI4.out.b.non.cell
            have c2 := HI4.out.b.out.cell
            have f2 := HI4.out.b.out.free
            have c3 := HI4.out.b.sn.cell
            have f3 := HI4.out.b.sn.free
            have n1 := HI4.out.b.n1
            have n2 := HI4.out.b.n2
            have n3 := HI4.out.b.n3
            have n4 := HI4.out.b.n4
            have n5 := HI4.out.b.n5
            have n6 := HI4.out.b.n6
            go_wp2_with (fail)
            refine ⟨rfl, _, ret_rs rfl rfl (((HI4.out.b.res.set 0 _).set 1 _).set 2 _), ?_⟩
            exact rpar_bad HG.out HX.out hst.out (((HI4.out.b.bel.setCell HI4.out.b.h0 _).setCell HI4.out.b.h0 _).setCell HI4.out.b.h0 _)
    · obtain rfl : j = T.length := by omega
      have hlt' : ¬ (T.length : Int) < (T.length : Int) := by omega
      have HI4 := HI
      have HG2 : Hid (goS spNew 1 T = .inr ⟨pc, ps, pl, b1, b2⟩) := Lib.hid (by have := HG.out; rw [List.take_of_length_le (Nat.le_refl _)] at this; exact this)
      clear hI HG
      obtain ⟨ada, capa, hav, _⟩ := HI4.out.al.form
      subst hav
      have c0 := HI4.out.b.res.cell
      have f0 := HI4.out.b.res.free
      have c1 := HI4.out.b.non.cell
      have c2 := HI4.out.b.out.cell
      have f2 := HI4.out.b.out.free
      have c3 := HI4.out.b.sn.cell
      have f3 := HI4.out.b.sn.free
      have n1 := HI4.out.b.n1
      have n2 := HI4.out.b.n2
      have n3 := HI4.out.b.n3
      have n4 := HI4.out.b.n4
      have n5 := HI4.out.b.n5
      have n6 := HI4.out.b.n6
      go_wp2_with (fail)
      refine ⟨rfl, _, ret_rs rfl rfl (((HI4.out.b.res.set 0 _).set 1 _).set 2 _), ?_⟩
      rw [HG2.out]
      refine ⟨⟨_, rfl, ?_, HI4.out.hl⟩, (((HI4.out.b.bel.setCell HI4.out.b.h0 _).setCell HI4.out.b.h0 _).setCell HI4.out.b.h0 _)⟩
      exact ((HI4.out.al.set (HI4.out.al.ne HI4.out.b.res (by decide)) _ _).set (HI4.out.al.ne HI4.out.b.res (by decide)) _ _).set (HI4.out.al.ne HI4.out.b.res (by decide)) _ _

end Go.Proofs.YtnmpckdggddpoaaGreatDoor

namespace Go.Proofs.YtnmpckdggddpoaaGreatDoor
open Go
section
variable {P : Program} {md : Region.Mode} {ops : Array Oper} {Q : Exit → Act → World → Prop} {S : World → Prop} {z : Nat}

/-- Whatever order is picked, and S holds behind every operation but number z. -/
def wpAnyZ (P : Program) (md : Region.Mode) (ops : Array Oper) (Q : Exit → Act → World → Prop) (S : World → Prop) (z : Nat) : Nat → Array Bool → Act → World → Prop
  | 0, listed, a, w => Region.ready md ops listed = [] ∧ Q .normal a w
  | fuel + 1, listed, a, w =>
    (Region.ready md ops listed = [] → Q .normal a w) ∧
    ∀ i ∈ Region.ready md ops listed, wpOp P ops Q i (fun a' w' => (i ≠ z → S w') ∧ wpAnyZ P md ops Q S z fuel (listed.setIfInBounds i true) a' w') a w

theorem wpAny_of_z : ∀ (fuel : Nat) (listed : Array Bool) (a : Act) (w : World), wpAnyZ P md ops Q S z fuel listed a w → wpAny P md ops Q fuel listed a w
  | 0, _, _, _, h => h
  | fuel + 1, _, _, _, h => ⟨h.1, fun i hi => wpOp_mono (fun a' w' h' => wpAny_of_z fuel _ a' w' h'.2) (h.2 i hi)⟩

def zWaits (md : Region.Mode) (ops : Array Oper) (z i : Nat) : Bool := match ops[z]? with
  | some oz => oz.after.any fun e => Region.binds md e && e.on == i
  | none => false
theorem zWaits_spec {i : Nat} (h : zWaits md ops z i = true) {listed : Array Bool} (hi : i ∈ Region.ready md ops listed) : z ∉ Region.ready md ops listed := by
  intro hz
  obtain ⟨hun, _⟩ := mem_ready.1 hi
  obtain ⟨_, oz, hoz, hall⟩ := mem_ready.1 hz
  unfold zWaits at h
  rw [hoz] at h
  obtain ⟨e, he, hb⟩ := Array.any_eq_true'.1 h
  simp only [Bool.and_eq_true, beq_iff_eq] at hb
  have h1 := hall e he hb.1
  rw [hb.2] at h1
  rcases Nat.lt_or_ge i listed.size with h' | h'
  · simp [h'] at hun h1; rw [hun] at h1; cases h1
  · simp [Array.getElem?_eq_none h'] at h1

theorem wpAnyZ_first {i : Nat} {oi : Oper} {v : Value} (hi : ops[i]? = some oi) (hsel : ∀ (j : Nat) (o : Oper) cs b, ops[j]? = some o → o.op ≠ .select cs b) (hzw : zWaits md ops z i = true)
    (hQ : ∀ c a w, Q (.panic c) (a.put oi.dst v) w → Q (.panic c) a w) :
    ∀ (fuel : Nat) (listed : Array Bool) (a : Act) (w : World),
      (∀ j oj, ops[j]? = some oj → j ≠ i → listed.getD j true = false → (∀ e ∈ oj.after, Region.binds md e = true → e.on ≠ i) → oi.apart ops oj = true) →
      i ∈ Region.ready md ops listed → YieldsIf P ops S oi v a → S w →
      wpAnyZ P md ops Q S z fuel (listed.setIfInBounds i true) (a.put oi.dst v) w → wpAnyZ P md ops Q S z (fuel + 1) listed a w := by
  intro fuel
  induction fuel with
  | zero =>
    intro listed a w _ hr hy hS H
    refine ⟨fun h => (by rw [h] at hr; cases hr), fun j hj => ?_⟩
    by_cases hji : j = i
    · subst hji; exact hy.wpOp hi hS ⟨fun _ => hS, H⟩
    · have := ready_mono hj hji
      rw [H.1] at this
      cases this
  | succ fuel ih =>
    intro listed a w hfree hr hy hS H
    refine ⟨fun h => (by rw [h] at hr; cases hr), fun j hj => ?_⟩
    by_cases hji : j = i
    · subst hji; exact hy.wpOp hi hS ⟨fun _ => hS, H⟩
    · have hjz : j ≠ z := fun e => zWaits_spec hzw hr (e ▸ hj)
      have h1 := H.2 j (ready_mono hj hji)
      obtain ⟨hjun, oj, hoj, hall⟩ := mem_ready.1 hj
      have hnot : ∀ e ∈ oj.after, Region.binds md e = true → e.on ≠ i := fun e he hb heq => by
        have h1 := hall e he hb
        have h0 := (mem_ready.1 hr).1
        rw [heq] at h1
        rcases Nat.lt_or_ge i listed.size with h' | h'
        · simp [h'] at h0 h1; rw [h0] at h1; cases h1
        · simp [Array.getElem?_eq_none h'] at h1
      have h2 := wpOp_putIf hoj (hfree j oj hoj hji hjun hnot) (fun cs b => hsel i oi cs b hi) (fun cs b => hsel j oj cs b hoj) hQ hy h1
      have hfree' : ∀ k ok, ops[k]? = some ok → k ≠ i → (listed.setIfInBounds j true).getD k true = false →
          (∀ e ∈ ok.after, Region.binds md e = true → e.on ≠ i) → oi.apart ops ok = true := fun k ok hk hki hun hno => by
        refine hfree k ok hk hki ?_ hno
        by_cases hjk : j = k
        · subst hjk; exact hjun
        · rw [getD_set_ne true hjk] at hun; exact hun
      refine wpOp_mono (fun a' w' h3 => ⟨h3.2.1, ih (listed.setIfInBounds j true) a' w' hfree' (ready_mono hr (Ne.symm hji)) h3.1 (h3.2.1 hjz) ?_⟩) h2
      rw [Array.setIfInBounds_comm _ _ hji]
      exact h3.2.2

theorem wpAnyZ_take {i : Nat} {oi : Oper} {v : Value} {fuel : Nat} {listed : Array Bool} {a : Act} {w : World} (hi : ops[i]? = some oi)
    (hs : Region.noSelect ops = true) (hf : Region.free md ops listed i = true) (hr : (Region.ready md ops listed).contains i = true) (hzw : zWaits md ops z i = true)
    (hQ : ∀ c a w, Q (.panic c) (a.put oi.dst v) w → Q (.panic c) a w) (hS : S w) (hwd : Region.wanted oi (yielded ops a.tmps) = true) (hy : ∀ w, S w → (execOp a.eval oi).run P w = .ok (.value v) w)
    (h : wpAnyZ P md ops Q S z fuel (listed.setIfInBounds i true) (a.put oi.dst v) w) : wpAnyZ P md ops Q S z (fuel + 1) listed a w :=
  wpAnyZ_first hi (Region.noSelect_spec hs) hzw hQ fuel listed a w (Region.free_spec hi hf) (by simpa using hr) (.inl ⟨hwd, hy⟩) hS h
theorem wpAnyZ_one {i : Nat} {fuel : Nat} {listed : Array Bool} {a : Act} {w : World} (hr : Region.ready md ops listed = [i])
    (h : wpOp P ops Q i (fun a' w' => (i ≠ z → S w') ∧ wpAnyZ P md ops Q S z fuel (listed.setIfInBounds i true) a' w') a w) : wpAnyZ P md ops Q S z (fuel + 1) listed a w :=
  ⟨fun h0 => absurd (hr.symm.trans h0) (by simp), by rw [hr]; simpa using h⟩
theorem wpAnyZ_done {listed : Array Bool} {a : Act} {w : World} (hr : Region.ready md ops listed = []) (h : Q .normal a w) :
    ∀ fuel, wpAnyZ P md ops Q S z fuel listed a w
  | 0 => ⟨hr, h⟩
  | _ + 1 => ⟨fun _ => h, by rw [hr]; simp⟩
theorem wp_region_z {id : Nat} {a : Act} {w : World} (S : World → Prop) (z : Nat) (hm : P.follows .mixedOrders = true)
    (h : wpAnyZ P .any ops Q S z ops.size (Array.replicate ops.size false) a { w with drawn := w.drawn + 1 }) : (Code.region id ops true).wp P Q a w :=
  wp_region_any hm (wpAny_of_z _ _ _ _ h)
end
end Go.Proofs.YtnmpckdggddpoaaGreatDoor

namespace Go.Proofs.YtnmpckdggddpoaaGreatDoor
set_option linter.unusedSimpArgs false
set_option linter.unusedVariables false
open Go.RowKit Go.Shelf Go.Lib

theorem actsI_len (l : List AcI) : (actsI l).length = l.length * 3 := by
  induction l with
  | nil => rfl
  | cons a l ih => simp [actsI, acI] at *; omega
theorem actsI_snoc (l : List AcI) (a : AcI) : actsI (l ++ [a]) = actsI l ++ acI a := by simp [actsI]
theorem acI_one (a : AcI) : ∀ u ∈ acI a, u.oneCell' = true := by
  intro u hu
  simp only [acI, List.mem_cons, List.not_mem_nil, or_false] at hu
  rcases hu with rfl | rfl | rfl <;> rfl
theorem ret_r1 {fn : Func} {p : Tmp} (h : fn.results = #[.cell p 31]) {tmps : Array Value} {r0 : Nat} {x y z : Value} (hp : tmps.getD p undef = .pointer (some ⟨r0, 0, none⟩)) {w : World} (hb : Blk w r0 [x, y, z] 31) :
    (results fn tmps).run Tryz.prog w = .ok (.agg #[x, y, z]) w := by
  have c0 := hb.cell 0
  have c1 := hb.cell 1
  have c2 := hb.cell 2
  simp only [List.getElem?_cons_zero, List.getElem?_cons_succ] at c0 c1 c2
  have hp' : tmps[p]?.getD undef = .pointer (some ⟨r0, 0, none⟩) := by simpa using hp
  simp [results, h, go_sem, hp', c0, c1, c2]

theorem own_keep {w wo w2 : World} {r0 g o n : Nat} {cells stack : Int} {lv : Value} {xs : List Value} {F' : List Nat} {c0 c1 c2 : Value} {ob : Obj} {sl : Value} (h0 : Blk wo r0 [.int .i64 cells, .int .i64 stack, sl] 25) (h2 : Blk wo (r0 + 1 + 1) [.int .i64 cells, .int .i64 stack, lv] 31)
    (hs : Sl wo lv 79 3 n xs) (hb : Below w.heap.size w wo) (hn : ∀ q ∈ own lv, w.heap.size ≤ q) (hg : g < w.heap.size) (d0 : wo.cell? ⟨g, o, none⟩ = some c0) (d1 : wo.cell? ⟨g, o + 1, none⟩ = some c1) (d2 : wo.cell? ⟨g, o + 2, none⟩ = some c2)
    {W : World} (hu : Upd (own lv) F' W w2) (hW : W.heap = (wo.alloc ob).heap) :
    w2.cell? ⟨r0, 2, none⟩ = some sl ∧ w2.cell? ⟨r0 + 1 + 1, 2, none⟩ = some lv ∧ w2.frozen? ⟨r0 + 1 + 1, 2, none⟩ = false ∧ w2.cell? ⟨g, o, none⟩ = some c0 ∧ w2.cell? ⟨g, o + 1, none⟩ = some c1 ∧ w2.cell? ⟨g, o + 2, none⟩ = some c2 ∧ Blk w2 (r0 + 1 + 1) [.int .i64 cells, .int .i64 stack, lv] 31 := by
  have k0 := hu.fr.keep ((h0.alloc ob).go (w' := W) (by rw [hW])) (hs.ne h0 (by decide))
  have k2 := hu.fr.keep ((h2.alloc ob).go (w' := W) (by rw [hW])) (hs.ne h2 (by decide))
  have hgo : g < wo.heap.size := Nat.lt_of_lt_of_le hg hb.size
  have hbg : w2.heap[g]? = wo.heap[g]? := (hu.fr.block g (by rw [hW]; simp; omega) (fun hm => by have := hn g hm; omega)).trans (by rw [hW]; exact heap_alloc_old wo ob hgo)
  have e : ∀ j, w2.cell? ⟨g, j, none⟩ = wo.cell? ⟨g, j, none⟩ := fun j => World.cell?_of_block (w := wo) hbg
  exact ⟨by rw [k0.cell]; rfl, by rw [k2.cell]; rfl, k2.free 2, (e _).trans d0, (e _).trans d1, (e _).trans d2, k2⟩
def OwnR (cells stack : Int) (l : List AcI) (w : World) (e : Ending) (w' : World) : Prop :=
  ∃ v, e = .returned (.agg #[.int .i64 cells, .int .i64 stack, v]) ∧ Sl w' v 79 3 l.length (actsI l) ∧ Below w.heap.size w w' ∧ ∀ q ∈ own v, w.heap.size ≤ q

set_option maxRecDepth 100000 in
set_option maxHeartbeats 8000000 in
theorem law_own (cells stack : Int) (ad : Option Addr) (cap : Nat) (l : List AcI) (w : World) (hn : l.length ≤ 100000) (hv : InCells w ad l) :
    Calls Tryz.prog 12 #[.agg #[.int .i64 cells, .int .i64 stack, .slice ad l.length cap]] w (OwnR cells stack l w) := by
  obtain ⟨i0, hi, hz0, hz1, hz2⟩ := info_parts infoActR
  have HV := Lib.hid hv
  clear hv
  go_enter Tryz.func12, Tryz.ntmps12
  go_wp2_with (fail)
  obtain ⟨r0, hr0⟩ : ∃ r0, Hid (r0 = w.heap.size) := ⟨_, rfl⟩
  obtain ⟨wa, hwa⟩ : ∃ wa, wa = ((w.alloc (.cells #[.int .i64 cells, .int .i64 stack, .slice ad l.length cap] 25)).alloc (.cells #[.int .i64 0, .int .i64 0, .slice none 0 0] 31)).alloc (.cells #[.int .i64 cells, .int .i64 stack, .slice none 0 0] 31) := ⟨_, rfl⟩
  have HB0 : Hid (Blk wa r0 [.int .i64 cells, .int .i64 stack, .slice ad l.length cap] 25) := Lib.hid (by rw [hwa]; exact ((Blk.new' (c := [_, _, _]) hr0.out).alloc _).alloc _)
  have HB1 : Hid (Blk wa (r0 + 1) [.int .i64 0, .int .i64 0, .slice none 0 0] 31) := Lib.hid (by rw [hwa]; exact (Blk.new' (c := [_, _, _]) (by simp [hr0.out])).alloc _)
  have HB2 : Hid (Blk wa (r0 + 1 + 1) [.int .i64 cells, .int .i64 stack, .slice none 0 0] 31) := Lib.hid (by rw [hwa]; exact Blk.new' (c := [_, _, _]) (by simp [hr0.out]))
  have HBW : Hid (Below w.heap.size w wa) := Lib.hid (by rw [hwa]; exact (((Below.refl _ w).alloc (Nat.le_refl _) _).alloc (by simp) _).alloc (by simp; omega) _)
  rw [← hr0.out, ← hwa]
  clear hwa
  go_loopw [13, 4] (fun iv _ wr => ∃ (i : Nat) (lv : Value), iv = .int .i64 i ∧ i ≤ l.length ∧ Hid (Blk wr r0 [.int .i64 cells, .int .i64 stack, .slice ad l.length cap] 25) ∧ Hid (Blk wr (r0 + 1) [.int .i64 0, .int .i64 0, .slice none 0 0] 31) ∧
    Hid (Blk wr (r0 + 1 + 1) [.int .i64 cells, .int .i64 stack, lv] 31) ∧ Hid (Sl wr lv 79 3 i (actsI (l.take i))) ∧ Hid (Below w.heap.size w wr) ∧ Hid (∀ q ∈ own lv, w.heap.size ≤ q)) (fun iv _ _ => l.length - (RowKit.intOf iv).toNat)
  case atStart => exact ⟨0, _, rfl, by omega, HB0, HB1, HB2, Sl.nil _ _ _, HBW, Lib.hid (by simp [own, Value.ownBlock])⟩
  case round =>
    obtain ⟨i, lv, rfl, hil, HC0, HC1, HC2, HS, HB, HN⟩ := hrel
    have e1 : IntKind.i64.wrap ((i : Int) + 1) = (i : Int) + 1 := IntWalk.i64_in _ (by omega)
    have i00 : (0 : Int) ≤ (i : Int) := by omega
    rcases Nat.lt_or_ge i l.length with hlt | hge
    · have hlt' : (i : Int) < (l.length : Int) := by omega
      obtain ⟨a, ha⟩ : ∃ a, l[i]? = some a := ⟨_, List.getElem?_eq_getElem hlt⟩
      rcases HV.out with ⟨_, h⟩ | ⟨g, off, had, hcell⟩
      · rw [h] at hlt; simp at hlt
      subst had
      obtain ⟨hc0, hc1, hc2⟩ := actsI_get l i a ha
      have hkeep : ∀ j v, w.cell? ⟨g, j, none⟩ = some v → wr.cell? ⟨g, j, none⟩ = some v := fun j v h => by
        rw [World.cell?_of_block (w := w) (HB.out.block g (block_lt_of_cell h))]
        exact h
      have d0 := hkeep _ _ (hcell _ _ hc0)
      have d1 := hkeep _ _ (hcell _ _ hc1)
      have d2 := hkeep _ _ (hcell _ _ hc2)
      rw [← Nat.add_assoc] at d1 d2
      have HTK : Hid (l.take (i + 1) = l.take i ++ [a]) := Lib.hid (by
        obtain ⟨h1, h2⟩ := List.getElem?_eq_some_iff.1 ha
        rw [List.take_succ_eq_append_getElem h1, h2])
      have cb := HC0.out.cell
      have cr := HC2.out.cell
      obtain ⟨wo, rfl⟩ : ∃ wo : World, wo = wr := ⟨_, rfl⟩
      have NB := Lib.hid (HS.out.ne HC2.out (by decide))
      have GLT := Lib.hid (block_lt_of_cell (hcell _ _ hc0))
      have HM1 : Hid (i + 1 ≤ maxLen) := Lib.hid (by unfold maxLen; omega)
      have ne1 : r0 ≠ r0 + 1 + 1 := by omega
      have ne2 : g ≠ r0 + 1 + 1 := by have h1 : g < w.heap.size := GLT.out; have h2 := hr0.out; omega
      have HM2 : Hid ((i + 1) * 32 ≤ 140737488355328) := Lib.hid (by omega)
      have HOK := Lib.hid (fun F' w2 W (hU2 : Upd (own lv) F' W w2) (hW : W.heap = (wo.alloc (.cells #[.int .i64 a.kind, .int .i64 a.n, .string a.s] 79)).heap) => own_keep (o := off + i * 3) HC0.out HC2.out HS.out HB.out HN.out GLT.out d0 d1 d2 hU2 hW)
      clear hkeep hc0 hc1 hc2 ha hcell
      go_wp2_with (fail)
      have HSS : Hid ((fun w' => w'.cell? ⟨r0, 2, none⟩ = some (.slice (some ⟨g, off, none⟩) l.length cap) ∧ w'.cell? ⟨r0 + 1 + 1, 2, none⟩ = some lv ∧ w'.cell? ⟨g, off + i * 3, none⟩ = some (.int .i64 a.kind) ∧ w'.cell? ⟨g, off + i * 3 + 1, none⟩ = some (.int .i64 a.n) ∧ w'.cell? ⟨g, off + i * 3 + 2, none⟩ = some (.string a.s)) wo.drew) := Lib.hid ⟨by show wo.cell? _ = _; rw [cb]; rfl, by show wo.cell? _ = _; rw [cr]; rfl, d0, d1, d2⟩
      clear cb cr d0 d1 d2
      refine wp_region_noPanic ?_
      refine wp_region_z (fun w' => w'.cell? ⟨r0, 2, none⟩ = some (.slice (some ⟨g, off, none⟩) l.length cap) ∧ w'.cell? ⟨r0 + 1 + 1, 2, none⟩ = some lv ∧ w'.cell? ⟨g, off + i * 3, none⟩ = some (.int .i64 a.kind) ∧ w'.cell? ⟨g, off + i * 3 + 1, none⟩ = some (.int .i64 a.n) ∧ w'.cell? ⟨g, off + i * 3 + 2, none⟩ = some (.string a.s)) 24 (by kernel_rfl) ?_
      change wpAnyZ _ _ _ _ _ _ _ _ _ (World.drew _)
      refine wpAnyZ_take (i := 0) (v := ?_) rfl (by kernel_rfl) (by kernel_rfl) (by kernel_rfl) (by kernel_rfl) (fun _ _ _ h => h) HSS.out (by rfl) ?_ ?_
      rotate_left
      · intro w' hS
        obtain ⟨s1, s2, s3, s4, s5⟩ := hS
        go_simp
        try with_reducible rfl
      refine wpAnyZ_take (i := 1) (v := ?_) rfl (by kernel_rfl) (by kernel_rfl) (by kernel_rfl) (by kernel_rfl) (fun _ _ _ h => h) HSS.out (by rfl) ?_ ?_
      rotate_left
      · intro w' hS
        obtain ⟨s1, s2, s3, s4, s5⟩ := hS
        go_simp
        try with_reducible rfl
      refine wpAnyZ_take (i := 2) (v := ?_) rfl (by kernel_rfl) (by kernel_rfl) (by kernel_rfl) (by kernel_rfl) (fun _ _ _ h => h) HSS.out (by rfl) ?_ ?_
      rotate_left
      · intro w' hS
        obtain ⟨s1, s2, s3, s4, s5⟩ := hS
        go_simp
        try with_reducible rfl
      refine wpAnyZ_take (i := 3) (v := ?_) rfl (by kernel_rfl) (by kernel_rfl) (by kernel_rfl) (by kernel_rfl) (fun _ _ _ h => h) HSS.out (by rfl) ?_ ?_
      rotate_left
      · intro w' hS
        obtain ⟨s1, s2, s3, s4, s5⟩ := hS
        go_simp
        try with_reducible rfl
      refine wpAnyZ_take (i := 4) (v := ?_) rfl (by kernel_rfl) (by kernel_rfl) (by kernel_rfl) (by kernel_rfl) (fun _ _ _ h => h) HSS.out (by rfl) ?_ ?_
      rotate_left
      · intro w' hS
        obtain ⟨s1, s2, s3, s4, s5⟩ := hS
        go_simp
        try with_reducible rfl
      refine wpAnyZ_take (i := 5) (v := ?_) rfl (by kernel_rfl) (by kernel_rfl) (by kernel_rfl) (by kernel_rfl) (fun _ _ _ h => h) HSS.out (by rfl) ?_ ?_
      rotate_left
      · intro w' hS
        obtain ⟨s1, s2, s3, s4, s5⟩ := hS
        go_simp
        try with_reducible rfl
      refine wpAnyZ_take (i := 6) (v := ?_) rfl (by kernel_rfl) (by kernel_rfl) (by kernel_rfl) (by kernel_rfl) (fun _ _ _ h => h) HSS.out (by rfl) ?_ ?_
      rotate_left
      · intro w' hS
        obtain ⟨s1, s2, s3, s4, s5⟩ := hS
        go_simp
        try with_reducible rfl
      refine wpAnyZ_take (i := 7) (v := ?_) rfl (by kernel_rfl) (by kernel_rfl) (by kernel_rfl) (by kernel_rfl) (fun _ _ _ h => h) HSS.out (by rfl) ?_ ?_
      rotate_left
      · intro w' hS
        obtain ⟨s1, s2, s3, s4, s5⟩ := hS
        go_simp
        try with_reducible rfl
      refine wpAnyZ_take (i := 8) (v := ?_) rfl (by kernel_rfl) (by kernel_rfl) (by kernel_rfl) (by kernel_rfl) (fun _ _ _ h => h) HSS.out (by rfl) ?_ ?_
      rotate_left
      · intro w' hS
        obtain ⟨s1, s2, s3, s4, s5⟩ := hS
        go_simp
        try with_reducible rfl
      refine wpAnyZ_take (i := 9) (v := ?_) rfl (by kernel_rfl) (by kernel_rfl) (by kernel_rfl) (by kernel_rfl) (fun _ _ _ h => h) HSS.out (by rfl) ?_ ?_
      rotate_left
      · intro w' hS
        obtain ⟨s1, s2, s3, s4, s5⟩ := hS
        go_simp
        try with_reducible rfl
      refine wpAnyZ_take (i := 10) (v := ?_) rfl (by kernel_rfl) (by kernel_rfl) (by kernel_rfl) (by kernel_rfl) (fun _ _ _ h => h) HSS.out (by rfl) ?_ ?_
      rotate_left
      · intro w' hS
        obtain ⟨s1, s2, s3, s4, s5⟩ := hS
        go_simp
        try with_reducible rfl
      refine wpAnyZ_take (i := 11) (v := ?_) rfl (by kernel_rfl) (by kernel_rfl) (by kernel_rfl) (by kernel_rfl) (fun _ _ _ h => h) HSS.out (by rfl) ?_ ?_
      rotate_left
      · intro w' hS
        obtain ⟨s1, s2, s3, s4, s5⟩ := hS
        go_simp
        try with_reducible rfl
      refine wpAnyZ_take (i := 12) (v := ?_) rfl (by kernel_rfl) (by kernel_rfl) (by kernel_rfl) (by kernel_rfl) (fun _ _ _ h => h) HSS.out (by rfl) ?_ ?_
      rotate_left
      · intro w' hS
        obtain ⟨s1, s2, s3, s4, s5⟩ := hS
        go_simp
        try with_reducible rfl
      refine wpAnyZ_take (i := 13) (v := ?_) rfl (by kernel_rfl) (by kernel_rfl) (by kernel_rfl) (by kernel_rfl) (fun _ _ _ h => h) HSS.out (by rfl) ?_ ?_
      rotate_left
      · intro w' hS
        obtain ⟨s1, s2, s3, s4, s5⟩ := hS
        go_simp
        try with_reducible rfl
      refine wpAnyZ_take (i := 14) (v := ?_) rfl (by kernel_rfl) (by kernel_rfl) (by kernel_rfl) (by kernel_rfl) (fun _ _ _ h => h) HSS.out (by rfl) ?_ ?_
      rotate_left
      · intro w' hS
        obtain ⟨s1, s2, s3, s4, s5⟩ := hS
        go_simp
        try with_reducible rfl
      refine wpAnyZ_take (i := 15) (v := ?_) rfl (by kernel_rfl) (by kernel_rfl) (by kernel_rfl) (by kernel_rfl) (fun _ _ _ h => h) HSS.out (by rfl) ?_ ?_
      rotate_left
      · intro w' hS
        obtain ⟨s1, s2, s3, s4, s5⟩ := hS
        go_simp
        try with_reducible rfl
      refine wpAnyZ_take (i := 16) (v := ?_) rfl (by kernel_rfl) (by kernel_rfl) (by kernel_rfl) (by kernel_rfl) (fun _ _ _ h => h) HSS.out (by rfl) ?_ ?_
      rotate_left
      · intro w' hS
        obtain ⟨s1, s2, s3, s4, s5⟩ := hS
        go_simp
        try with_reducible rfl
      refine wpAnyZ_take (i := 17) (v := ?_) rfl (by kernel_rfl) (by kernel_rfl) (by kernel_rfl) (by kernel_rfl) (fun _ _ _ h => h) HSS.out (by rfl) ?_ ?_
      rotate_left
      · intro w' hS
        obtain ⟨s1, s2, s3, s4, s5⟩ := hS
        go_simp
        try with_reducible rfl
      refine wpAnyZ_take (i := 18) (v := ?_) rfl (by kernel_rfl) (by kernel_rfl) (by kernel_rfl) (by kernel_rfl) (fun _ _ _ h => h) HSS.out (by rfl) ?_ ?_
      rotate_left
      · intro w' hS
        obtain ⟨s1, s2, s3, s4, s5⟩ := hS
        go_simp
        try with_reducible rfl
      refine wpAnyZ_take (i := 19) (v := ?_) rfl (by kernel_rfl) (by kernel_rfl) (by kernel_rfl) (by kernel_rfl) (fun _ _ _ h => h) HSS.out (by rfl) ?_ ?_
      rotate_left
      · intro w' hS
        obtain ⟨s1, s2, s3, s4, s5⟩ := hS
        go_simp
        try with_reducible rfl
      refine wpAnyZ_take (i := 20) (v := ?_) rfl (by kernel_rfl) (by kernel_rfl) (by kernel_rfl) (by kernel_rfl) (fun _ _ _ h => h) HSS.out (by rfl) ?_ ?_
      rotate_left
      · intro w' hS
        obtain ⟨s1, s2, s3, s4, s5⟩ := hS
        go_simp
        try with_reducible rfl
      refine wpAnyZ_one (i := 21) (by kernel_rfl) (wpOp_step rfl (fun K hK => ?_))
      go_simp
      refine hK _ _ ⟨fun _ => ?_, ?_⟩
      · obtain ⟨k1, k2, k3, k4, k5, k6, _⟩ := HOK.out _ _ _ (Upd.refl _ _) rfl
        exact ⟨k1, k2, k4, k5, k6⟩
      clear hK K
      refine wpAnyZ_one (i := 22) (by kernel_rfl) (wpOp_step rfl (fun K hK => ?_))
      refine step_app rfl (.tmp 17) (.tmp 37) 29 rfl 79 i0 (.agg #[.int .i64 0, .int .i64 0, .string ⟨#[]⟩]) 3 32 ulActR hi hz0 hz1 hz2 rfl lv i (actsI (l.take i)) rfl ?q1 ⟨wo.heap.size, 0, none⟩ 1 1 (acI a) rfl rfl ?q2 (acI_one a) HM1.out HM2.out ?q3
      case q1 => exact HS.out.drew.alloc _
      case q2 => exact cell_newL rfl
      intro ad' cap' w2 hs2 hU2
      have HS2 := Lib.hid hs2
      have HU2 := Lib.hid hU2
      obtain ⟨k1, k2, k3, k4, k5, k6, hb2⟩ := HOK.out _ _ _ hU2 rfl
      have HB2 := Lib.hid hb2
      refine hK _ _ ⟨fun _ => ⟨k1, k2, k4, k5, k6⟩, ?_⟩
      clear hK K hs2 hU2 hb2
      refine wpAnyZ_one (i := 23) (by kernel_rfl) (wpOp_step rfl (fun K hK => ?_))
      go_simp
      refine hK _ _ ⟨fun _ => ⟨k1, k2, k4, k5, k6⟩, ?_⟩
      clear hK K k1 k4 k5 k6
      refine wpAnyZ_one (i := 24) (by kernel_rfl) (wpOp_step rfl (fun K hK => ?_))
      go_simp
      refine hK _ _ ⟨fun h => absurd rfl h, ?_⟩
      clear hK K
      refine wpAnyZ_done (by kernel_rfl) ?_ _
      refine NoPanic.normal ?_
      go_wp2_with (fail)
      go_roundw
      case rel =>
        have b1 : Below w.heap.size w (wo.drew.alloc (.cells #[.int .i64 a.kind, .int .i64 a.n, .string a.s] 79)) := (below_drewN HB.out 1).alloc HB.out.size _
        refine ⟨i + 1, .slice ad' (i + 1) cap', by go_num, by omega, ?_, ?_, HB2.out.set 2 _, ?_, (b1.trans (HU2.out.fr.below b1.size HN.out)).setCell (by have := hr0.out; simp; omega) _, ?_⟩
        · exact (HU2.out.fr.keep (HC0.out.drew.alloc _) (HS.out.ne HC0.out (by decide))).other ne1 _ _
        · exact (HU2.out.fr.keep (HC1.out.drew.alloc _) (HS.out.ne HC1.out (by decide))).other (by omega) _ _
        · rw [HTK.out, actsI_snoc]
          exact HS2.out.set (HS2.out.ne HB2.out (by decide)) _ _
        · intro q hq
          rcases HU2.out.new q hq with h | h
          · exact HN.out q h
          · exact Nat.le_trans b1.size h
      case measure => simp [RowKit.intOf]; omega
    · have hlt' : ¬ (i : Int) < (l.length : Int) := by omega
      have cb := HC0.out.cell
      have cr := HC2.out.cell
      have cz := HC1.out.cell
      have fz := HC1.out.free
      have hne : r0 + 1 ≠ r0 + 1 + 1 := by omega
      have HE : Hid (l.take i = l ∧ i = l.length) := Lib.hid ⟨List.take_of_length_le hge, by omega⟩
      obtain ⟨al, cl, hlv, _⟩ := HS.out.form
      subst hlv
      go_wp2_with (fail)
      refine ⟨rfl, _, ret_r1 rfl rfl (((HC1.out.set 0 _).set 1 _).set 2 _), ?_⟩
      have hr := hr0.out
      refine ⟨_, rfl, ?_, ((HB.out.setCell (by simp; omega) _).setCell (by simp; omega) _).setCell (by simp; omega) _, HN.out⟩
      have h1 := ((HS.out.set (HS.out.ne HC1.out (by decide)) 0 (.int .i64 cells)).set (HS.out.ne HC1.out (by decide)) 1 (.int .i64 stack)).set (HS.out.ne HC1.out (by decide)) 2 (.slice al i cl)
      rw [HE.out.1] at h1
      rw [← HE.out.2]
      exact h1

end Go.Proofs.YtnmpckdggddpoaaGreatDoor

namespace Go.Proofs.YtnmpckdggddpoaaGreatDoor
set_option linter.unusedSimpArgs false
set_option linter.unusedVariables false
open Go.RowKit Go.Shelf Go.Lib

set_option maxRecDepth 100000 in
set_option maxHeartbeats 4000000 in
theorem ref_Same_eq (cells stack : Int) (v1 v2 : Value) (l : List AcI) (w : World) (hn : l.length ≤ 100000) (h1 : Sl w v1 79 3 l.length (actsI l)) (h2 : Sl w v2 79 3 l.length (actsI l)) :
    Calls Tryz.prog 11 #[.agg #[.int .i64 cells, .int .i64 stack, v1], .agg #[.int .i64 cells, .int .i64 stack, v2]] w fun e w' => e = .returned (.bool true) ∧ Below w.heap.size w w' := by
  obtain ⟨ad1, cap1, hv1, hc1, _, _⟩ := h1.form
  obtain ⟨ad2, cap2, hv2, hc2, _, _⟩ := h2.form
  subst hv1
  subst hv2
  have H1 := Lib.hid h1
  have H2 := Lib.hid h2
  clear h1 h2
  by_cases hl0 : l = []
  · subst hl0
    obtain ⟨r0, hr0⟩ : ∃ r0, Hid (r0 = w.heap.size) := ⟨_, rfl⟩
    go_enter Tryz.func11, Tryz.ntmps11
    go_wp2_with (fail)
    obtain ⟨wa, hwa⟩ : ∃ wa, wa = (w.alloc (.cells #[.int .i64 cells, .int .i64 stack, .slice ad1 0 cap1] 31)).alloc (.cells #[.int .i64 cells, .int .i64 stack, .slice ad2 0 cap2] 31) := ⟨_, rfl⟩
    have B1 : Hid (Blk wa r0 [.int .i64 cells, .int .i64 stack, .slice ad1 0 cap1] 31) := Lib.hid (by rw [hwa]; exact (Blk.new' (c := [_, _, _]) hr0.out).alloc _)
    have BB : Hid (Below w.heap.size w wa) := Lib.hid (by rw [hwa]; exact ((Below.refl _ w).alloc (Nat.le_refl _) _).alloc (by simp) _)
    rw [← hr0.out, ← hwa]
    clear hwa
    go_loopw [5] (fun iv wr => iv = .int .i64 0 ∧ wr = wa) (fun _ _ => 0)
    case atStart => exact ⟨rfl, rfl⟩
    case round =>
      obtain ⟨rfl, rfl⟩ := hrel
      have cs := B1.out.cell
      go_wp2_with (fail)
      go_ret
      exact ⟨rfl, BB.out⟩
  · have hpos : 0 < l.length := List.length_pos_iff.2 hl0
    obtain ⟨r0, hr0⟩ : ∃ r0, Hid (r0 = w.heap.size) := ⟨_, rfl⟩
    obtain ⟨g1, o1, e1⟩ : ∃ g o, ad1 = some ⟨g, o, none⟩ := by
      rcases H1.out.2 with ⟨_, h⟩ | ⟨g, off, cap, cur, h, _⟩
      · omega
      · simp only [Value.slice.injEq] at h; exact ⟨g, off, h.1⟩
    obtain ⟨g2, o2, e2⟩ : ∃ g o, ad2 = some ⟨g, o, none⟩ := by
      rcases H2.out.2 with ⟨_, h⟩ | ⟨g, off, cap, cur, h, _⟩
      · omega
      · simp only [Value.slice.injEq] at h; exact ⟨g, off, h.1⟩
    subst e1
    subst e2
    go_enter Tryz.func11, Tryz.ntmps11
    go_wp2_with (fail)
    obtain ⟨wa, hwa⟩ : ∃ wa, wa = (w.alloc (.cells #[.int .i64 cells, .int .i64 stack, .slice (some ⟨g1, o1, none⟩) l.length cap1] 31)).alloc (.cells #[.int .i64 cells, .int .i64 stack, .slice (some ⟨g2, o2, none⟩) l.length cap2] 31) := ⟨_, rfl⟩
    have B1 : Hid (Blk wa r0 [.int .i64 cells, .int .i64 stack, .slice (some ⟨g1, o1, none⟩) l.length cap1] 31) := Lib.hid (by rw [hwa]; exact (Blk.new' (c := [_, _, _]) hr0.out).alloc _)
    have B2 : Hid (Blk wa (r0 + 1) [.int .i64 cells, .int .i64 stack, .slice (some ⟨g2, o2, none⟩) l.length cap2] 31) := Lib.hid (by rw [hwa]; exact Blk.new' (c := [_, _, _]) (by simp [hr0.out]))
    have S1 := Lib.hid ((by rw [hwa]; exact (H1.out.alloc _).alloc _) : Sl wa (.slice (some ⟨g1, o1, none⟩) l.length cap1) 79 3 l.length (actsI l))
    have S2 := Lib.hid ((by rw [hwa]; exact (H2.out.alloc _).alloc _) : Sl wa (.slice (some ⟨g2, o2, none⟩) l.length cap2) 79 3 l.length (actsI l))
    have BB : Hid (Below w.heap.size w wa) := Lib.hid (by rw [hwa]; exact ((Below.refl _ w).alloc (Nat.le_refl _) _).alloc (by simp) _)
    rw [← hr0.out, ← hwa]
    clear hwa
    go_loopw [5] (fun iv wr => ∃ i n : Nat, iv = .int .i64 i ∧ i ≤ l.length ∧ wr = wa.drewN n) (fun iv _ => l.length - (RowKit.intOf iv).toNat)
    case atStart => exact ⟨0, 0, rfl, by omega, rfl⟩
    case round =>
      obtain ⟨i, n, rfl, hi, rfl⟩ := hrel
      have cs := B1.out.cell
      have cr := B2.out.cell
      have i00 : (0 : Int) ≤ (i : Int) := by omega
      rcases Nat.lt_or_ge i l.length with hlt | hge
      · obtain ⟨y, hy⟩ : ∃ y, l[i]? = some y := ⟨_, List.getElem?_eq_getElem hlt⟩
        obtain ⟨a0, a1, a2⟩ := actsI_get l i y hy
        obtain ⟨_, _, f1, _, _, _, k1⟩ := S1.out.form
        obtain ⟨_, _, f2, _, _, _, k2⟩ := S2.out.form
        simp only [Value.slice.injEq] at f1 f2
        have d0 := (k1 _ f1.1.symm).2 _ _ a0
        have d1 := (k1 _ f1.1.symm).2 _ _ a1
        have d2 := (k1 _ f1.1.symm).2 _ _ a2
        have d3 := (k2 _ f2.1.symm).2 _ _ a0
        have d4 := (k2 _ f2.1.symm).2 _ _ a1
        have d5 := (k2 _ f2.1.symm).2 _ _ a2
        rw [add_at] at d0 d1 d2 d3 d4 d5
        rw [← Nat.add_assoc] at d1 d2 d4 d5
        have e0 : IntKind.i64.wrap ((i : Int) + 1) = (i : Int) + 1 := IntWalk.i64_in _ (by omega)
        have hlt' : (i : Int) < (l.length : Int) := by omega
        clear a0 a1 a2 hy k1 k2 f1 f2
        go_wp2_with (fail)
        go_quiet (fail)
        go_wp2_with (fail)
        go_roundw
        case rel => exact ⟨i + 1, n + nq, by go_num, by omega, by first | rfl | trivial | exact World.drewN_drewN _ _ _⟩
        case measure => simp [RowKit.intOf]; omega
      · have hlt' : ¬ (i : Int) < (l.length : Int) := by omega
        go_wp2_with (fail)
        go_ret
        exact ⟨rfl, below_drewN BB.out n⟩

set_option maxRecDepth 100000 in
set_option maxHeartbeats 4000000 in
theorem ref_Parse (s : ByteArray) (w : World) (hs : s.size ≤ 9223372036854775807) : Calls Tryz.prog 10 #[.string s] w (RPar w (parseS s.data.toList)) := by
  by_cases hbig : 65536 < s.size
  · have hv : parseS s.data.toList = .inl (4, 0) := by unfold parseS; rw [if_pos (by rw [size_toList]; exact hbig)]
    rw [hv]
    have hgt : (65536 : Int) < (s.size : Int) := by omega
    clear hbig hv
    obtain ⟨r0, hr0⟩ : ∃ r0, Hid (r0 = w.heap.size) := ⟨_, rfl⟩
    go_enter Tryz.func10, Tryz.ntmps10
    go_wp2_with (fail)
    refine ⟨rfl, _, ret_rs (r0 := w.heap.size) rfl rfl ((Blk.new' (c := [_, _, _]) rfl).alloc _), ⟨rfl, ?_⟩⟩
    exact ((Below.refl _ w).alloc (Nat.le_refl _) _).alloc (by simp) _
  · by_cases hl : (linesG [] s.data.toList).length ≤ 1000
    · have hv : parseS s.data.toList = goS spNew 1 (linesG [] s.data.toList) := by unfold parseS; rw [if_neg (by rw [size_toList]; exact hbig), if_neg (by omega)]
      rw [hv]
      exact ref_Parse_go s w (by omega) (Lib.hid hl)
    · have hv : parseS s.data.toList = .inl (3, 0) := by unfold parseS; rw [if_neg (by rw [size_toList]; exact hbig), if_pos (by omega)]
      rw [hv]
      have hgt : ¬ (65536 : Int) < (s.size : Int) := by omega
      have HLn := Lib.hid (fun w => ref_lines s w (by omega))
      have hgt2 : (1000 : Int) < ((linesG [] s.data.toList).length : Int) := by omega
      obtain ⟨T, hT⟩ : ∃ T, Hid (linesG [] s.data.toList = T) := ⟨_, rfl⟩
      unfold LnR at HLn
      rw [hT.out] at HLn hgt2
      clear hbig hv hl
      go_enter Tryz.func10, Tryz.ntmps10
      go_wp2_with (fail)
      refine (HLn.out _).mono ?_
      rintro e w2 ⟨lsv, rfl, hS, hB, hN⟩
      obtain ⟨adl, capl, hlv, hlc, hlm, _⟩ := hS.form
      subst hlv
      have b0 : Below w.heap.size w w2 := (((Below.refl _ w).alloc (Nat.le_refl _) _).alloc (by simp) _).trans (hB.mono (by simp; omega))
      have k1 : Blk ((w.alloc (.cells #[.int .i64 0, .int .i64 0, .slice none 0 0] 31)).alloc (.cells #[.int .i64 0, .int .i64 0, .slice none 0 0] 31)) w.heap.size [.int .i64 0, .int .i64 0, .slice none 0 0] 31 := (Blk.new' (c := [_, _, _]) rfl).alloc _
      have k2 : Blk ((w.alloc (.cells #[.int .i64 0, .int .i64 0, .slice none 0 0] 31)).alloc (.cells #[.int .i64 0, .int .i64 0, .slice none 0 0] 31)) (w.heap.size + 1) [.int .i64 0, .int .i64 0, .slice none 0 0] 31 := Blk.new' (c := [_, _, _]) (by simp)
      have K1 := Lib.hid (blk_below k1 hB)
      have K2 := Lib.hid (blk_below k2 hB)
      have B0 := Lib.hid b0
      have c1 := K1.out.cell
      have f1 := K1.out.free
      have c2 := K2.out.cell
      clear hS hB hN k1 k2 b0 hlc hlm
      go_wp2_with (fail)
      refine ⟨rfl, _, ret_rs (r0 := w.heap.size) rfl rfl (((K1.out.set 0 _).set 1 _).set 2 _), ⟨rfl, ?_⟩⟩
      exact ((B0.out.setCell (Nat.le_refl _) _).setCell (Nat.le_refl _) _).setCell (Nat.le_refl _) _

end Go.Proofs.YtnmpckdggddpoaaGreatDoor

namespace Go.Proofs.YtnmpckdggddpoaaGreatDoor
set_option linter.unusedSimpArgs false
set_option linter.unusedVariables false
open Go.RowKit Go.Shelf Go.Lib

theorem step_len {p q : Sp} {x : List UInt8} (h : stepS p x = .inr q) : q.l.length ≤ p.l.length + 1 := by
  unfold stepS at h
  split at h
  · split at h
    · cases h
    · split at h
      · cases h
      · split at h
        · cases h
        · split at h <;> (cases h; exact Nat.le_succ _)
  · split at h
    · cases h
    · cases h; simp
theorem goS_len : ∀ (l : List (List UInt8)) (p q : Sp) (k : Nat), goS p k l = .inr q → q.l.length ≤ p.l.length + l.length
  | [], p, q, k, h => by cases h; simp
  | x :: l, p, q, k, h => by
    rw [goS_cons] at h
    cases hs : stepS p x with
    | inl e => rw [hs] at h; cases h
    | inr r =>
      rw [hs] at h
      have h1 := step_len hs
      have h2 := goS_len l r q (k + 1) h
      rw [List.length_cons]
      omega
theorem parse_len {t : List UInt8} {p : Sp} (h : parseS t = .inr p) : p.l.length ≤ 1000 := by
  unfold parseS at h
  split at h
  · cases h
  · split at h
    · cases h
    · have h1 := goS_len _ _ _ _ h
      have h2 : spNew.l.length = 0 := rfl
      omega

set_option maxRecDepth 100000 in
set_option maxHeartbeats 8000000 in
theorem law_parses (s : ByteArray) (B : Nat) (w : World) (hE : Env B w) (hs : s.size ≤ 9223372036854775807) :
    Calls Tryz.prog 3 #[.string s] w fun e w' => e = .returned (.bool true) ∧ Below w.heap.size w w' := by
  have HEn : Hid (∀ w', Below w.heap.size w w' → Env B w') := Lib.hid (fun w' h => hE.on (h.mono hE.le))
  have HAw := Lib.hid (law_awake B w hE)
  have HP1 := Lib.hid (fun w' h => sc_Parse s B w' h hs)
  have HP2 := Lib.hid (fun w' => ref_Parse s w' hs)
  clear hE
  cases hp : parseS s.data.toList with
  | inl ek =>
    obtain ⟨er, k⟩ := ek
    rw [hp] at HP1 HP2
    unfold ParR at HP1
    unfold RPar at HP2
    clear hp
    go_enter Tryz.func3, Tryz.ntmps3
    go_wp2_with (fail)
    refine HAw.out.mono ?_
    rintro e w1 ⟨rfl, hB⟩
    have HB := Lib.hid hB
    clear hB
    go_wp2_with (fail)
    refine (HP1.out _ (HEn.out _ HB.out)).mono ?_
    rintro e w2 ⟨rfl, hB2⟩
    have HB2 := Lib.hid (HB.out.trans (hB2.mono HB.out.size))
    clear hB2
    go_wp2_with (fail)
    refine (HP2.out _).mono ?_
    rintro e w3 ⟨rfl, hB3⟩
    have HB3 : Hid (Below w.heap.size w w3) := Lib.hid ((HB2.out.alloc HB2.out.size _).trans (hB3.mono (by have := HB2.out.size; simp; omega)))
    have HKS : Hid (Blk w3 w2.heap.size [.int .i64 0, .int .i64 0, .slice none 0 0] 25) := Lib.hid (blk_below (Blk.new' (c := [_, _, _]) rfl) hB3)
    have HF23 : Hid (Fr [] w2 w3) := Lib.hid ((fr_of_below (F := []) ((Below.refl _ w2).alloc (Nat.le_refl _) _)).then (fr_of_below hB3))
    have HS3 : Hid (Sl w3 (.slice none 0 0) 79 3 ([] : List AcI).length (actsI [])) := Lib.hid (Sl.nil _ _ _)
    have HNL : Hid (([] : List AcI).length ≤ 100000) := Lib.hid (by simp)
    have HO : Hid (∀ W, Fr [] w2 W → Calls Tryz.prog 12 #[.agg #[.int .i64 0, .int .i64 0, .slice none 0 0]] W (OwnR 0 0 [] W)) := Lib.hid (fun W _ => law_own 0 0 none 0 [] W (by simp) (.inl ⟨rfl, rfl⟩))
    clear hB3
    go_wp2_with (fail)
    have HKT : Hid (Blk (w3.alloc (.cells #[.int .i64 0, .int .i64 0, (.slice none 0 0)] 31)) w3.heap.size [.int .i64 0, .int .i64 0, (.slice none 0 0)] 31) := Lib.hid (Blk.new' (c := [_, _, _]) rfl)
    have HKS2 := Lib.hid (HKS.out.alloc (.cells #[.int .i64 0, .int .i64 0, (.slice none 0 0)] 31))
    have HFT : Hid (Fr [] w2 (w3.alloc (.cells #[.int .i64 0, .int .i64 0, (.slice none 0 0)] 31)).drew) := Lib.hid (HF23.out.then (fr_of_below (below_drewN ((Below.refl _ w3).alloc (Nat.le_refl _) (.cells #[.int .i64 0, .int .i64 0, (.slice none 0 0)] 31)) 1)))
    have HBT : Hid (Below w.heap.size w (w3.alloc (.cells #[.int .i64 0, .int .i64 0, (.slice none 0 0)] 31)).drew) := Lib.hid (below_drewN (HB3.out.alloc HB3.out.size _) 1)
    have HST : Hid (Sl (w3.alloc (.cells #[.int .i64 0, .int .i64 0, (.slice none 0 0)] 31)).drew (.slice none 0 0) 79 3 ([] : List AcI).length (actsI ([] : List AcI))) := Lib.hid (HS3.out.alloc _).drew
    have HOT := Lib.hid (HO.out _ HFT.out)
    have SIX : Hid (∀ W, Blk W w2.heap.size [.int .i64 0, .int .i64 0, (.slice none 0 0)] 25 → Blk W w3.heap.size [.int .i64 0, .int .i64 0, (.slice none 0 0)] 31 → W.cell? ⟨w2.heap.size, 0, none⟩ = some (.int .i64 0) ∧ W.cell? ⟨w2.heap.size, 1, none⟩ = some (.int .i64 0) ∧ W.cell? ⟨w2.heap.size, 2, none⟩ = some (.slice none 0 0) ∧ W.cell? ⟨w3.heap.size, 0, none⟩ = some (.int .i64 0) ∧ W.cell? ⟨w3.heap.size, 1, none⟩ = some (.int .i64 0) ∧ W.cell? ⟨w3.heap.size, 2, none⟩ = some (.slice none 0 0)) := Lib.hid (fun W h1 h2 => ⟨by rw [h1.cell]; rfl, by rw [h1.cell]; rfl, by rw [h1.cell]; rfl, by rw [h2.cell]; rfl, by rw [h2.cell]; rfl, by rw [h2.cell]; rfl⟩)
    obtain ⟨q1, q2, q3, q4, q5, q6⟩ := SIX.out _ HKS2.out.drew HKT.out.drew
    go_region_held3 (fun W => W.cell? ⟨w2.heap.size, 0, none⟩ = some (.int .i64 0) ∧ W.cell? ⟨w2.heap.size, 1, none⟩ = some (.int .i64 0) ∧ W.cell? ⟨w2.heap.size, 2, none⟩ = some (.slice none 0 0) ∧ W.cell? ⟨w3.heap.size, 0, none⟩ = some (.int .i64 0) ∧ W.cell? ⟨w3.heap.size, 1, none⟩ = some (.int .i64 0) ∧ W.cell? ⟨w3.heap.size, 2, none⟩ = some (.slice none 0 0)) (go_keep) (first
      | (go_at_call 12; (with_reducible refine HOT.out.mono ?_); rintro e wa ⟨v', rfl, hS', hB', hN'⟩; obtain ⟨x1, x2, x3, x4, x5, x6⟩ := SIX.out _ (blk_below HKS2.out.drew hB') (blk_below HKT.out.drew hB'); have HK1 := Lib.hid (blk_below HKS2.out.drew hB'); have HK2 := Lib.hid (blk_below HKT.out.drew hB'); have HSa := Lib.hid hS'; have HBa := Lib.hid (HBT.out.trans (hB'.mono HBT.out.size)); have HSb := Lib.hid (sl_fr HST.out (fr_of_below (F := []) hB') (by simp)); clear hS' hB' hN')
      | (go_at_call 11; (with_reducible refine (ref_Same_eq 0 0 v' (.slice none 0 0) ([] : List AcI) wa HNL.out HSa.out HSb.out).mono ?_); rintro e wb ⟨rfl, hBb⟩; obtain ⟨y1, y2, y3, y4, y5, y6⟩ := SIX.out _ (blk_below HK1.out hBb) (blk_below HK2.out hBb); have HBb := Lib.hid (HBa.out.trans (hBb.mono HBa.out.size)); clear hBb))
    all_goals
      go_wp2_with (fail)
      go_ret
      exact ⟨rfl, HBb.out⟩
  | inr p =>
    have hpl := parse_len hp
    rw [hp] at HP1 HP2
    unfold ParR at HP1
    unfold RPar at HP2
    clear hp
    obtain ⟨l, hl⟩ : ∃ l : List AcI, Hid (l = p.l.map ofAc) := ⟨_, rfl⟩
    have hla : Hid (acts p.l = actsI l ∧ p.l.length = l.length) := Lib.hid ⟨by rw [hl.out, acts_of], by rw [hl.out, List.length_map]⟩
    have HNL : Hid (l.length ≤ 100000) := Lib.hid (by rw [← hla.out.2]; omega)
    go_enter Tryz.func3, Tryz.ntmps3
    go_wp2_with (fail)
    refine HAw.out.mono ?_
    rintro e w1 ⟨rfl, hB⟩
    have HB := Lib.hid hB
    clear hB
    go_wp2_with (fail)
    refine (HP1.out _ (HEn.out _ HB.out)).mono ?_
    rintro e w2 ⟨⟨v1, rfl, hS1, hN1⟩, hB2⟩
    have HB2 := Lib.hid (HB.out.trans (hB2.mono HB.out.size))
    have HS1 := Lib.hid hS1
    obtain ⟨ad1, cap1, hv1, _⟩ := hS1.form
    subst hv1
    clear hB2 hS1 hN1
    go_wp2_with (fail)
    refine (HP2.out _).mono ?_
    rintro e w3 ⟨⟨v2, rfl, hS2, hN2⟩, hB3⟩
    obtain ⟨ad2, cap2, hv2, _⟩ := hS2.form
    subst hv2
    have HB3 : Hid (Below w.heap.size w w3) := Lib.hid ((HB2.out.alloc HB2.out.size _).trans (hB3.mono (by have := HB2.out.size; simp; omega)))
    have HKS : Hid (Blk w3 w2.heap.size [.int .i64 (p.cells : Nat), .int .i64 (p.stack : Nat), .slice ad1 p.l.length cap1] 25) := Lib.hid (blk_below (Blk.new' (c := [_, _, _]) rfl) hB3)
    have HF23 : Hid (Fr [] w2 w3) := Lib.hid ((fr_of_below (F := []) ((Below.refl _ w2).alloc (Nat.le_refl _) _)).then (fr_of_below hB3))
    have HS3 : Hid (Sl w3 (.slice ad2 p.l.length cap2) 79 3 l.length (actsI l)) := Lib.hid (by rw [← hla.out.1, ← hla.out.2]; exact hS2)
    have HO : Hid (∀ W, Fr [] w2 W → Calls Tryz.prog 12 #[.agg #[.int .i64 (p.cells : Nat), .int .i64 (p.stack : Nat), .slice ad1 p.l.length cap1]] W (OwnR (p.cells : Nat) (p.stack : Nat) l W)) := Lib.hid (fun W hW => by
      have h1 := sl_fr HS1.out hW (by simp)
      have h2 := inCells_sl h1
      rw [← hl.out] at h2
      have h3 := law_own (p.cells : Nat) (p.stack : Nat) ad1 cap1 l W HNL.out h2
      rw [← hla.out.2] at h3
      exact h3)
    clear hB3 hS2 hN2
    go_wp2_with (fail)
    have HKT : Hid (Blk (w3.alloc (.cells #[.int .i64 (p.cells : Nat), .int .i64 (p.stack : Nat), (.slice ad2 p.l.length cap2)] 31)) w3.heap.size [.int .i64 (p.cells : Nat), .int .i64 (p.stack : Nat), (.slice ad2 p.l.length cap2)] 31) := Lib.hid (Blk.new' (c := [_, _, _]) rfl)
    have HKS2 := Lib.hid (HKS.out.alloc (.cells #[.int .i64 (p.cells : Nat), .int .i64 (p.stack : Nat), (.slice ad2 p.l.length cap2)] 31))
    have HFT : Hid (Fr [] w2 (w3.alloc (.cells #[.int .i64 (p.cells : Nat), .int .i64 (p.stack : Nat), (.slice ad2 p.l.length cap2)] 31)).drew) := Lib.hid (HF23.out.then (fr_of_below (below_drewN ((Below.refl _ w3).alloc (Nat.le_refl _) (.cells #[.int .i64 (p.cells : Nat), .int .i64 (p.stack : Nat), (.slice ad2 p.l.length cap2)] 31)) 1)))
    have HBT : Hid (Below w.heap.size w (w3.alloc (.cells #[.int .i64 (p.cells : Nat), .int .i64 (p.stack : Nat), (.slice ad2 p.l.length cap2)] 31)).drew) := Lib.hid (below_drewN (HB3.out.alloc HB3.out.size _) 1)
    have HST : Hid (Sl (w3.alloc (.cells #[.int .i64 (p.cells : Nat), .int .i64 (p.stack : Nat), (.slice ad2 p.l.length cap2)] 31)).drew (.slice ad2 p.l.length cap2) 79 3 l.length (actsI l)) := Lib.hid (HS3.out.alloc _).drew
    have HOT := Lib.hid (HO.out _ HFT.out)
    have SIX : Hid (∀ W, Blk W w2.heap.size [.int .i64 (p.cells : Nat), .int .i64 (p.stack : Nat), (.slice ad1 p.l.length cap1)] 25 → Blk W w3.heap.size [.int .i64 (p.cells : Nat), .int .i64 (p.stack : Nat), (.slice ad2 p.l.length cap2)] 31 → W.cell? ⟨w2.heap.size, 0, none⟩ = some (.int .i64 (p.cells : Nat)) ∧ W.cell? ⟨w2.heap.size, 1, none⟩ = some (.int .i64 (p.stack : Nat)) ∧ W.cell? ⟨w2.heap.size, 2, none⟩ = some (.slice ad1 p.l.length cap1) ∧ W.cell? ⟨w3.heap.size, 0, none⟩ = some (.int .i64 (p.cells : Nat)) ∧ W.cell? ⟨w3.heap.size, 1, none⟩ = some (.int .i64 (p.stack : Nat)) ∧ W.cell? ⟨w3.heap.size, 2, none⟩ = some (.slice ad2 p.l.length cap2)) := Lib.hid (fun W h1 h2 => ⟨by rw [h1.cell]; rfl, by rw [h1.cell]; rfl, by rw [h1.cell]; rfl, by rw [h2.cell]; rfl, by rw [h2.cell]; rfl, by rw [h2.cell]; rfl⟩)
    obtain ⟨q1, q2, q3, q4, q5, q6⟩ := SIX.out _ HKS2.out.drew HKT.out.drew
    go_region_held3 (fun W => W.cell? ⟨w2.heap.size, 0, none⟩ = some (.int .i64 (p.cells : Nat)) ∧ W.cell? ⟨w2.heap.size, 1, none⟩ = some (.int .i64 (p.stack : Nat)) ∧ W.cell? ⟨w2.heap.size, 2, none⟩ = some (.slice ad1 p.l.length cap1) ∧ W.cell? ⟨w3.heap.size, 0, none⟩ = some (.int .i64 (p.cells : Nat)) ∧ W.cell? ⟨w3.heap.size, 1, none⟩ = some (.int .i64 (p.stack : Nat)) ∧ W.cell? ⟨w3.heap.size, 2, none⟩ = some (.slice ad2 p.l.length cap2)) (go_keep) (first
      | (go_at_call 12; (with_reducible refine HOT.out.mono ?_); rintro e wa ⟨v', rfl, hS', hB', hN'⟩; obtain ⟨x1, x2, x3, x4, x5, x6⟩ := SIX.out _ (blk_below HKS2.out.drew hB') (blk_below HKT.out.drew hB'); have HK1 := Lib.hid (blk_below HKS2.out.drew hB'); have HK2 := Lib.hid (blk_below HKT.out.drew hB'); have HSa := Lib.hid hS'; have HBa := Lib.hid (HBT.out.trans (hB'.mono HBT.out.size)); have HSb := Lib.hid (sl_fr HST.out (fr_of_below (F := []) hB') (by simp)); clear hS' hB' hN')
      | (go_at_call 11; (with_reducible refine (ref_Same_eq (p.cells : Nat) (p.stack : Nat) v' (.slice ad2 p.l.length cap2) l wa HNL.out HSa.out HSb.out).mono ?_); rintro e wb ⟨rfl, hBb⟩; obtain ⟨y1, y2, y3, y4, y5, y6⟩ := SIX.out _ (blk_below HK1.out hBb) (blk_below HK2.out hBb); have HBb := Lib.hid (HBa.out.trans (hBb.mono HBa.out.size)); clear hBb))
    all_goals
      go_wp2_with (fail)
      go_ret
      exact ⟨rfl, HBb.out⟩

end Go.Proofs.YtnmpckdggddpoaaGreatDoor
