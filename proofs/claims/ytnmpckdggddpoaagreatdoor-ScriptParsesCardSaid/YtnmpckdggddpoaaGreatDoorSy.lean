/- script.Parse. -/
import Derived.Test.YtnmpckdggddpoaaGreatDoorSx
import Derived.Test.YtnmpckdggddpoaaGreatDoorSd
import Derived.Shelf.RegionOpen
namespace Go.Proofs.YtnmpckdggddpoaaGreatDoor
set_option linter.unusedSimpArgs false
set_option linter.unusedVariables false
open Go.RowKit Go.Shelf Go.Lib
attribute [local go_sem] Oper.semAt_some

theorem numL_split : ∀ (l : List (List UInt8)) (k : Nat) (pre rest : List (Nat × List UInt8)) (x : Nat × List UInt8), numL k l = pre ++ x :: rest → x.1 = k + pre.length ∧ l = pre.map Prod.snd ++ x.2 :: rest.map Prod.snd
  | [], k, pre, rest, x, h => by simp [numL] at h
  | y :: l, k, [], rest, x, h => by
    simp only [numL, List.nil_append, List.cons.injEq] at h
    obtain ⟨rfl, h2⟩ := h
    refine ⟨rfl, ?_⟩
    have : ∀ (l : List (List UInt8)) (k : Nat), (numL k l).map Prod.snd = l := fun l => by
      induction l with
      | nil => intro k; rfl
      | cons x r ih => intro k; simp [numL, ih]
    rw [← h2, this]; rfl
  | y :: l, k, p :: pre, rest, x, h => by
    simp only [numL, List.cons_append, List.cons.injEq] at h
    obtain ⟨rfl, h2⟩ := h
    obtain ⟨h3, h4⟩ := numL_split l (k + 1) pre rest x h2
    exact ⟨by rw [h3]; simp; omega, by rw [h4]; rfl⟩
theorem numL_snd (l : List (List UInt8)) : ∀ (k : Nat), (numL k l).map Prod.snd = l := by
  induction l with
  | nil => intro k; rfl
  | cons x r ih => intro k; simp [numL, ih]
theorem numL_prefix {l : List (List UInt8)} {k : Nat} {pre : List (Nat × List UInt8)} (h : pre <+: numL k l) : pre.map Prod.snd <+: l := by
  obtain ⟨t, ht⟩ := h
  refine ⟨t.map Prod.snd, ?_⟩
  rw [← List.map_append, ht, numL_snd]

def acts (l : List Ac) : List Value := l.flatMap acCells
theorem acts_len (l : List Ac) : (acts l).length = l.length * 3 := by
  induction l with
  | nil => rfl
  | cons a l ih => simp [acts, acCells] at *; omega
theorem acts_snoc (l : List Ac) (a : Ac) : acts (l ++ [a]) = acts l ++ acCells a := by simp [acts]
theorem acts_one (l : List Ac) : ∀ u ∈ acts l, u.oneCell' = true := by
  intro u hu
  simp only [acts, List.mem_flatMap, acCells] at hu
  obtain ⟨a, _, hu⟩ := hu
  simp only [List.mem_cons, List.not_mem_nil, or_false] at hu
  rcases hu with rfl | rfl | rfl <;> rfl
theorem acCells_one (a : Ac) : ∀ u ∈ acCells a, u.oneCell' = true := by
  intro u hu
  simp only [acCells, List.mem_cons, List.not_mem_nil, or_false] at hu
  rcases hu with rfl | rfl | rfl <;> rfl
theorem ulAct : Tryz.prog.underlying 23 = some (.slice 55) := by kernel_rfl
theorem infoAct : (Tryz.prog.info? 55).map (fun i => (i.zero, i.size, i.bytes)) = some (some (.agg #[.int .i64 0, .int .i64 0, .string ⟨#[]⟩]), 3, 32) := by kernel_rfl

/-- What Parse tells. -/
def ParR (w : World) (res : (Nat × Nat) ⊕ Sp) (e : Ending) (w' : World) : Prop :=
  (match res with
   | .inl (er, k) => e = .returned (.tuple #[.agg #[.int .i64 0, .int .i64 0, .slice none 0 0], .int .i64 (er : Nat), .int .i64 (k : Nat)])
   | .inr p => ∃ v, e = .returned (.tuple #[.agg #[.int .i64 (p.cells : Nat), .int .i64 (p.stack : Nat), v], .int .i64 0, .int .i64 0]) ∧ Sl w' v 55 3 p.l.length (acts p.l) ∧ ∀ k ∈ own v, w.heap.size ≤ k) ∧ Below w.heap.size w w'

theorem sc_lines (s : ByteArray) (w : World) : Calls Tryz.prog 25 #[.string s] w fun e w' => e = .returned (.func (.func 51) #[] #[.pointer (some ⟨w.heap.size, 0, none⟩)]) ∧ w' = w.alloc (.cells #[.string s] 9) := by
  have hmf : ∀ (fn : Fn) (first cap : Array Value) (w : World), (Instr.makeFunc fn first cap).run Tryz.prog w = .ok (.func fn first cap) w := fun _ _ _ _ => rfl
  go_enter Tryz.func25, Tryz.ntmps25
  go_wp2_with (fail)
  go_ret
  exact ⟨rfl, rfl⟩

theorem blk_grown {W W' : World} {row : Option Nat} {b : Nat} {c : List Value} {t : TypeId} (h : Blk W b c t) (hg : W.grownBy W' row) (hr : ∀ r, row = some r → ∃ o : Obj, W.heap[r]? = some o ∧ o.isCells = false) : Blk W' b c t :=
  h.go (grownBy_keeps_cells hg hr h rfl)
theorem sl_grown {W W' : World} {row : Option Nat} {v : Value} {e : TypeId} {size n : Nat} {xs : List Value} (h : Sl W v e size n xs) (hg : W.grownBy W' row) (hr : ∀ r, row = some r → ∃ o : Obj, W.heap[r]? = some o ∧ o.isCells = false) : Sl W' v e size n xs := by
  refine h.go fun k hk => ?_
  rcases h.2 with ⟨rfl, _⟩ | ⟨g, off, cap, cur, rfl, hgg, _⟩
  · simp [own, Value.ownBlock] at hk
  · simp [own, Value.ownBlock] at hk
    subst hk
    exact grownBy_keeps_cells hg hr hgg rfl

theorem below3 (w : World) (a b c : Obj) : Below w.heap.size w (((w.alloc a).alloc b).alloc c) :=
  (((Below.refl _ w).alloc (Nat.le_refl _) _).alloc (by simp) _).alloc (by simp; omega) _
abbrev nilScr : List Value := [.int .i64 0, .int .i64 0, .slice none 0 0]
/-- How it stands between two lines. -/
structure PI (w : World) (n0 : Nat) (p : Sp) (v : Value) (W : World) : Prop where
  n0e : n0 = w.heap.size
  r2 : Blk W n0 nilScr 25
  r3 : Blk W (n0 + 1) [.int .i64 0] 26
  r4 : Blk W (n0 + 1 + 1) [.int .i64 0] 3
  out : Blk W (n0 + 1 + 1 + 1) [.int .i64 (p.cells : Nat), .int .i64 (p.stack : Nat), v] 25
  fc : Blk W (n0 + 1 + 1 + 1 + 1) [.bool p.sc] 4
  fs : Blk W (n0 + 1 + 1 + 1 + 1 + 1) [.bool p.ss] 4
  sl : Sl W v 55 3 p.l.length (acts p.l)
  nw : ∀ k ∈ own v, w.heap.size ≤ k
  nbt : n0 + 1 + 1 + 1 + 1 + 1 + 1 ∉ own v
  below : Below w.heap.size w W
structure PX (w : World) (n0 : Nat) (er k : Nat) (W : World) : Prop where
  n0e : n0 = w.heap.size
  r2 : Blk W n0 nilScr 25
  r3 : Blk W (n0 + 1) [.int .i64 (er : Nat)] 26
  r4 : Blk W (n0 + 1 + 1) [.int .i64 (k : Nat)] 3
  below : Below w.heap.size w W
theorem PI.grown {w W W' : World} {n0 : Nat} {p : Sp} {v : Value} {row : Option Nat} {B : Nat} (h : PI w n0 p v W) (hB : w.heap.size ≤ B) (hg : W.grownBy W' row) (hr : ∀ r, row = some r → B ≤ r ∧ ∃ o : Obj, W.heap[r]? = some o ∧ o.isCells = false) : PI w n0 p v W' :=
  have hr' := fun r e => (hr r e).2
  ⟨h.n0e, blk_grown h.r2 hg hr', blk_grown h.r3 hg hr', blk_grown h.r4 hg hr', blk_grown h.out hg hr', blk_grown h.fc hg hr', blk_grown h.fs hg hr', sl_grown h.sl hg hr', h.nw, h.nbt, h.below.grown hg h.below.size (fun k e => Nat.le_trans hB (hr k e).1)⟩
theorem PX.grown {w W W' : World} {n0 er k : Nat} {row : Option Nat} {B : Nat} (h : PX w n0 er k W) (hB : w.heap.size ≤ B) (hg : W.grownBy W' row) (hr : ∀ r, row = some r → B ≤ r ∧ ∃ o : Obj, W.heap[r]? = some o ∧ o.isCells = false) : PX w n0 er k W' :=
  have hr' := fun r e => (hr r e).2
  ⟨h.n0e, blk_grown h.r2 hg hr', blk_grown h.r3 hg hr', blk_grown h.r4 hg hr', h.below.grown hg h.below.size (fun k e => Nat.le_trans hB (hr k e).1)⟩
theorem PI.setT {w W : World} {n0 : Nat} {p : Sp} {v : Value} (h : PI w n0 p v W) (x : Value) : PI w n0 p v (W.setCell ⟨n0 + 1 + 1 + 1 + 1 + 1 + 1, 0, none⟩ x) :=
  ⟨h.n0e, h.r2.other (by omega) _ _, h.r3.other (by omega) _ _, h.r4.other (by omega) _ _, h.out.other (by omega) _ _, h.fc.other (by omega) _ _, h.fs.other (by omega) _ _, h.sl.set h.nbt _ _, h.nw, h.nbt, h.below.setCell (p := ⟨n0 + 1 + 1 + 1 + 1 + 1 + 1, 0, none⟩) (by have := h.n0e; show w.heap.size ≤ n0 + 1 + 1 + 1 + 1 + 1 + 1; omega) _⟩
theorem PI.drewN {w W : World} {n0 : Nat} {p : Sp} {v : Value} (h : PI w n0 p v W) (m : Nat) : PI w n0 p v (W.drewN m) :=
  ⟨h.n0e, h.r2, h.r3, h.r4, h.out, h.fc, h.fs, h.sl, h.nw, h.nbt, below_drewN h.below m⟩
def ParI (w : World) (n0 : Nat) (pre : List (Nat × List UInt8)) (W : World) : Prop := ∃ p v, goS spNew 1 (pre.map Prod.snd) = .inr p ∧ p.l.length ≤ pre.length ∧ PI w n0 p v W
def ParX (w : World) (n0 : Nat) (c : Code) (pre : List (Nat × List UInt8)) (W : World) : Prop := c = .ret ∧ ∃ er k, goS spNew 1 (pre.map Prod.snd) = .inl (er, k) ∧ PX w n0 er k W

theorem linesG_mem : ∀ (l cur x : List UInt8), x ∈ linesG cur l → x.length ≤ cur.length + l.length
  | [], cur, x, h => by
    unfold linesG at h
    split at h
    · cases h
    · simp only [List.mem_singleton] at h; subst h; simp
  | b :: l, cur, x, h => by
    rw [linesG_cons] at h
    split at h
    · rcases List.mem_cons.1 h with rfl | h
      · simp
      · have := linesG_mem l [] x h; simp at *; omega
    · have := linesG_mem l _ x h; simp at *; omega
theorem wpListIn_app {F : Fence} {nF : Nat} {P : Program} (w : World) {ops : Array Oper} {rest : List Oper} {o : Oper} {a : Act} {Q : Exit → Act → World → Prop} (hgd : o.guard = none) (s x : Operand) (t : TypeId)
    (ho : o.op = .call { callee := .builtin .append, args := #[s, x], argTypes := #[t, t] })
    (e : TypeId) (i : TypeInfo) (z : Value) (size bytes : Nat) (ht : P.underlying t = some (.slice e)) (hi : P.info? e = some i) (hz : i.zero = some z)
    (hsize : i.size = size) (hby : i.bytes = bytes) (hzs : z.cells.size = size)
    (v : Value) (n : Nat) (xs : List Value) (hs : a.eval s = v) (hown : Sl w v e size n xs)
    (ad : Addr) (m c : Nat) (news : List Value) (hx : a.eval x = .slice (some ad) m c) (hl : news.length = m * size) (hnews : ∀ j u, news[j]? = some u → w.cell? (ad.add j) = some u) (h1 : ∀ u ∈ news, u.oneCell' = true)
    (h63 : n + m ≤ maxLen) (hbytes : (n + m) * bytes ≤ 140737488355328)
    (h : ∀ ad' cap' w', Sl w' (.slice ad' (n + m) cap') e size (n + m) (xs ++ news) → Upd (own v) (own (.slice ad' (n + m) cap')) w w' → wpListIn F nF P ops Q rest (a.put o.dst (.slice ad' (n + m) cap')) w') : wpListIn F nF P ops Q (o :: rest) a w := by
  refine wpListIn_plain hgd fun K hK' => ?_
  obtain ⟨v', w', hr, h2, h3⟩ := run_app (P := P) w t o.type e i z size bytes ht hi hz hsize hby hzs v n xs hown ad m c news hl hnews h1 h63 hbytes
  obtain ⟨ad', cap', rfl, _⟩ := h2.form
  unfold Oper.wpIn
  refine ⟨?_, ?_⟩
  · simp [Oper.about, ho, resolve, Target.leads, Sem.run_pure]
  · rw [Oper.semAt_plain F _ _ (by rw [ho]; intro c hc'; cases hc')]
    simp [execOp, ho, resolve, invoke, builtin, hs, hx, hr, Result.andThen]
    exact hK' _ _ (h ad' cap' w' h2 h3)
theorem PI.fr0 {w W W' : World} {n0 : Nat} {p : Sp} {v : Value} (h : PI w n0 p v W) (hf : Fr [] W W') : PI w n0 p v W' :=
  ⟨h.n0e, hf.keep h.r2 (by simp), hf.keep h.r3 (by simp), hf.keep h.r4 (by simp), hf.keep h.out (by simp), hf.keep h.fc (by simp), hf.keep h.fs (by simp), sl_fr h.sl hf (by simp), h.nw, h.nbt, h.below.trans (hf.below h.below.size (by simp))⟩
theorem keeps_fr0 {W W' : World} (B : Nat) (hf : Fr [] W W') : KeepsFrom B W W' := ⟨hf.size, fun k o _ hk _ => (hf.block k (Array.getElem?_eq_some_iff.1 hk).1 (by simp)).trans hk⟩
theorem keeps_fr {F : List Nat} {W W' : World} (B : Nat) (hf : Fr F W W') (hF : ∀ k ∈ F, ∃ c t f, W.heap[k]? = some (.cells c t f)) : KeepsFrom B W W' := ⟨hf.size, fun k o _ hk ho => (hf.block k (Array.getElem?_eq_some_iff.1 hk).1 (fun hm => by
  obtain ⟨c, t, f, h⟩ := hF k hm
  rw [hk] at h; cases h; cases ho)).trans hk⟩
theorem sl_cells {w : World} {v : Value} {e : TypeId} {size n : Nat} {xs : List Value} (h : Sl w v e size n xs) : ∀ k ∈ own v, ∃ c t f, w.heap[k]? = some (.cells c t f) := by
  intro k hk
  rcases h.2 with ⟨rfl, _⟩ | ⟨g, off, cap, cur, rfl, hgg, _⟩
  · simp [own, Value.ownBlock] at hk
  · simp [own, Value.ownBlock] at hk
    subst hk
    exact ⟨_, _, _, hgg⟩
theorem goS_snoc {pre : List (Nat × List UInt8)} {p : Sp} (h : goS spNew 1 (pre.map Prod.snd) = .inr p) (k : Nat) (x : List UInt8) (hk : k = 1 + pre.length) :
    goS spNew 1 ((pre ++ [(k, x)]).map Prod.snd) = (match stepS p x with | .inl e => .inl (e, k) | .inr q => .inr q) := by
  rw [List.map_append, goS_app, h]
  simp only [List.map_cons, List.map_nil, List.length_map]
  rw [goS_cons, ← hk]
  cases stepS p x <;> rfl
abbrev KpB (n0 : Nat) : World → World → Prop := fun A B => B.heap[n0 + 1 + 1 + 1 + 1 + 1 + 1]? = A.heap[n0 + 1 + 1 + 1 + 1 + 1 + 1]?
theorem ret_fin {w W w2 : World} {n0 B er : Nat} {p : Sp} {v : Value} {pre : List (Nat × List UInt8)} {k : Nat} {x : List UInt8} (hP : PI w n0 p v W) (hf : Fr [] W w2) (hg : goS spNew 1 (pre.map Prod.snd) = .inr p) (hk : k = 1 + pre.length) (hs : stepS p x = .inl er) :
    KeepsFrom B W (((((w2.setCell ⟨n0, 0, none⟩ (.int .i64 0)).setCell ⟨n0, 1, none⟩ (.int .i64 0)).setCell ⟨n0, 2, none⟩ (.slice none 0 0)).setCell ⟨n0 + 1, 0, none⟩ (.int .i64 (er : Nat))).setCell ⟨n0 + 1 + 1, 0, none⟩ (.int .i64 (k : Nat))) ∧
    ParX w n0 .ret (pre ++ [(k, x)]) (((((w2.setCell ⟨n0, 0, none⟩ (.int .i64 0)).setCell ⟨n0, 1, none⟩ (.int .i64 0)).setCell ⟨n0, 2, none⟩ (.slice none 0 0)).setCell ⟨n0 + 1, 0, none⟩ (.int .i64 (er : Nat))).setCell ⟨n0 + 1 + 1, 0, none⟩ (.int .i64 (k : Nat))) := by
  have h2 := hP.fr0 hf
  refine ⟨(keeps_fr0 B hf).trans ((((((KeepsOthers.setCell _ _ _).trans (KeepsOthers.setCell _ _ _)).trans (KeepsOthers.setCell _ _ _)).trans (KeepsOthers.setCell _ _ _)).trans (KeepsOthers.setCell _ _ _)).from B), rfl, er, k, ?_, h2.n0e, ?_, ?_, ?_, ?_⟩
  · rw [goS_snoc hg k x hk, hs]
  · exact ((((h2.r2.set 0 _).set 1 _).set 2 _).other (by omega) _ _).other (by omega) _ _
  · exact ((((h2.r3.other (by omega) _ _).other (by omega) _ _).other (by omega) _ _).set 0 _).other (by omega) _ _
  · exact ((((h2.r4.other (by omega) _ _).other (by omega) _ _).other (by omega) _ _).other (by omega) _ _).set 0 _
  · have hw : w.heap.size ≤ n0 := by rw [h2.n0e]; exact Nat.le_refl _
    exact ((((h2.below.setCell (p := ⟨n0, 0, none⟩) hw _).setCell (p := ⟨n0, 1, none⟩) hw _).setCell (p := ⟨n0, 2, none⟩) hw _).setCell (p := ⟨n0 + 1, 0, none⟩) (Nat.le_succ_of_le hw) _).setCell (p := ⟨n0 + 1 + 1, 0, none⟩) (Nat.le_succ_of_le (Nat.le_succ_of_le hw)) _
set_option maxHeartbeats 1000000 in
/-- A setting was read: cell j of the script, flag block g. -/
theorem set_fin {w W w2 : World} {n0 B : Nat} {p q : Sp} {v : Value} {pre : List (Nat × List UInt8)} {k : Nat} {x : List UInt8} {m : Nat} (j g : Nat) (hP : PI w n0 p v W) (hf : Fr [] W w2) (hW : n0 + 1 + 1 + 1 + 1 + 1 + 1 < W.heap.size) (hg : goS spNew 1 (pre.map Prod.snd) = .inr p) (hpl : p.l.length ≤ pre.length) (hk : k = 1 + pre.length) (hs : stepS p x = .inr q)
    (hj : (j = 0 ∧ g = n0 + 1 + 1 + 1 + 1 ∧ q = { p with cells := m, sc := true }) ∨ (j = 1 ∧ g = n0 + 1 + 1 + 1 + 1 + 1 ∧ q = { p with stack := m, ss := true })) :
    KeepsFrom B W ((w2.setCell ⟨n0 + 1 + 1 + 1, j, none⟩ (.int .i64 (m : Nat))).setCell ⟨g, 0, none⟩ (.bool true)) ∧
    KpB n0 W ((w2.setCell ⟨n0 + 1 + 1 + 1, j, none⟩ (.int .i64 (m : Nat))).setCell ⟨g, 0, none⟩ (.bool true)) ∧
    ParI w n0 (pre ++ [(k, x)]) ((w2.setCell ⟨n0 + 1 + 1 + 1, j, none⟩ (.int .i64 (m : Nat))).setCell ⟨g, 0, none⟩ (.bool true)) := by
  have h2 := hP.fr0 hf
  have hw : w.heap.size ≤ n0 := by rw [h2.n0e]; exact Nat.le_refl _
  have o1 := h2.sl.ne h2.out (by decide)
  have o2 := h2.sl.ne h2.fc (by decide)
  have o3 := h2.sl.ne h2.fs (by decide)
  refine ⟨(keeps_fr0 B hf).trans (((KeepsOthers.setCell _ _ _).trans (KeepsOthers.setCell _ _ _)).from B), ?_, ?_⟩
  · show (World.setCell _ _ _).heap[_]? = _
    rw [Below.heap_setCell _ _ _ _ (by show _ ≠ g; rcases hj with ⟨_, h, _⟩ | ⟨_, h, _⟩ <;> omega), Below.heap_setCell _ _ _ _ (by show _ ≠ n0 + 1 + 1 + 1; omega)]
    exact hf.block _ hW (by simp)
  · rcases hj with ⟨rfl, rfl, rfl⟩ | ⟨rfl, rfl, rfl⟩
    · refine ⟨{ p with cells := m, sc := true }, v, by rw [goS_snoc hg k x hk, hs], by show p.l.length ≤ _; simp; omega, ?_⟩
      exact ⟨h2.n0e, (h2.r2.other (by omega) _ _).other (by omega) _ _, (h2.r3.other (by omega) _ _).other (by omega) _ _, (h2.r4.other (by omega) _ _).other (by omega) _ _, (h2.out.set 0 _).other (by omega) _ _, (h2.fc.other (by omega) _ _).set 0 _, (h2.fs.other (by omega) _ _).other (by omega) _ _, (h2.sl.set o1 _ _).set o2 _ _, h2.nw, h2.nbt,
        (h2.below.setCell (p := ⟨n0 + 1 + 1 + 1, 0, none⟩) (by show w.heap.size ≤ n0 + 1 + 1 + 1; omega) _).setCell (p := ⟨n0 + 1 + 1 + 1 + 1, 0, none⟩) (by show w.heap.size ≤ n0 + 1 + 1 + 1 + 1; omega) _⟩
    · refine ⟨{ p with stack := m, ss := true }, v, by rw [goS_snoc hg k x hk, hs], by show p.l.length ≤ _; simp; omega, ?_⟩
      exact ⟨h2.n0e, (h2.r2.other (by omega) _ _).other (by omega) _ _, (h2.r3.other (by omega) _ _).other (by omega) _ _, (h2.r4.other (by omega) _ _).other (by omega) _ _, (h2.out.set 1 _).other (by omega) _ _, (h2.fc.other (by omega) _ _).other (by omega) _ _, (h2.fs.other (by omega) _ _).set 0 _, (h2.sl.set o1 _ _).set o3 _ _, h2.nw, h2.nbt,
        (h2.below.setCell (p := ⟨n0 + 1 + 1 + 1, 1, none⟩) (by show w.heap.size ≤ n0 + 1 + 1 + 1; omega) _).setCell (p := ⟨n0 + 1 + 1 + 1 + 1 + 1, 0, none⟩) (by show w.heap.size ≤ n0 + 1 + 1 + 1 + 1 + 1; omega) _⟩
set_option maxHeartbeats 1000000 in
/-- An act was read. -/
theorem act_fin {w W w2 w4 : World} {n0 B : Nat} {p : Sp} {v v' : Value} {a : Ac} {pre : List (Nat × List UInt8)} {k : Nat} {x : List UInt8} (hP : PI w n0 p v W) (hf : Fr [] W w2) (hW : n0 + 1 + 1 + 1 + 1 + 1 + 1 < W.heap.size) (hg : goS spNew 1 (pre.map Prod.snd) = .inr p) (hpl : p.l.length ≤ pre.length) (hk : k = 1 + pre.length) (hs : stepS p x = .inr { p with l := p.l ++ [a] })
    (hU : Upd (own v) (own v') w2 w4) (hS : Sl w4 v' 55 3 (p.l.length + 1) (acts p.l ++ acCells a)) :
    KeepsFrom B W (w4.setCell ⟨n0 + 1 + 1 + 1, 2, none⟩ v') ∧ KpB n0 W (w4.setCell ⟨n0 + 1 + 1 + 1, 2, none⟩ v') ∧ ParI w n0 (pre ++ [(k, x)]) (w4.setCell ⟨n0 + 1 + 1 + 1, 2, none⟩ v') := by
  have h2 := hP.fr0 hf
  have hw : w.heap.size ≤ n0 := by rw [h2.n0e]; exact Nat.le_refl _
  have q1 := h2.sl.ne h2.r2 (by decide)
  have q2 := h2.sl.ne h2.r3 (by decide)
  have q3 := h2.sl.ne h2.r4 (by decide)
  have q4 := h2.sl.ne h2.out (by decide)
  have q5 := h2.sl.ne h2.fc (by decide)
  have q6 := h2.sl.ne h2.fs (by decide)
  have hnew : ∀ q ∈ own v', w.heap.size ≤ q ∧ q ≠ n0 + 1 + 1 + 1 + 1 + 1 + 1 := fun q hq => by
    rcases hU.new q hq with h | h
    · exact ⟨h2.nw q h, fun e => h2.nbt (by rw [← e]; exact h)⟩
    · have h3 := hf.size
      have h4 := h2.below.size
      omega
  have o4 := (hU.fr.keep h2.out q4)
  have o5 := hS.ne o4 (by decide)
  refine ⟨((keeps_fr0 B hf).trans (keeps_fr B hU.fr (sl_cells h2.sl))).trans ((KeepsOthers.setCell _ _ _).from B), ?_, { p with l := p.l ++ [a] }, v', by rw [goS_snoc hg k x hk, hs], by simp; omega, h2.n0e, ?_, ?_, ?_, ?_, ?_, ?_, ?_, fun q hq => (hnew q hq).1, fun hm => (hnew _ hm).2 rfl, ?_⟩
  · show (World.setCell _ _ _).heap[_]? = _
    rw [Below.heap_setCell _ _ _ _ (by show _ ≠ n0 + 1 + 1 + 1; omega), hU.fr.block _ (Nat.lt_of_lt_of_le hW hf.size) h2.nbt]
    exact hf.block _ hW (by simp)
  · exact (hU.fr.keep h2.r2 q1).other (by omega) _ _
  · exact (hU.fr.keep h2.r3 q2).other (by omega) _ _
  · exact (hU.fr.keep h2.r4 q3).other (by omega) _ _
  · exact o4.set 2 _
  · exact (hU.fr.keep h2.fc q5).other (by omega) _ _
  · exact (hU.fr.keep h2.fs q6).other (by omega) _ _
  · have := hS.set o5 2 v'
    rw [← acts_snoc] at this
    simpa using this
  · exact (h2.below.trans (hU.fr.below h2.below.size h2.nw)).setCell (p := ⟨n0 + 1 + 1 + 1, 2, none⟩) (by show w.heap.size ≤ n0 + 1 + 1 + 1; omega) _

/-! ### a setting's line -/
theorem step_bad {p : Sp} {x : List UInt8} (hw : (cutS 32 x).1 = wCells ∨ (cutS 32 x).1 = wStack) (h : numB (cutS 32 x).2.1 = none) : stepS p x = .inl 5 := by
  unfold stepS; rw [if_pos hw, h]
theorem step_late {p : Sp} {x : List UInt8} {n : Nat} (hw : (cutS 32 x).1 = wCells ∨ (cutS 32 x).1 = wStack) (h : numB (cutS 32 x).2.1 = some n)
    (hc : p.l ≠ [] ∨ ((cutS 32 x).1 = wCells ∧ p.sc = true) ∨ ((cutS 32 x).1 = wStack ∧ p.ss = true)) : stepS p x = .inl 5 := by
  unfold stepS; rw [if_pos hw, h]; exact if_pos hc
theorem ws_ne : wStack ≠ wCells := by decide
theorem cs_ne : wCells ≠ wStack := by decide
theorem step_sc_range {p : Sp} {x : List UInt8} {n : Nat} (hw : (cutS 32 x).1 = wCells) (h : numB (cutS 32 x).2.1 = some n) (hl : p.l = []) (hf : p.sc = false) (hr : n < 2 ∨ 32768 < n) : stepS p x = .inl 2 := by
  unfold stepS; rw [if_pos (.inl hw), h]
  refine (if_neg ?_).trans (if_pos (.inl ⟨hw, hr⟩))
  rintro (h | ⟨_, h⟩ | ⟨h, _⟩)
  · exact h hl
  · rw [hf] at h; cases h
  · rw [hw] at h; exact cs_ne h
theorem step_ss_range {p : Sp} {x : List UInt8} {n : Nat} (hw : (cutS 32 x).1 = wStack) (h : numB (cutS 32 x).2.1 = some n) (hl : p.l = []) (hf : p.ss = false) (hr : n < 1 ∨ 8192 < n) : stepS p x = .inl 2 := by
  unfold stepS; rw [if_pos (.inr hw), h]
  refine (if_neg ?_).trans (if_pos (.inr ⟨hw, hr⟩))
  rintro (h | ⟨h, _⟩ | ⟨_, h⟩)
  · exact h hl
  · rw [hw] at h; exact ws_ne h
  · rw [hf] at h; cases h
theorem step_sc {p : Sp} {x : List UInt8} {n : Nat} (hw : (cutS 32 x).1 = wCells) (h : numB (cutS 32 x).2.1 = some n) (hl : p.l = []) (hf : p.sc = false) (hr : ¬ (n < 2 ∨ 32768 < n)) : stepS p x = .inr { p with cells := n, sc := true } := by
  unfold stepS; rw [if_pos (.inl hw), h]
  refine (if_neg ?_).trans ((if_neg ?_).trans (if_pos hw))
  · rintro (h | ⟨_, h⟩ | ⟨h, _⟩)
    · exact h hl
    · rw [hf] at h; cases h
    · rw [hw] at h; exact cs_ne h
  · rintro (⟨_, h⟩ | ⟨h, _⟩)
    · exact hr h
    · rw [hw] at h; exact cs_ne h
theorem step_ss {p : Sp} {x : List UInt8} {n : Nat} (hw : (cutS 32 x).1 = wStack) (h : numB (cutS 32 x).2.1 = some n) (hl : p.l = []) (hf : p.ss = false) (hr : ¬ (n < 1 ∨ 8192 < n)) : stepS p x = .inr { p with stack := n, ss := true } := by
  unfold stepS; rw [if_pos (.inr hw), h]
  refine (if_neg ?_).trans ((if_neg ?_).trans (if_neg (by rw [hw]; exact ws_ne)))
  · rintro (h | ⟨h, _⟩ | ⟨_, h⟩)
    · exact h hl
    · rw [hw] at h; exact ws_ne h
    · rw [hf] at h; cases h
  · rintro (⟨h, _⟩ | ⟨_, h⟩)
    · rw [hw] at h; exact ws_ne h
    · exact hr h

end Go.Proofs.YtnmpckdggddpoaaGreatDoor
