/- Rows of bytes that began as a string's: what is appended, and the string of them. -/
import Derived.Test.YtnmpckdggddpoaaGreatDoorTb
import Derived.Laws.IdiomStrings
namespace Go.Proofs.YtnmpckdggddpoaaGreatDoor
set_option linter.unusedSimpArgs false
set_option linter.unusedVariables false
open Go.RowKit Go.Shelf Go.Lib

theorem run_storeCells_atT (P : Program) (g o : Nat) (t : TypeId) (fz : Nat × Nat) : ∀ (vs : List Value) (i : Nat) (cur : Array Value) (w : World), w.heap[g]? = some (.cells cur t fz) → (fz.2 = 0 ∨ cur.size ≤ fz.1) → o + i + vs.length ≤ cur.size → (∀ v ∈ vs, v.oneCell' = true) →
    (storeCells ⟨g, o, none⟩ vs i).run P w = .ok () (w.setRow g (cur.toList.take (o + i) ++ vs ++ cur.toList.drop (o + i + vs.length)).toArray)
  | [], i, cur, w, hg, _, _, _ => by
    simp only [storeCells, List.append_nil, List.length_nil, Nat.add_zero, List.take_append_drop, Array.toArray_toList]
    rw [setRow_self w g cur t fz hg]
    rfl
  | v :: rest, i, cur, w, hg, hfz, hl, h1 => by
    have hi : o + i < cur.size := by simp at hl; omega
    have hadd : (⟨g, o, none⟩ : Addr).add i = ⟨g, o + i, none⟩ := by unfold Addr.add; split <;> simp_all
    have hcell : w.cell? ⟨g, o + i, none⟩ = some cur[o + i] := by simp [World.cell?, hg, hi]
    have hfro : w.frozen? ⟨g, o + i, none⟩ = false := by
      obtain ⟨lo, hi'⟩ := fz
      simp only [World.frozen?, hg, Bool.and_eq_false_iff, decide_eq_false_iff_not]
      simp only at hfz
      omega
    have hst : (store ((⟨g, o, none⟩ : Addr).add i) v).run P w = .ok () (w.setRow g (cur.setIfInBounds (o + i) v)) := by
      rw [hadd, run_store P w _ v _ (h1 v (by simp)), hcell]
      simp [hfro, setCell_eq_setRow w g (o + i) cur t fz v hg]
    have ih := run_storeCells_atT P g o t fz rest (i + 1) (cur.setIfInBounds (o + i) v) (w.setRow g (cur.setIfInBounds (o + i) v)) (setRow_heap w g cur _ t _ hg) (by simpa using hfz) (by simp at hl ⊢; omega) (fun x hx => h1 x (by simp [hx]))
    simp only [storeCells, Sem.run_bind, hst, Result.andThen_ok, ih, setRow_setRow]
    congr 3
    have e := list_seg_step cur.toList (o + i) v rest (by simp at hl ⊢; omega)
    simpa [Array.toList_setIfInBounds, Nat.add_assoc] using e

/-- The slice v is the bytes l. -/
def Byt (w : World) (v : Value) (l : List UInt8) : Prop :=
  ∃ g cap cur fz, v = .slice (some ⟨g, 0, none⟩) l.length cap ∧ w.heap[g]? = some (.cells cur 5 fz) ∧ (fz.2 = 0 ∨ cur.size ≤ fz.1) ∧ l.length ≤ cap ∧ cap ≤ maxLen ∧ cap ≤ cur.size ∧ cur.toList.take l.length = cb8 l
theorem Byt.go {w w' : World} {v : Value} {l : List UInt8} (h : Byt w v l) (hs : ∀ k ∈ own v, w'.heap[k]? = w.heap[k]?) : Byt w' v l := by
  obtain ⟨g, cap, cur, fz, rfl, hg, h⟩ := h
  exact ⟨g, cap, cur, fz, rfl, (hs g (by simp [own, Value.ownBlock])).trans hg, h⟩
theorem Byt.lt {w : World} {v : Value} {l : List UInt8} (h : Byt w v l) : ∀ k ∈ own v, k < w.heap.size := by
  obtain ⟨g, cap, cur, fz, rfl, hg, h⟩ := h
  intro k hk
  simp [own, Value.ownBlock] at hk
  subst hk
  exact (Array.getElem?_eq_some_iff.1 hg).1
theorem Byt.form {w : World} {v : Value} {l : List UInt8} (h : Byt w v l) : ∃ g cap, v = .slice (some ⟨g, 0, none⟩) l.length cap := by
  obtain ⟨g, cap, cur, fz, rfl, hg, h⟩ := h
  exact ⟨g, cap, rfl⟩
theorem Byt.fr {F : List Nat} {w w' : World} {v : Value} {l : List UInt8} (h : Byt w v l) (hf : Fr F w w') (hF : ∀ k ∈ own v, k ∉ F) : Byt w' v l := h.go fun k hk => hf.block k (h.lt k hk) (hF k hk)
theorem Byt.ne {w : World} {v : Value} {l : List UInt8} (h : Byt w v l) {b : Nat} {c : List Value} {t : TypeId} (hb : Blk w b c t) (ht : t ≠ 5) : b ∉ own v := by
  obtain ⟨g, cap, cur, fz, rfl, hg, h⟩ := h
  intro hm
  simp [own, Value.ownBlock] at hm
  subst hm
  have := (show w.heap[b]? = _ from hb).symm.trans hg
  simp only [Option.some.injEq, Obj.cells.injEq] at this
  exact ht this.2.1
theorem Byt.cell {w : World} {l : List UInt8} {g n cap : Nat} (h : Byt w (.slice (some ⟨g, 0, none⟩) n cap) l) : n = l.length ∧ ∀ j u, (cb8 l)[j]? = some u → w.cell? ((⟨g, 0, none⟩ : Addr).add j) = some u := by
  obtain ⟨g', cap', cur, fz, h0, hg, hz, h1, h2, h3, h4⟩ := h
  simp only [Value.slice.injEq, Option.some.injEq, Addr.mk.injEq] at h0
  obtain ⟨⟨rfl, _⟩, hn, _⟩ := h0
  refine ⟨hn, fun j u hu => ?_⟩
  rw [add_at, Nat.zero_add, cell_of_row w g j cur _ fz hg]
  rw [← h4, List.getElem?_take] at hu
  split at hu
  · simpa using hu
  · cases hu
/-- []byte(s). -/
theorem byt_of_string (w : World) (s : ByteArray) (hs : s.size ≤ maxLen) : ∃ v w', (convert 9 80 (.string s)).run Tryz.prog w = .ok v w' ∧ Byt w' v s.data.toList ∧ Upd [] (own v) w w' := by
  refine ⟨_, _, run_bytes_of_string w _ _ 5 s ulStr ul8s ul8, ?_, ((Upd.refl [] w).drew.alloc _).sub fun k hk => .inr ?_⟩
  · have hge := grownCap_ge w s.size 0 5
    have hL : s.data.toList.length = s.size := Array.length_toList
    refine ⟨w.heap.size, _, _, _, by rw [hL], heap_alloc_new w.drew _, .inr (Nat.le_refl _), by rw [hL]; exact hge, grownCap_le_maxLen w _ _ _ hs, ?_, ?_⟩
    · simp only [bytesRow, Array.size_append, Array.size_map, Array.size_replicate]
      have : s.data.size = s.size := rfl
      omega
    · simp only [bytesRow, Array.toList_append, Array.toList_map]
      have e : s.data.toList.length = (cb8 s.data.toList).length := (cb8_len _).symm
      rw [e]
      exact List.take_left
  · simp [own, Value.ownBlock] at hk; subst hk; exact Nat.le_refl _
/-- append(b, s...). -/
theorem byt_app (w : World) (ty : TypeId) {v : Value} {l : List UInt8} (h : Byt w v l) (s : ByteArray) (h63 : l.length + s.size ≤ maxLen) (hby : l.length + s.size ≤ 140737488355328) :
    ∃ v' w', (Builtin.append_ #[80, 9] ty #[v, .string s]).run Tryz.prog w = .ok v' w' ∧ Byt w' v' (l ++ s.data.toList) ∧ Upd (own v) (own v') w w' := by
  obtain ⟨i, hi, hz, hsize, hbytes⟩ := info_parts info8
  have hL : s.data.toList.length = s.size := Array.length_toList
  have hlen : (l ++ s.data.toList).length = l.length + s.size := by rw [List.length_append, hL]
  obtain ⟨g, cap, cur, fz, rfl, hg, hfz, hnc, hcm, hcs, htake⟩ := h
  by_cases hroom : l.length + s.size ≤ cap
  · have hf := run_firstCells_string (P := Tryz.prog) w 1 s
    have hst := run_storeCells_atT Tryz.prog g l.length 5 fz (strCells s) 0 cur w hg hfz (by simp [strCells_length]; omega) (strCells_oneCell s)
    simp only [Nat.add_zero, strCells_length] at hst
    have hr : (Builtin.append_ #[80, 9] ty #[.slice (some ⟨g, 0, none⟩) l.length cap, .string s]).run Tryz.prog w =
      .ok (.slice (some ⟨g, 0, none⟩) (l.length + s.size) cap) (w.setRow g (cur.toList.take l.length ++ strCells s ++ cur.toList.drop (l.length + s.size)).toArray) := by
      simp [Builtin.append_, run_underlying ul8s, run_underlying ulStr, sizeOf, typeInfo, hi, hsize, Builtin.lenOf, hroom, hf, Addr.add_lit, hst]
    refine ⟨_, _, hr, ⟨g, cap, _, fz, by rw [hlen], setRow_heap w g cur _ _ fz hg, ?_, by rw [hlen]; exact hroom, hcm, ?_, ?_⟩, (Upd.refl _ w).row (by simp [own, Value.ownBlock]) _⟩
    · rcases hfz with h | h
      · exact .inl h
      · right
        simp only [List.size_toArray, List.length_append, List.length_take, List.length_drop, Array.length_toList, strCells_length]
        omega
    · simp only [List.size_toArray, List.length_append, List.length_take, List.length_drop, Array.length_toList, strCells_length]
      omega
    · rw [htake, cb8_app, ← strCells_cb8, ← cb8_len (l ++ s.data.toList), cb8_app, ← strCells_cb8]
      exact List.take_left
  · have holds : ∀ j u, (cb8 l)[j]? = some u → w.cell? ((⟨g, 0, none⟩ : Addr).add j) = some u := by
      intro j u hu
      rw [add_at, Nat.zero_add, cell_of_row w g j cur _ fz hg]
      rw [← htake, List.getElem?_take] at hu
      split at hu
      · simpa using hu
      · cases hu
    have hr := run_append_grow_string (P := Tryz.prog) w 80 9 ty 5 i (.int .u8 0) ul8s ulStr hi hz ⟨g, 0, none⟩ l.length cap (cb8 l) (by rw [hsize, cb8_len]; simp) holds s (by omega) (by unfold maxLen at h63; omega) (by rw [hbytes]; exact growslice_fits (by omega) (by omega))
    have hge := grownCap_ge w (l.length + s.size) cap 5
    refine ⟨_, _, hr, ⟨w.heap.size, _, _, (0, 0), by rw [hlen], heap_alloc_new w.drew _, .inl rfl, by rw [hlen]; exact hge, grownCap_le_maxLen w _ _ _ h63, ?_, ?_⟩, ((Upd.refl _ w).drew.alloc _).sub fun k hk => .inr ?_⟩
    · have hz1 : (Value.int IntKind.u8 0).cells.size = 1 := rfl
      simp only [Array.size_append, List.size_toArray, size_zeroCells, hz1, cb8_len, strCells_length]
      omega
    · simp only [Array.toList_append, List.append_assoc]
      rw [cb8_app, ← strCells_cb8, ← List.append_assoc, ← cb8_len (l ++ s.data.toList), cb8_app, ← strCells_cb8]
      exact List.take_left
    · simp [own, Value.ownBlock] at hk; subst hk; exact Nat.le_refl _
/-- string(b). -/
theorem byt_string {w : World} {v : Value} {l : List UInt8} (h : Byt w v l) : (convert 80 9 v).run Tryz.prog w = .ok (.string (bs l)) w := by
  obtain ⟨g, cap, rfl⟩ := h.form
  have hc := h.cell.2
  exact run_convert_bytes_back w _ _ 5 ⟨g, 0, none⟩ cap l ul8s ul8 ulStr (fun j hj => hc j _ (by simp [cb8, hj]))
theorem wpList_byt_app {w : World} {ops : Array Oper} {rest : List Oper} {o : Oper} {a : Act} {Q : Exit → Act → World → Prop} (hgd : o.guard = none) (s x : Operand)
    (ho : o.op = .call { callee := .builtin .append, args := #[s, x], argTypes := #[80, 9] })
    (v : Value) (l : List UInt8) (hs : a.eval s = v) (hown : Byt w v l)
    (str : ByteArray) (hx : a.eval x = .string str) (h63 : l.length + str.size ≤ maxLen) (hbytes : l.length + str.size ≤ 140737488355328)
    (h : ∀ (o2 : List UInt8) g cap w', Hid (o2 = l ++ str.data.toList) → Byt w' (.slice (some ⟨g, 0, none⟩) o2.length cap) o2 → Upd (own v) (own (.slice (some ⟨g, 0, none⟩) o2.length cap)) w w' → wpList Tryz.prog ops Q rest (a.put o.dst (.slice (some ⟨g, 0, none⟩) o2.length cap)) w') : wpList Tryz.prog ops Q (o :: rest) a w := by
  refine wpList_plain hgd fun K hK => ?_
  obtain ⟨v', w', hr, h2, h3⟩ := byt_app w o.type hown str h63 hbytes
  unfold Oper.wp execOp
  simp only [ho, resolve, invoke, builtin, Sem.run_bind, Sem.run_pure, Result.andThen_ok, List.map_toArray, List.map_cons, List.map_nil, hs, hx, hr]
  obtain ⟨g, cap, rfl⟩ := h2.form
  exact hK _ _ (h _ g cap w' rfl h2 h3)

end Go.Proofs.YtnmpckdggddpoaaGreatDoor
