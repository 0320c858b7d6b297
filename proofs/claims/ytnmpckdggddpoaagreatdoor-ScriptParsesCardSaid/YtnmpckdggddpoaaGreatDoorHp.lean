/- Blocks of memory known whole, and what a call may have changed (footprints): plain words for all walks of this claim. -/
import Derived.WalkKit
import Derived.WalkSmall
namespace Go.Proofs.YtnmpckdggddpoaaGreatDoor
set_option linter.unusedSimpArgs false
set_option linter.unusedVariables false
open Go.RowKit

/-- A block known whole. -/
def Blk (w : World) (b : Nat) (c : List Value) (t : TypeId) : Prop := w.heap[b]? = some (.cells c.toArray t (0, 0))

theorem Blk.cell {w : World} {b : Nat} {c : List Value} {t : TypeId} (h : Blk w b c t) : ∀ o, w.cell? ⟨b, o, none⟩ = c[o]? := fun o => by
  rw [cell_of_row w b o c.toArray t (0, 0) h]; simp
theorem Blk.free {w : World} {b : Nat} {c : List Value} {t : TypeId} (h : Blk w b c t) : ∀ o, w.frozen? ⟨b, o, none⟩ = false := fun o => frozen_of_row w b o _ t h
theorem Blk.lt {w : World} {b : Nat} {c : List Value} {t : TypeId} (h : Blk w b c t) : b < w.heap.size := (Array.getElem?_eq_some_iff.1 h).1
theorem Blk.ne {w : World} {b b' : Nat} {c c' : List Value} {t t' : TypeId} (h : Blk w b c t) (h' : Blk w b' c' t') (ht : t ≠ t') : b ≠ b' := by
  rintro rfl
  unfold Blk at h h'
  rw [h] at h'
  injection h' with h'
  injection h' with _ e
  exact ht e
theorem Blk.inj {w : World} {b : Nat} {c c' : List Value} {t t' : TypeId} (h : Blk w b c t) (h' : Blk w b c' t') : c = c' ∧ t = t' := by
  unfold Blk at h h'
  rw [h] at h'
  injection h' with h'
  injection h' with e1 e2
  exact ⟨by simpa using e1, e2⟩
theorem Blk.go {w w' : World} {b : Nat} {c : List Value} {t : TypeId} (h : Blk w b c t) (hk : w'.heap[b]? = w.heap[b]?) : Blk w' b c t := by unfold Blk at *; rw [hk]; exact h
theorem Blk.new (w : World) (c : List Value) (t : TypeId) : Blk (w.alloc (.cells c.toArray t)) w.heap.size c t := heap_alloc_new w _
theorem Blk.new' {w : World} {c : List Value} {t : TypeId} {k : Nat} (hk : k = w.heap.size) : Blk (w.alloc (.cells c.toArray t)) k c t := by subst hk; exact Blk.new w c t
theorem Blk.alloc {w : World} {b : Nat} {c : List Value} {t : TypeId} (h : Blk w b c t) (o : Obj) : Blk (w.alloc o) b c t := h.go (heap_alloc_old w o h.lt)
theorem Blk.set {w : World} {b : Nat} {c : List Value} {t : TypeId} (h : Blk w b c t) (i : Nat) (v : Value) : Blk (w.setCell ⟨b, i, none⟩ v) b (c.set i v) t := by
  have := heap_setCell_same w b i c.toArray t v h
  unfold Blk; rw [this]; simp
theorem Blk.other {w : World} {b b' : Nat} {c : List Value} {t : TypeId} (h : Blk w b c t) (hne : b ≠ b') (i : Nat) (v : Value) : Blk (w.setCell ⟨b', i, none⟩ v) b c t :=
  h.go (heap_setCell_other w ⟨b', i, none⟩ b v hne)
theorem Blk.drewN {w : World} {b : Nat} {c : List Value} {t : TypeId} (h : Blk w b c t) (n : Nat) : Blk (w.drewN n) b c t := h
theorem Blk.drew {w : World} {b : Nat} {c : List Value} {t : TypeId} (h : Blk w b c t) : Blk w.drew b c t := h
theorem Blk.row {w : World} {b : Nat} {c : List Value} {t : TypeId} {g : Nat} {cs : Array Value} (h : Blk w b c t) (hne : b ≠ g) : Blk (w.setRow g cs) b c t := h.go (setRow_other w g b cs hne)

/-- What a call may have done: blocks of F may have been written, new ones made. -/
structure Fr (F : List Nat) (w w' : World) : Prop where
  os : w'.os = w.os
  tape : w'.tape = w.tape
  output : w'.output = w.output
  size : w.heap.size ≤ w'.heap.size
  block : ∀ k, k < w.heap.size → k ∉ F → w'.heap[k]? = w.heap[k]?

theorem Fr.refl (F : List Nat) (w : World) : Fr F w w := ⟨rfl, rfl, rfl, Nat.le_refl _, fun _ _ _ => rfl⟩
theorem Fr.below {B : Nat} {F : List Nat} {w w' : World} (h : Fr F w w') (hB : B ≤ w.heap.size) (hF : ∀ k ∈ F, B ≤ k) : Below B w w' :=
  ⟨h.os, h.tape, h.output, h.size, fun k hk => h.block k (by omega) (fun hm => by have := hF k hm; omega)⟩
theorem Fr.keep {F : List Nat} {w w' : World} (h : Fr F w w') {b : Nat} {c : List Value} {t : TypeId} (hb : Blk w b c t) (hn : b ∉ F) : Blk w' b c t := hb.go (h.block b hb.lt hn)

/-- The footprint F has become F': F may have been written, what is new in F' is new memory. -/
structure Upd (F F' : List Nat) (w w' : World) : Prop where
  fr : Fr F w w'
  new : ∀ k ∈ F', k ∈ F ∨ w.heap.size ≤ k

theorem Upd.refl (F : List Nat) (w : World) : Upd F F w w := ⟨Fr.refl F w, fun _ h => .inl h⟩
theorem Upd.trans {F F1 F2 : List Nat} {w w1 w2 : World} (h : Upd F F1 w w1) (k : Upd F1 F2 w1 w2) : Upd F F2 w w2 := by
  refine ⟨⟨k.fr.os.trans h.fr.os, k.fr.tape.trans h.fr.tape, k.fr.output.trans h.fr.output, Nat.le_trans h.fr.size k.fr.size, fun i hi hn => ?_⟩, fun i hi => ?_⟩
  · refine (k.fr.block i (Nat.lt_of_lt_of_le hi h.fr.size) (fun hm => ?_)).trans (h.fr.block i hi hn)
    rcases h.new i hm with h1 | h1
    · exact hn h1
    · omega
  · rcases k.new i hi with h1 | h1
    · exact h.new i h1
    · exact .inr (Nat.le_trans h.fr.size h1)
theorem Upd.weaken {A A' F F' : List Nat} {w w' : World} (h : Upd A A' w w') (h1 : ∀ k ∈ A, k ∈ F) (h2 : ∀ k ∈ F', k ∈ F ∨ k ∈ A') : Upd F F' w w' := by
  refine ⟨⟨h.fr.os, h.fr.tape, h.fr.output, h.fr.size, fun i hi hn => h.fr.block i hi (fun hm => hn (h1 i hm))⟩, fun i hi => ?_⟩
  rcases h2 i hi with h3 | h3
  · exact .inl h3
  · rcases h.new i h3 with h4 | h4
    · exact .inl (h1 i h4)
    · exact .inr h4
theorem Upd.set {F F' : List Nat} {w w' : World} (h : Upd F F' w w') {b : Nat} (hb : b ∈ F') (i : Nat) (v : Value) : Upd F F' w (w'.setCell ⟨b, i, none⟩ v) :=
  h.trans ⟨⟨rfl, rfl, rfl, by simp, fun k _ hn => heap_setCell_other w' _ k v (fun e => hn (by rw [e]; exact hb))⟩, fun _ h => .inl h⟩
theorem Upd.row {F F' : List Nat} {w w' : World} (h : Upd F F' w w') {b : Nat} (hb : b ∈ F') (cs : Array Value) : Upd F F' w (w'.setRow b cs) :=
  h.trans ⟨⟨rfl, rfl, rfl, by simp, fun k _ hn => setRow_other w' b k cs (fun e => hn (by rw [e]; exact hb))⟩, fun _ h => .inl h⟩
theorem Upd.alloc {F F' : List Nat} {w w' : World} (h : Upd F F' w w') (o : Obj) : Upd F F' w (w'.alloc o) :=
  h.trans ⟨⟨rfl, rfl, rfl, by simp, fun k hk _ => heap_alloc_old w' o hk⟩, fun _ h => .inl h⟩
theorem Upd.drew {F F' : List Nat} {w w' : World} (h : Upd F F' w w') : Upd F F' w w'.drew :=
  h.trans ⟨⟨rfl, rfl, rfl, Nat.le_refl _, fun _ _ _ => rfl⟩, fun _ h => .inl h⟩
theorem Upd.drewN {F F' : List Nat} {w w' : World} (h : Upd F F' w w') (n : Nat) : Upd F F' w (w'.drewN n) :=
  h.trans ⟨⟨rfl, rfl, rfl, Nat.le_refl _, fun _ _ _ => rfl⟩, fun _ h => .inl h⟩
theorem Upd.grown {F F' : List Nat} {w w' w2 : World} {row : Option Nat} (h : Upd F F' w w') (hg : w'.grownBy w2 row) (hr : ∀ k, row = some k → k ∈ F') : Upd F F' w w2 :=
  h.trans ⟨⟨hg.os, hg.tape, hg.output, hg.size, fun k hk hn => hg.block k hk (fun e => hn (hr k e.symm))⟩, fun _ h => .inl h⟩
theorem Upd.sub {F F' F2 : List Nat} {w w' : World} (h : Upd F F' w w') (h2 : ∀ k ∈ F2, k ∈ F' ∨ w.heap.size ≤ k) : Upd F F2 w w' :=
  ⟨h.fr, fun k hk => (h2 k hk).elim (h.new k) .inr⟩
theorem Upd.off {F F' G : List Nat} {w w' : World} (h : Upd F F' w w') (hG : ∀ k ∈ G, k < w.heap.size) (hd : ∀ k ∈ G, k ∉ F) : ∀ k ∈ G, k ∉ F' := fun k hk hm => by
  rcases h.new k hm with h1 | h1
  · exact hd k hk h1
  · have := hG k hk; omega
/-- Blocks beside the footprint are as they were. -/
theorem Upd.same {F F' G : List Nat} {w w' : World} (h : Upd F F' w w') (hG : ∀ k ∈ G, k < w.heap.size) (hd : ∀ k ∈ G, k ∉ F) : ∀ k ∈ G, w'.heap[k]? = w.heap[k]? :=
  fun k hk => h.fr.block k (hG k hk) (hd k hk)

/-- What a slice value owns. -/
def own (v : Value) : List Nat := v.ownBlock.toList

theorem mem_own {v : Value} {k : Nat} : k ∈ own v ↔ v.ownBlock = some k := by simp [own]
theorem own_grown {w w' : World} {base : Nat} {e : TypeId} {size : Nat} {v v' : Value} {n n' : Nat} {xs xs' : List Value} (_h : w.ownsRow base e size v n xs) (h' : w'.ownsRow w.heap.size e size v' n' xs') : ∀ k ∈ own v', w.heap.size ≤ k :=
  fun k hk => (h'.lt k (mem_own.1 hk)).1
theorem ownsRow_go {w w' : World} {base : Nat} {e : TypeId} {size : Nat} {v : Value} {n : Nat} {xs : List Value} (h : w.ownsRow base e size v n xs) (hk : ∀ k ∈ own v, w'.heap[k]? = w.heap[k]?) : w'.ownsRow base e size v n xs := by
  refine ⟨h.1, ?_⟩
  rcases h.2 with hn | ⟨g, cap, cur, rfl, hb, hgg, rest⟩
  · exact .inl hn
  · exact .inr ⟨g, cap, cur, rfl, hb, (hk g (by simp [own, Value.ownBlock])).trans hgg, rest⟩
theorem ownsRow_base {w : World} {base base' : Nat} {e : TypeId} {size : Nat} {v : Value} {n : Nat} {xs : List Value} (h : w.ownsRow base e size v n xs) (hb : base' ≤ base) : w.ownsRow base' e size v n xs := by
  refine ⟨h.1, ?_⟩
  rcases h.2 with hn | ⟨g, cap, cur, hv, hb', rest⟩
  · exact .inl hn
  · exact .inr ⟨g, cap, cur, hv, by omega, rest⟩


/-- A slice value and what its elements' cells hold (elements of type e, of size cells each); it may begin inside its block. -/
def Sl (w : World) (v : Value) (e : TypeId) (size n : Nat) (xs : List Value) : Prop :=
  xs.length = n * size ∧
  ((v = .slice none 0 0 ∧ n = 0) ∨
   ∃ g off cap cur, v = .slice (some ⟨g, off, none⟩) n cap ∧ w.heap[g]? = some (.cells cur e (0, 0)) ∧ n ≤ cap ∧ cap ≤ maxLen ∧ off + cap * size ≤ cur.size ∧ (cur.toList.drop off).take (n * size) = xs)

theorem Sl.nil (w : World) (e : TypeId) (size : Nat) : Sl w (.slice none 0 0) e size 0 [] := ⟨by simp, .inl ⟨rfl, rfl⟩⟩
theorem Sl.go {w w' : World} {v : Value} {e : TypeId} {size n : Nat} {xs : List Value} (h : Sl w v e size n xs) (hk : ∀ k ∈ own v, w'.heap[k]? = w.heap[k]?) : Sl w' v e size n xs := by
  refine ⟨h.1, ?_⟩
  rcases h.2 with hn | ⟨g, off, cap, cur, rfl, hgg, rest⟩
  · exact .inl hn
  · exact .inr ⟨g, off, cap, cur, rfl, (hk g (by simp [own, Value.ownBlock])).trans hgg, rest⟩
theorem Sl.lt {w : World} {v : Value} {e : TypeId} {size n : Nat} {xs : List Value} (h : Sl w v e size n xs) : ∀ k ∈ own v, k < w.heap.size := by
  intro k hk
  rcases h.2 with ⟨rfl, _⟩ | ⟨g, off, cap, cur, rfl, hg, _⟩
  · simp [own, Value.ownBlock] at hk
  · simp [own, Value.ownBlock] at hk
    subst hk
    exact (Array.getElem?_eq_some_iff.1 hg).1
theorem Sl.ne {w : World} {v : Value} {e : TypeId} {size n : Nat} {xs : List Value} (h : Sl w v e size n xs) {b : Nat} {c : List Value} {t : TypeId} (hb : Blk w b c t) (ht : e ≠ t) : b ∉ own v := by
  intro hk
  rcases h.2 with ⟨rfl, _⟩ | ⟨g, off, cap, cur, rfl, hg, _⟩
  · simp [own, Value.ownBlock] at hk
  · simp [own, Value.ownBlock] at hk
    subst hk
    unfold Blk at hb
    rw [hg] at hb
    injection hb with hb
    injection hb with _ e
    exact ht e
theorem Sl.alloc {w : World} {v : Value} {e : TypeId} {size n : Nat} {xs : List Value} (h : Sl w v e size n xs) (o : Obj) : Sl (w.alloc o) v e size n xs := h.go fun k hk => heap_alloc_old w o (h.lt k hk)
theorem Sl.drew {w : World} {v : Value} {e : TypeId} {size n : Nat} {xs : List Value} (h : Sl w v e size n xs) : Sl w.drew v e size n xs := h
theorem Sl.drewN {w : World} {v : Value} {e : TypeId} {size n : Nat} {xs : List Value} (h : Sl w v e size n xs) (m : Nat) : Sl (w.drewN m) v e size n xs := h
theorem Sl.set {w : World} {v : Value} {e : TypeId} {size n : Nat} {xs : List Value} (h : Sl w v e size n xs) {b : Nat} (hb : b ∉ own v) (i : Nat) (x : Value) : Sl (w.setCell ⟨b, i, none⟩ x) v e size n xs :=
  h.go fun k hk => heap_setCell_other w _ k x (fun e => hb (by subst e; exact hk))
/-- A slice's form. -/
theorem Sl.form {w : World} {v : Value} {e : TypeId} {size n : Nat} {xs : List Value} (h : Sl w v e size n xs) :
    ∃ a cap, v = .slice a n cap ∧ n ≤ cap ∧ cap ≤ maxLen ∧ (a = none → n = 0) ∧ ∀ ad, a = some ad → own v = [ad.block] ∧ ∀ j u, xs[j]? = some u → w.cell? (ad.add j) = some u := by
  rcases h.2 with ⟨rfl, hn⟩ | ⟨g, off, cap, cur, rfl, hg, h1, h2, h3, h4⟩
  · subst hn; exact ⟨none, 0, rfl, Nat.le_refl _, by unfold maxLen; omega, fun _ => rfl, fun ad h => by cases h⟩
  · refine ⟨_, cap, rfl, h1, h2, (fun h => (by cases h)), fun ad had => ?_⟩
    cases had
    refine ⟨by simp [own, Value.ownBlock], fun j u hu => ?_⟩
    have hadd : (⟨g, off, none⟩ : Addr).add j = ⟨g, off + j, none⟩ := by unfold Addr.add; split <;> simp_all
    rw [hadd, cell_of_row w g (off + j) cur e (0, 0) hg]
    rw [← h4, List.getElem?_take] at hu
    split at hu
    · simpa using hu
    · cases hu
/-- A slice that isn't empty, of elements of one cell: where it begins, and each cell. -/
theorem Sl.at1 {w : World} {v : Value} {e : TypeId} {n : Nat} {xs : List Value} (h : Sl w v e 1 n xs) (hn : 0 < n) :
    ∃ g off cap, v = .slice (some ⟨g, off, none⟩) n cap ∧ n ≤ cap ∧ own v = [g] ∧ ∀ j u, xs[j]? = some u → w.cell? ⟨g, off + j, none⟩ = some u := by
  rcases h.2 with ⟨rfl, h0⟩ | ⟨g, off, cap, cur, rfl, hg, h1, h2, h3, h4⟩
  · omega
  · refine ⟨g, off, cap, rfl, h1, by simp [own, Value.ownBlock], fun j u hu => ?_⟩
    rw [cell_of_row w g (off + j) cur e (0, 0) hg]
    rw [← h4, List.getElem?_take] at hu
    split at hu
    · simpa using hu
    · cases hu
theorem Sl.ofBlk {w : World} {b : Nat} {c : List Value} {t : TypeId} {n size : Nat} (h : Blk w b c t) (hl : c.length = n * size) (hm : n ≤ maxLen) : Sl w (.slice (some ⟨b, 0, none⟩) n n) t size n c :=
  ⟨hl, .inr ⟨b, 0, n, c.toArray, rfl, h, Nat.le_refl _, hm, by simp [hl], by simp [← hl]⟩⟩

section
variable {P : Program} (w : World)

theorem run_append_room_off (t ty e : TypeId) (i : TypeInfo) (ht : P.underlying t = some (.slice e)) (hi : P.info? e = some i)
    (g off sLen sCap : Nat) (cur : Array Value) (hg : w.heap[g]? = some (.cells cur e (0, 0)))
    (a : Addr) (m c : Nat) (news : List Value) (hl : news.length = m * i.size) (hnews : ∀ j u, news[j]? = some u → w.cell? (a.add j) = some u) (h1 : ∀ u ∈ news, u.oneCell' = true)
    (hroom : sLen + m ≤ sCap) (hfit : off + sLen * i.size + news.length ≤ cur.size) :
    (Builtin.append_ #[t, t] ty #[.slice (some ⟨g, off, none⟩) sLen sCap, .slice (some a) m c]).run P w =
      .ok (.slice (some ⟨g, off, none⟩) (sLen + m) sCap) (w.setRow g (cur.toList.take (off + sLen * i.size) ++ news ++ cur.toList.drop (off + sLen * i.size + news.length)).toArray) := by
  have hf := run_firstCells_some (P := P) w i.size m a m c news hl hnews
  have hst := run_storeCells_at P g (off + sLen * i.size) e news 0 cur w hg (by simpa using hfit) h1
  simp only [Nat.add_zero] at hst
  simp [Builtin.append_, run_underlying ht, sizeOf, typeInfo, hi, Builtin.lenOf, hroom, hf, Addr.add_lit, hst]

theorem cell_new1 {w : World} {x : Value} {t : TypeId} {k : Nat} (hk : k = w.heap.size) : ∀ j u, [x][j]? = some u → (w.alloc (.cells #[x] t)).cell? ((⟨k, 0, none⟩ : Addr).add j) = some u := by
  subst hk
  intro j u hj
  match j, hj with
  | 0, hj => simp at hj; subst hj; simp [Addr.add]
theorem one_cell1 {x : Value} (h : x.oneCell' = true) : ∀ u ∈ [x], u.oneCell' = true := by intro u hu; simp at hu; subst hu; exact h

/-- append onto a slice of the call's own, from elements that lie anywhere. -/
theorem run_app (t ty e : TypeId) (i : TypeInfo) (z : Value) (size bytes : Nat) (ht : P.underlying t = some (.slice e)) (hi : P.info? e = some i) (hz : i.zero = some z)
    (hsize : i.size = size) (hby : i.bytes = bytes) (hzs : z.cells.size = size)
    (v : Value) (n : Nat) (xs : List Value) (hown : Sl w v e size n xs)
    (a : Addr) (m c : Nat) (news : List Value) (hl : news.length = m * size) (hnews : ∀ j u, news[j]? = some u → w.cell? (a.add j) = some u) (h1 : ∀ u ∈ news, u.oneCell' = true)
    (h63 : n + m ≤ maxLen) (hbytes : (n + m) * bytes ≤ 140737488355328) :
    ∃ v' w', (Builtin.append_ #[t, t] ty #[v, .slice (some a) m c]).run P w = .ok v' w' ∧ Sl w' v' e size (n + m) (xs ++ news) ∧ Upd (own v) (own v') w w' := by
  subst hsize
  subst hby
  have hsmall : n + m ≤ 9223372036854775807 := by simp only [maxLen] at h63; omega
  have hlen : (xs ++ news).length = (n + m) * i.size := by rw [List.length_append, hown.1, hl, Nat.add_mul]
  have grown : ∀ (old : Nat), old < n + m → ∀ F : List Nat,
      Sl (w.drew.alloc (.cells (xs.toArray ++ news.toArray ++ Builtin.zeroCells z.cells (grownCap w (n + m) old e - (n + m))) e))
        (.slice (some ⟨w.heap.size, 0, none⟩) (n + m) (grownCap w (n + m) old e)) e i.size (n + m) (xs ++ news) ∧
      Upd F [w.heap.size] w (w.drew.alloc (.cells (xs.toArray ++ news.toArray ++ Builtin.zeroCells z.cells (grownCap w (n + m) old e - (n + m))) e)) := by
    intro old ho F
    have hge := grownCap_ge w (n + m) old e
    have hcm : grownCap w (n + m) old e ≤ maxLen := grownCap_le_maxLen w (n + m) old e h63
    have hsz : (xs.toArray ++ news.toArray ++ Builtin.zeroCells z.cells (grownCap w (n + m) old e - (n + m))).size = grownCap w (n + m) old e * i.size := by
      simp only [Array.size_append, List.size_toArray, size_zeroCells, hzs, hown.1, hl, ← Nat.add_mul]
      congr 1
      omega
    refine ⟨⟨hlen, .inr ⟨w.heap.size, 0, _, _, rfl, heap_alloc_new w.drew _, hge, hcm, by rw [Nat.zero_add, hsz]; exact Nat.le_refl _, ?_⟩⟩, ((Upd.refl F w).drew.alloc _).sub fun k hk => .inr (by simp at hk; omega)⟩
    simp only [Array.toList_append, List.append_assoc, List.drop_zero]
    rw [← List.append_assoc, ← hlen]
    exact List.take_left
  rcases hown.2 with ⟨rfl, rfl⟩ | ⟨g, off, cap, cur, rfl, hg, hnc, hcm, hcs, htake⟩
  · have hx : xs = [] := List.eq_nil_of_length_eq_zero (by simpa using hown.1)
    subst hx
    by_cases hm : m = 0
    · subst hm
      have hn : news = [] := List.eq_nil_of_length_eq_zero (by simpa using hl)
      subst hn
      refine ⟨.slice none 0 0, w, ?_, Sl.nil w e i.size, Upd.refl _ _⟩
      simp [Builtin.append_, run_underlying ht, sizeOf, typeInfo, hi, Builtin.lenOf, Builtin.firstCells, loadCells, loadCellsFrom]
    · have hr := run_append_nil (P := P) w t ty e i z ht hi hz a m c news hl hnews (by omega) (by omega) (by have hb := hbytes; simp only [Nat.zero_add] at hb; omega)
      have hgr := grown 0 (by omega) (own (.slice none 0 0))
      simp only [Nat.zero_add, List.nil_append, Array.empty_append] at hgr ⊢
      exact ⟨_, _, hr, hgr.1, hgr.2⟩
  · by_cases hroom : n + m ≤ cap
    · have hle : (n + m) * i.size ≤ cap * i.size := Nat.mul_le_mul_right _ hroom
      have hfit : off + n * i.size + news.length ≤ cur.size := by rw [hl]; rw [Nat.add_mul] at hle; omega
      have hr := run_append_room_off (P := P) w t ty e i ht hi g off n cap cur hg a m c news hl hnews h1 hroom hfit
      refine ⟨_, _, hr, ⟨hlen, .inr ⟨g, off, cap, _, rfl, setRow_heap w g cur _ e _ hg, hroom, hcm, ?_, ?_⟩⟩, (Upd.refl _ w).row (by simp [own, Value.ownBlock]) _⟩
      · simp only [List.size_toArray, List.length_append, List.length_take, List.length_drop, Array.length_toList]
        omega
      · have e1 : off ≤ (cur.toList.take (off + n * i.size)).length := by simp; omega
        simp only [List.append_assoc]
        rw [List.drop_append_of_le_length e1, List.drop_take, show off + n * i.size - off = n * i.size by omega, htake, ← List.append_assoc, ← hlen]
        exact List.take_left
    · have holds : ∀ j u, xs[j]? = some u → w.cell? ((⟨g, off, none⟩ : Addr).add j) = some u := by
        intro j u hu
        have hadd : (⟨g, off, none⟩ : Addr).add j = ⟨g, off + j, none⟩ := by unfold Addr.add; split <;> simp_all
        rw [hadd, cell_of_row w g (off + j) cur e (0, 0) hg]
        rw [← htake, List.getElem?_take] at hu
        split at hu
        · simpa using hu
        · cases hu
      have hr := run_append_grow (P := P) w t ty e i z ht hi hz ⟨g, off, none⟩ n cap xs hown.1 holds a m c news hl hnews (by omega) (by omega) (growslice_fits (by omega) hbytes)
      have hgr := grown cap (by omega) (own (.slice (some ⟨g, off, none⟩) n cap))
      exact ⟨_, _, hr, hgr.1, hgr.2⟩

theorem wp_app {o : Oper} {a : Act} {K : Act → World → Prop} {Q : Exit → Act → World → Prop} (s x : Operand) (t : TypeId)
    (ho : o.op = .call { callee := .builtin .append, args := #[s, x], argTypes := #[t, t] })
    (e : TypeId) (i : TypeInfo) (z : Value) (size bytes : Nat) (ht : P.underlying t = some (.slice e)) (hi : P.info? e = some i) (hz : i.zero = some z)
    (hsize : i.size = size) (hby : i.bytes = bytes) (hzs : z.cells.size = size)
    (v : Value) (n : Nat) (xs : List Value) (hs : a.eval s = v) (hown : Sl w v e size n xs)
    (ad : Addr) (m c : Nat) (news : List Value) (hx : a.eval x = .slice (some ad) m c) (hl : news.length = m * size) (hnews : ∀ j u, news[j]? = some u → w.cell? (ad.add j) = some u) (h1 : ∀ u ∈ news, u.oneCell' = true)
    (h63 : n + m ≤ maxLen) (hbytes : (n + m) * bytes ≤ 140737488355328)
    (h : ∀ ad' cap' w', Sl w' (.slice ad' (n + m) cap') e size (n + m) (xs ++ news) → Upd (own v) (own (.slice ad' (n + m) cap')) w w' → K (a.put o.dst (.slice ad' (n + m) cap')) w') : o.wp P a w K Q := by
  obtain ⟨v', w', hr, h2, h3⟩ := run_app (P := P) w t o.type e i z size bytes ht hi hz hsize hby hzs v n xs hown ad m c news hl hnews h1 h63 hbytes
  unfold Oper.wp execOp
  simp only [ho, resolve, invoke, builtin, Sem.run_bind, Sem.run_pure, Result.andThen_ok, List.map_toArray, List.map_cons, List.map_nil, hs, hx, hr]
  obtain ⟨ad', cap', rfl, _⟩ := h2.form
  exact h ad' cap' w' h2 h3

theorem wpList_app {ops : Array Oper} {rest : List Oper} {o : Oper} {a : Act} {Q : Exit → Act → World → Prop} (hgd : o.guard = none) (s x : Operand) (t : TypeId)
    (ho : o.op = .call { callee := .builtin .append, args := #[s, x], argTypes := #[t, t] })
    (e : TypeId) (i : TypeInfo) (z : Value) (size bytes : Nat) (ht : P.underlying t = some (.slice e)) (hi : P.info? e = some i) (hz : i.zero = some z)
    (hsize : i.size = size) (hby : i.bytes = bytes) (hzs : z.cells.size = size)
    (v : Value) (n : Nat) (xs : List Value) (hs : a.eval s = v) (hown : Sl w v e size n xs)
    (ad : Addr) (m c : Nat) (news : List Value) (hx : a.eval x = .slice (some ad) m c) (hl : news.length = m * size) (hnews : ∀ j u, news[j]? = some u → w.cell? (ad.add j) = some u) (h1 : ∀ u ∈ news, u.oneCell' = true)
    (h63 : n + m ≤ maxLen) (hbytes : (n + m) * bytes ≤ 140737488355328)
    (h : ∀ ad' cap' w', Sl w' (.slice ad' (n + m) cap') e size (n + m) (xs ++ news) → Upd (own v) (own (.slice ad' (n + m) cap')) w w' → wpList P ops Q rest (a.put o.dst (.slice ad' (n + m) cap')) w') : wpList P ops Q (o :: rest) a w :=
  wpList_plain hgd fun _ hK => wp_app w s x t ho e i z size bytes ht hi hz hsize hby hzs v n xs hs hown ad m c news hx hl hnews h1 h63 hbytes fun ad' cap' w' h2 h3 => hK _ _ (h ad' cap' w' h2 h3)
end

end Go.Proofs.YtnmpckdggddpoaaGreatDoor
