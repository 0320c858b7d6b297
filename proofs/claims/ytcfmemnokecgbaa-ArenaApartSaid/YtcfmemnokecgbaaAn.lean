/- The walks of package arena: Alloc. -/
import Derived.Test.YtcfmemnokecgbaaAm
namespace Go.Proofs.Ytcfmemnokecgbaa
open Go.RowKit

theorem ssame {P : Program} {f : FuncId} {args : Array Value} {w : World} {v : Value}
    (h : Calls P f args w fun e w' => e = .returned v ∧ w = w') : Calls P f args w fun e w'' => e = .returned v ∧ w'' = w :=
  h.mono fun _ _ ⟨he, hm⟩ => ⟨he, hm.symm⟩

/-- A region that draws its order: all but its end only reads. -/
theorem wp_tail {P : Program} {id : Nat} {Q : Exit → Act → World → Prop} {a : Act} {w : World} {l : List Oper} (n : Nat) (hm : P.follows .mixedOrders = true) (hB : Region.lexTailB .any l.toArray n = true)
    (h : wpStill P l.toArray w.drew (fun a' => wpList P l.toArray Q (l.drop n) a' w.drew) (l.take n) a) : (Code.region id l.toArray true).wp P Q a w :=
  wp_region_still_tail n hm hB h

def TagOk (t : Int) : Prop := (0 ≤ t ∧ t ≤ 199) ∨ t = 200 ∨ t = 202

theorem alloc_arg {w : World} {a : Nat} (tag size : Int) (ht : ¬ TagOk tag) :
    Calls Try.prog 10 #[.pointer (some ⟨a, 0, none⟩), .int .i64 tag, .int .i64 size] w fun e w' => e = .returned (.tuple #[.int .u64 0, .int .i64 1]) ∧ ∃ n, w' = w.drewN n := by
  have h : tag < 0 ∨ (200 < tag ∧ tag < 202) ∨ 202 < tag := by unfold TagOk at ht; omega
  clear ht
  have h2 : (tag != 200) = true := by rw [bne_iff_ne]; omega
  have h3 : (tag != 202) = true := by rw [bne_iff_ne]; omega
  rcases h with h | ⟨h, h'⟩ | h
  all_goals
    go_enter Try.func10, Try.ntmps10
    go_wp2
    go_ret2
    exact ⟨rfl, 0, rfl⟩

theorem alloc_range {w : World} {a : Nat} (tag size : Int) (ht : TagOk tag) (hs : size < 0 ∨ 4096 < size) :
    Calls Try.prog 10 #[.pointer (some ⟨a, 0, none⟩), .int .i64 tag, .int .i64 size] w fun e w' => e = .returned (.tuple #[.int .u64 0, .int .i64 2]) ∧ ∃ n, w' = w.drewN n := by
  rcases ht with ⟨h, h'⟩ | rfl | rfl <;> rcases hs with hs | hs
  all_goals
    go_enter Try.func10, Try.ntmps10
    go_wp2
    go_ret2
    exact ⟨rfl, 0, rfl⟩

theorem alloc_full {w : World} {a : Nat} {A : Ar} {F : List Nat} (h : IsAr w a A F) (hok : A.ok) (tag : Int) (size : Nat) (ht : TagOk tag) (hs : size ≤ 4096) (hf : A.base + A.n < A.top + size + 1) :
    Calls Try.prog 10 #[.pointer (some ⟨a, 0, none⟩), .int .i64 tag, .int .i64 size] w fun e w' => e = .returned (.tuple #[.int .u64 0, .int .i64 10]) ∧ ∃ n, w' = w.drewN n := by
  obtain ⟨hb, cb, sv, cells, rfl, p⟩ := h
  have ca := p.ba.cell
  have ch := p.bh.cell
  have hn := hok.2.1
  have hbl := A.base_le
  have htl : A.top ≤ A.base + A.n := by have := hok.2.2.1; unfold Ar.top; omega
  clear p hok
  generalize A.top = t at *
  generalize A.base = bs at *
  generalize A.n = n at *
  have e1 : IntKind.i64.wrap ((t : Int) + (size : Int)) = (t : Int) + (size : Int) := IntWalk.i64_in _ (by omega)
  have e2 : IntKind.i64.wrap ((t : Int) + (size : Int) + 1) = (t : Int) + (size : Int) + 1 := IntWalk.i64_in _ (by omega)
  have e3 : IntKind.i64.wrap ((bs : Int) + (n : Int)) = (bs : Int) + (n : Int) := IntWalk.i64_in _ (by omega)
  have hfull : (bs : Int) + (n : Int) < (t : Int) + (size : Int) + 1 := by omega
  rcases ht with ⟨h, h'⟩ | rfl | rfl
  all_goals
    go_enter Try.func10, Try.ntmps10
    go_wp2
    go_quiet (fail)
    clear e1 e2 e3
    go_wp2
    go_ret2
    exact ⟨rfl, nq, rfl⟩

/-- The cells while a block is laid: its head, so many fields. -/
def fillK (cells : List Int) (t : Nat) (hd : Int) (k : Nat) : List Int := cells.take t ++ hd :: (List.replicate k 1 ++ cells.drop (t + 1 + k))

theorem fillK_len {cells : List Int} {t k : Nat} {hd : Int} (h : t + 1 + k ≤ cells.length) : (fillK cells t hd k).length = cells.length := by
  simp [fillK]; omega
theorem fillK_zero {cells : List Int} {t : Nat} {hd : Int} (h : t < cells.length) : cells.set t hd = fillK cells t hd 0 := by
  unfold fillK
  simp only [List.replicate_zero, List.nil_append, Nat.add_zero]
  rw [List.set_eq_take_append_cons_drop, if_pos h]
theorem fillK_set {cells : List Int} {t k : Nat} {hd : Int} (h : t + 1 + k < cells.length) : (fillK cells t hd k).set (t + 1 + k) 1 = fillK cells t hd (k + 1) := by
  unfold fillK
  have h1 : (cells.take t).length = t := by simp; omega
  rw [List.set_append_right _ _ (by omega), h1, show t + 1 + k - t = k + 1 by omega, List.set_cons_succ, List.set_append_right _ _ (by simp)]
  simp only [List.length_replicate, Nat.sub_self]
  congr 1
  congr 1
  rw [List.replicate_succ', List.append_assoc]
  congr 1
  have h2 : cells.drop (t + 1 + k) = cells[t + 1 + k] :: cells.drop (t + 1 + (k + 1)) := by
    rw [show t + 1 + (k + 1) = t + 1 + k + 1 by omega]
    exact List.drop_eq_getElem_cons h
  rw [h2]
  rfl
theorem fillK_u {cells : List Int} {t k : Nat} {hd : Int} (h : ∀ x ∈ cells, U64 x) (hh : U64 hd) : ∀ x ∈ fillK cells t hd k, U64 x := by
  intro x hx
  unfold fillK at hx
  simp only [List.mem_append, List.mem_cons] at hx
  rcases hx with hx | rfl | hx | hx
  · exact h x (List.mem_of_mem_take hx)
  · exact hh
  · have := (List.mem_replicate.1 hx).2; subst this; unfold U64; omega
  · exact h x (List.mem_of_mem_drop hx)
theorem cels_get {l : List Int} {k : Nat} (h : k < l.length) : ∃ v, (cels l)[k]? = some (.int .u64 v) := ⟨l[k], by simp [cels, h]⟩

def Ar.alloc (A : Ar) (tag size : Nat) : Ar := { A with L := A.L ++ [⟨tag, List.replicate size 1⟩] }

/-- The arena behind a block that was laid. -/
theorem ar_alloc {w w' : World} {a : Nat} {A : Ar} {hb cb : Nat} {sv sv' : Value} {cells : List Int} (p : IsArP w a A hb cb sv cells) {tag size : Nat} (hroom : A.top + size + 1 ≤ A.base + A.n)
    (ha : Blk w' a [.pointer (some ⟨hb, 0, none⟩), sv'] 37)
    (hh : Blk w' hb [.slice (some ⟨cb, 0, none⟩) (2 * A.n) (2 * A.n), .int .i64 A.n, .int .i64 A.base, .int .i64 ((A.top : Int) + 1 + (size : Int))] 59)
    (hc : Blk w' cb (cels (fillK cells A.top (wHead tag size) size)) 28)
    (hs : Sl w' sv' 3 1 (A.L.length + 1) (nums (starts A.base A.L) ++ [.int .i64 ((A.top : Int) + 1)])) :
    IsArP w' a (A.alloc tag size) hb cb sv' (fillK cells A.top (wHead tag size) size) := by
  have hbl := A.base_le
  have hfl : flat (A.alloc tag size).L = flat A.L ++ (wHead tag size :: List.replicate size 1) := by
    unfold Ar.alloc
    rw [flat_append]
    simp [flat]
  have htop : (A.alloc tag size).top = A.top + 1 + size := by
    show A.base + (flat (A.alloc tag size).L).length = _
    rw [hfl]
    unfold Ar.top
    simp
    omega
  refine ⟨ha, ?_, hc, ?_, fillK_u p.u (wHead_u _ _), ?_, ?_⟩
  · rw [htop]
    have e : (((A.top + 1 + size : Nat)) : Int) = (A.top : Int) + 1 + (size : Int) := by omega
    rw [e]
    exact hh
  · rw [fillK_len (by rw [p.len]; omega)]
    exact p.len
  · rw [hfl]
    show ((fillK cells A.top (wHead tag size) size).drop A.base).take _ = _
    have hl := p.len
    have h1 : (cells.take A.top).length = A.top := by simp; omega
    unfold fillK
    rw [List.drop_append_of_le_length (by rw [h1]; unfold Ar.top; omega), List.drop_take, show A.top - A.base = (flat A.L).length by unfold Ar.top; omega, p.fl]
    have e1 : (flat A.L ++ wHead tag size :: List.replicate size 1).length = (flat A.L).length + (size + 1) := by simp
    rw [e1, List.take_append, List.take_of_length_le (by omega)]
    congr 1
    rw [show (flat A.L).length + (size + 1) - (flat A.L).length = size + 1 by omega, List.take_succ_cons]
    congr 1
    rw [List.take_append_of_le_length (by simp), List.take_of_length_le (by simp)]
  · show Sl w' sv' _ 1 (A.alloc tag size).L.length (nums (starts A.base (A.alloc tag size).L))
    unfold Ar.alloc
    simp only [starts_append, List.length_append, List.length_singleton]
    have e : nums (starts A.base A.L ++ [A.base + (flat A.L).length + 1]) = nums (starts A.base A.L) ++ [.int .i64 ((A.top : Int) + 1)] := by
      simp [nums, Ar.top]
    rw [e]
    exact hs

end Go.Proofs.Ytcfmemnokecgbaa
