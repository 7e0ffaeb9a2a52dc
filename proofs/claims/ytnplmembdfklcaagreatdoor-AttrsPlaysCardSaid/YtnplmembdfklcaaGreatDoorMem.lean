/-
  Memory: blocks, boxes, rows, what grows. Helper text; the conditions are those typed.
-/
import Derived.WalkKit
import Derived.Below
import Derived.Lib.Hide
import Derived.Laws.AppendOwn
import Derived.Deep.AppendLies
import Derived.Deep.Draws
import Derived.Lib.IndexBytes
namespace Go.Proofs.YtnplmembdfklcaaGreatDoor
set_option linter.unusedVariables false
set_option linter.unusedSimpArgs false
open Go.RowKit

theorem alloc_at (w : World) (o : Obj) : (w.alloc o).heap[w.heap.size]? = some o := by
  unfold World.alloc
  simp
theorem below_al {B : Nat} {w w' : World} (h : Below B w w') (hB : B ≤ w.heap.size) (o : Obj) : Below B w (w'.alloc o) := h.alloc (Nat.le_trans hB h.size) o
theorem below_sc {B b : Nat} {w w' : World} (h : Below B w w') (hb : B ≤ b) (o : Nat) (v : Value) : Below B w (w'.setCell ⟨b, o, none⟩ v) := h.setCell (p := ⟨b, o, none⟩) hb v
theorem below_to {B B' : Nat} {w w' : World} (h : Below B w w') (hb : B' ≤ B) : Below B' w w' := ⟨h.os, h.tape, h.output, h.size, fun k hk => h.block k (by omega)⟩
theorem below_tr {a b c : World} (h : Below a.heap.size a b) (k : Below b.heap.size b c) : Below a.heap.size a c := h.trans (below_to k h.size)
theorem below1 (w : World) (o : Obj) : Below w.heap.size w (w.alloc o) := (Below.refl _ w).alloc (Nat.le_refl _) o
theorem below2 (w : World) (o1 o2 : Obj) : Below w.heap.size w ((w.alloc o1).alloc o2) := (below1 w o1).alloc (by simp) o2
theorem below_dr {B : Nat} {w w' : World} (h : Below B w w') (n : Nat) : Below B w (w'.drewN n) := ⟨h.os, h.tape, h.output, h.size, h.block⟩
theorem below_dr1 {B : Nat} {a b : World} (h : Below B a b) : Below B a b.drew := ⟨h.os, h.tape, h.output, h.size, h.block⟩
theorem set_cells {w : World} {g o : Nat} {cur : Array Value} {ty : TypeId} {fz : Nat × Nat} (h : w.heap[g]? = some (.cells cur ty fz)) (v : Value) : (w.setCell ⟨g, o, none⟩ v).heap[g]? = some (.cells (cur.setIfInBounds o v) ty fz) := by
  unfold World.setCell
  simp [Array.getElem?_modify, h]
theorem set_other {w : World} {g c o : Nat} (v : Value) (hc : c ≠ g) : (w.setCell ⟨g, o, none⟩ v).heap[c]? = w.heap[c]? := by
  unfold World.setCell
  simp [Array.getElem?_modify, Ne.symm hc]
theorem set_size {w : World} {g o : Nat} (v : Value) : (w.setCell ⟨g, o, none⟩ v).heap.size = w.heap.size := by
  unfold World.setCell
  simp
theorem cell_of {w : World} {g o : Nat} {cur : Array Value} {ty : TypeId} {fz : Nat × Nat} (h : w.heap[g]? = some (.cells cur ty fz)) {v : Value} (hv : cur[o]? = some v) : w.cell? ⟨g, o, none⟩ = some v := by
  unfold World.cell?
  simp [h, hv]
theorem frozen_of {w : World} {g o : Nat} {cur : Array Value} {ty : TypeId} (h : w.heap[g]? = some (.cells cur ty (0, 0))) : w.frozen? ⟨g, o, none⟩ = false := by
  unfold World.frozen?
  simp [h]
theorem cell_tr {W W' : World} (h : Below W.heap.size W W') {b o : Nat} {v : Value} (hc : W.cell? ⟨b, o, none⟩ = some v) : W'.cell? ⟨b, o, none⟩ = some v :=
  (h.cell (p := ⟨b, o, none⟩) (World.block_lt_of_cell? W _ hc)).trans hc
theorem cell_blk {W W' : World} {b o : Nat} (h : W'.heap[b]? = W.heap[b]?) {v : Value} (hc : W.cell? ⟨b, o, none⟩ = some v) : W'.cell? ⟨b, o, none⟩ = some v := by
  unfold World.cell? at *
  simp only [h]
  exact hc
theorem cell_heap {W W' : World} (h : W'.heap = W.heap) (p : Addr) : W'.cell? p = W.cell? p := by
  unfold World.cell?
  rw [h]

/-- A block of cells. -/
def BoxN (W : World) (b : Nat) (cs : List Value) (ty : TypeId) : Prop := W.heap[b]? = some (.cells cs.toArray ty (0, 0))
theorem BoxN.cell {W : World} {b : Nat} {cs : List Value} {ty : TypeId} (h : BoxN W b cs ty) {j : Nat} {v : Value} (hv : cs[j]? = some v) : W.cell? ⟨b, j, none⟩ = some v := by
  unfold BoxN at h
  unfold World.cell?
  simp [h, hv]
theorem BoxN.lt {W : World} {b : Nat} {cs : List Value} {ty : TypeId} (h : BoxN W b cs ty) : b < W.heap.size := by
  rcases Nat.lt_or_ge b W.heap.size with h' | h'
  · exact h'
  · unfold BoxN at h
    rw [Array.getElem?_eq_none h'] at h; cases h
theorem BoxN.to {W W' : World} {b : Nat} {cs : List Value} {ty : TypeId} (h : BoxN W b cs ty) (hb : W'.heap[b]? = W.heap[b]?) : BoxN W' b cs ty := hb.trans h
theorem BoxN.below {W W' : World} {b : Nat} {cs : List Value} {ty : TypeId} (h : BoxN W b cs ty) (hb : Below W.heap.size W W') : BoxN W' b cs ty := h.to (hb.block _ h.lt)
theorem BoxN.frozen {W : World} {b : Nat} {cs : List Value} {ty : TypeId} (h : BoxN W b cs ty) (j : Nat) : W.frozen? ⟨b, j, none⟩ = false := by
  unfold BoxN at h
  unfold World.frozen?
  simp only [h]
  simp
theorem boxN_alloc (w : World) (cs : List Value) (ty : TypeId) : BoxN (w.alloc (.cells cs.toArray ty)) w.heap.size cs ty := alloc_at _ _
theorem BoxN.set {w : World} {b : Nat} {cs : List Value} {ty : TypeId} (h : BoxN w b cs ty) (o : Nat) (x : Value) : BoxN (w.setCell ⟨b, o, none⟩ x) b (cs.set o x) ty := by
  have := set_cells (o := o) h x
  unfold BoxN
  rw [this]
  simp
theorem BoxN.other {w : World} {b c : Nat} {cs : List Value} {ty : TypeId} (h : BoxN w b cs ty) (hc : b ≠ c) (o : Nat) (x : Value) : BoxN (w.setCell ⟨c, o, none⟩ x) b cs ty := h.to (set_other _ hc)

/-- Cells that are told one by one. -/
def BoxF (W : World) (b n : Nat) (f : Nat → Value) (ty : TypeId) : Prop := ∃ cur : Array Value, W.heap[b]? = some (.cells cur ty (0, 0)) ∧ cur.size = n ∧ ∀ j, j < n → cur[j]? = some (f j)
theorem BoxF.cell {W : World} {b n : Nat} {f : Nat → Value} {ty : TypeId} (h : BoxF W b n f ty) {j : Nat} (hj : j < n) : W.cell? ⟨b, j, none⟩ = some (f j) := by
  obtain ⟨cur, h1, h2, h3⟩ := h
  exact cell_of h1 (h3 j hj)
theorem BoxF.frozen {W : World} {b n : Nat} {f : Nat → Value} {ty : TypeId} (h : BoxF W b n f ty) (j : Nat) : W.frozen? ⟨b, j, none⟩ = false := by
  obtain ⟨cur, h1, h2, h3⟩ := h
  exact frozen_of h1
theorem BoxF.lt {W : World} {b n : Nat} {f : Nat → Value} {ty : TypeId} (h : BoxF W b n f ty) : b < W.heap.size := by
  obtain ⟨cur, h1, h2, h3⟩ := h
  exact (Array.getElem?_eq_some_iff.1 h1).1
theorem BoxF.to {W W' : World} {b n : Nat} {f : Nat → Value} {ty : TypeId} (h : BoxF W b n f ty) (hb : W'.heap[b]? = W.heap[b]?) : BoxF W' b n f ty := by
  obtain ⟨cur, h1, h2, h3⟩ := h
  exact ⟨cur, hb.trans h1, h2, h3⟩
theorem BoxF.below {W W' : World} {b n : Nat} {f : Nat → Value} {ty : TypeId} (h : BoxF W b n f ty) (hb : Below W.heap.size W W') : BoxF W' b n f ty := h.to (hb.block _ h.lt)
theorem BoxF.congr {W : World} {b n : Nat} {f f' : Nat → Value} {ty : TypeId} (h : BoxF W b n f ty) (he : ∀ j, j < n → f j = f' j) : BoxF W b n f' ty := by
  obtain ⟨cur, h1, h2, h3⟩ := h
  exact ⟨cur, h1, h2, fun j hj => by rw [h3 j hj, he j hj]⟩
theorem BoxF.set {W : World} {b n : Nat} {f : Nat → Value} {ty : TypeId} (h : BoxF W b n f ty) (o : Nat) (x : Value) : BoxF (W.setCell ⟨b, o, none⟩ x) b n (fun j => if j = o then x else f j) ty := by
  obtain ⟨cur, h1, h2, h3⟩ := h
  refine ⟨_, set_cells h1 x, by simpa using h2, fun j hj => ?_⟩
  by_cases e : j = o
  · subst e
    have hlt : j < cur.size := by omega
    simp [Array.getElem?_setIfInBounds, hlt]
  · simp [Array.getElem?_setIfInBounds, Ne.symm e, e, h3 j hj]
theorem BoxF.other {W : World} {b c n : Nat} {f : Nat → Value} {ty : TypeId} (h : BoxF W b n f ty) (hc : b ≠ c) (o : Nat) (x : Value) : BoxF (W.setCell ⟨c, o, none⟩ x) b n f ty := h.to (set_other _ hc)
theorem boxF_alloc (w : World) (n : Nat) (z : Value) (ty : TypeId) : BoxF (w.alloc (.cells (Array.replicate n z) ty)) w.heap.size n (fun _ => z) ty :=
  ⟨_, alloc_at _ _, by simp, fun j hj => by simp [hj]⟩

theorem ownsRow_to {w w' : World} {B : Nat} {e : TypeId} {k : Nat} {v : Value} {n : Nat} {xs : List Value} (h : w.ownsRow B e k v n xs) (hb : ∀ g, v.ownBlock = some g → w'.heap[g]? = w.heap[g]?) : w'.ownsRow B e k v n xs := by
  refine ⟨h.1, ?_⟩
  rcases h.2 with hn | ⟨g, cap, cur, rfl, hB, hg, rest⟩
  · exact .inl hn
  · exact .inr ⟨g, cap, cur, rfl, hB, (hb g rfl).trans hg, rest⟩
theorem ownsRow_cell {w : World} {B : Nat} {e : TypeId} {k g n cap : Nat} {xs : List Value} (h : w.ownsRow B e k (.slice (some ⟨g, 0, none⟩) n cap) n xs) {j : Nat} {v : Value} (hv : xs[j]? = some v) : w.cell? ⟨g, j, none⟩ = some v := by
  rcases h.2 with ⟨h1, _⟩ | ⟨g', cap', cur, h1, _, hg, _, _, _, ht⟩
  · cases h1
  · cases h1
    rw [← ht] at hv
    have hlt := (List.getElem?_eq_some_iff.1 hv).1
    rw [List.length_take] at hlt
    rw [List.getElem?_take_of_lt (by omega), Array.getElem?_toList] at hv
    exact cell_of hg hv
theorem ownsRow_form {w : World} {B : Nat} {e : TypeId} {k n : Nat} {v : Value} {xs : List Value} (h : w.ownsRow B e k v n xs) : (v = .slice none 0 0 ∧ n = 0) ∨ ∃ g cap, v = .slice (some ⟨g, 0, none⟩) n cap ∧ n ≤ cap ∧ cap ≤ maxLen := by
  rcases h.2 with h1 | ⟨g, cap, cur, h1, _, _, hc, hm, _⟩
  · exact .inl h1
  · exact .inr ⟨g, cap, h1, hc, hm⟩
theorem ownsRow_slice {w : World} {B : Nat} {e : TypeId} {k n : Nat} {v : Value} {xs : List Value} (h : w.ownsRow B e k v n xs) : ∃ a c, v = .slice a n c := by
  rcases ownsRow_form h with ⟨e, h0⟩ | ⟨g, c, e, _⟩
  · exact ⟨none, 0, by rw [e, h0]⟩
  · exact ⟨_, c, e⟩
theorem ownsRow_below {w w' : World} {B : Nat} {e : TypeId} {k n : Nat} {v : Value} {xs : List Value} (h : w.ownsRow B e k v n xs) (hb : Below w.heap.size w w') : w'.ownsRow B e k v n xs :=
  ownsRow_to h fun g hg => hb.block g (h.lt g hg).2
theorem grown_own {w w1 : World} {B : Nat} {e : TypeId} {k : Nat} {v : Value} {n : Nat} {xs : List Value} (h : w.ownsRow B e k v n xs) (hB : B ≤ w.heap.size) (hg : w.grownBy w1 v.ownBlock) : Below B w w1 :=
  ⟨hg.os, hg.tape, hg.output, hg.size, fun b hb => hg.block b (by omega) (fun e => by have := (h.lt b e.symm).1; omega)⟩

def bs (s : ByteArray) : List UInt8 := s.data.toList
theorem bs_len (s : ByteArray) : (bs s).length = s.size := by
  show s.data.toList.length = s.data.size
  exact Array.length_toList
theorem bs_inj {a b : ByteArray} (h : bs a = bs b) : a = b := by
  have e2 : a.data = b.data := Array.toList_inj.1 h
  cases a; cases b; cases e2; rfl
theorem bs_mk (l : List UInt8) : bs ⟨l.toArray⟩ = l := rfl
theorem toList_bs (a : ByteArray) : a.toList = bs a := Lib.toList_data a
theorem beqS {a b : ByteArray} : (a.toList == b.toList) = decide (a = b) := by
  by_cases h : a = b
  · subst h; simp
  · rw [decide_eq_false h]
    have h' : ¬ a.toList = b.toList := fun e => h (bs_inj (by rw [← toList_bs, ← toList_bs, e]))
    simpa using h'
end Go.Proofs.YtnplmembdfklcaaGreatDoor
