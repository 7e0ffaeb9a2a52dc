/-
  Memory: rows of our own, blocks that may be written. Helper text; the conditions are those typed.
-/
import Derived.Test.YtjcefgjgjhdbpaaGreatDoorChkD
namespace Go.Proofs.YtjcefgjgjhdbpaaGreatDoor
set_option linter.unusedVariables false
set_option linter.unusedSimpArgs false
open Go.RowKit Go.Maps

theorem one_cells {w : World} {S : Nat → Prop} {d : DepT} {cs : List Value} (h : DepC w S d cs) : ∀ u ∈ cs, u.oneCell' = true := by
  cases d with
  | mk k nm op ev n args =>
    obtain ⟨a, c, rfl, _⟩ := h
    intro u hu
    simp only [List.mem_cons, List.not_mem_nil, or_false] at hu
    rcases hu with rfl | rfl | rfl | rfl | rfl <;> rfl

theorem set_cells {w : World} {g o : Nat} {cur : Array Value} {ty : TypeId} {fz : Nat × Nat} (h : w.heap[g]? = some (.cells cur ty fz)) (v : Value) : (w.setCell ⟨g, o, none⟩ v).heap[g]? = some (.cells (cur.setIfInBounds o v) ty fz) := by
  unfold World.setCell
  simp [Array.getElem?_modify, h]
theorem set_other {w : World} {g c o : Nat} (v : Value) (hc : c ≠ g) : (w.setCell ⟨g, o, none⟩ v).heap[c]? = w.heap[c]? := by
  unfold World.setCell
  simp [Array.getElem?_modify, Ne.symm hc]
theorem set_size {w : World} {g o : Nat} (v : Value) : (w.setCell ⟨g, o, none⟩ v).heap.size = w.heap.size := by
  unfold World.setCell
  simp
theorem cell_of {w : World} {g o : Nat} {cur : Array Value} {ty : TypeId} {fz : Nat × Nat} (h : w.heap[g]? = some (.cells cur ty fz)) {v : Value} (hv : cur[o]? = some v) : w.cell? ⟨g, o, none⟩ = some v := by
  unfold World.cell?
  simp [h, hv]
theorem frozen_of {w : World} {g o : Nat} {cur : Array Value} {ty : TypeId} (h : w.heap[g]? = some (.cells cur ty (0, 0))) : w.frozen? ⟨g, o, none⟩ = false := by
  unfold World.frozen?
  simp [h]
theorem lt_of_cells {w : World} {g : Nat} {o : Obj} (h : w.heap[g]? = some o) : g < w.heap.size := by
  rcases Nat.lt_or_ge g w.heap.size with h' | h'
  · exact h'
  · rw [Array.getElem?_eq_none h'] at h; cases h

theorem flatL_len {α : Type} {k : Nat} (f : α → List Value) (hl : ∀ x, (f x).length = k) : ∀ l : List α, (l.flatMap f).length = l.length * k
  | [] => by simp
  | x :: l => by rw [List.flatMap_cons, List.length_append, hl, flatL_len f hl l, List.length_cons, Nat.succ_mul]; omega
theorem flatL_at {α : Type} {k : Nat} (f : α → List Value) (hl : ∀ x, (f x).length = k) : ∀ (l : List α) (i r : Nat) (h : i < l.length), r < k → (l.flatMap f)[i * k + r]? = (f l[i])[r]?
  | [], i, r, h, _ => absurd h (Nat.not_lt_zero _)
  | x :: l, 0, r, h, hr => by
    rw [List.flatMap_cons, Nat.zero_mul, Nat.zero_add, List.getElem?_append_left (by rw [hl]; exact hr)]
    rfl
  | x :: l, i + 1, r, h, hr => by
    rw [List.flatMap_cons, List.getElem?_append_right (by rw [hl, Nat.succ_mul]; omega), hl]
    rw [show (i + 1) * k + r - k = i * k + r by rw [Nat.succ_mul]; omega]
    exact flatL_at f hl l i r (by simpa using h) hr
theorem ownsRow_cell {w : World} {B : Nat} {e : TypeId} {k g n cap : Nat} {xs : List Value} (h : w.ownsRow B e k (.slice (some ⟨g, 0, none⟩) n cap) n xs) {j : Nat} {v : Value} (hv : xs[j]? = some v) : w.cell? ⟨g, j, none⟩ = some v := by
  rcases h.2 with ⟨h1, _⟩ | ⟨g', cap', cur, h1, _, hg, _, _, _, ht⟩
  · cases h1
  · cases h1
    rw [← ht] at hv
    have hlt := (List.getElem?_eq_some_iff.1 hv).1
    rw [List.length_take] at hlt
    rw [List.getElem?_take_of_lt (by omega), Array.getElem?_toList] at hv
    exact cell_of hg hv
theorem ownsRow_form {w : World} {B : Nat} {e : TypeId} {k n : Nat} {v : Value} {xs : List Value} (h : w.ownsRow B e k v n xs) : (v = .slice none 0 0 ∧ n = 0) ∨ ∃ g cap, v = .slice (some ⟨g, 0, none⟩) n cap ∧ n ≤ cap ∧ cap ≤ maxLen := by
  rcases h.2 with h1 | ⟨g, cap, cur, h1, _, _, hc, hm, _⟩
  · exact .inl h1
  · exact .inr ⟨g, cap, h1, hc, hm⟩

theorem beqS {a b : ByteArray} : (a.toList == b.toList) = decide (a = b) := by
  by_cases h : a = b
  · subst h; simp
  · rw [decide_eq_false h]
    have h' : ¬ a.toList = b.toList := fun e => h (by
      have : bs a = bs b := by rw [← bs_toList, ← bs_toList, e]
      have e2 : a.data = b.data := by
        have : a.data.toList = b.data.toList := this
        exact Array.toList_inj.1 this
      cases a; cases b; cases e2; rfl)
    simpa using h'

theorem ownsRow_to {w w' : World} {B : Nat} {e : TypeId} {k : Nat} {v : Value} {n : Nat} {xs : List Value} (h : w.ownsRow B e k v n xs) (hb : ∀ g, v.ownBlock = some g → w'.heap[g]? = w.heap[g]?) : w'.ownsRow B e k v n xs := by
  refine ⟨h.1, ?_⟩
  rcases h.2 with hn | ⟨g, cap, cur, rfl, hB, hg, rest⟩
  · exact .inl hn
  · exact .inr ⟨g, cap, cur, rfl, hB, (hb g rfl).trans hg, rest⟩

theorem ownsRow_below {w w' : World} {B : Nat} {e : TypeId} {k : Nat} {v : Value} {n : Nat} {xs : List Value} (h : w.ownsRow B e k v n xs) (hb : Below w.heap.size w w') : w'.ownsRow B e k v n xs := ownsRow_to h fun g hg => hb.block g (h.lt g hg).2
theorem ownsRow_slice {w : World} {B : Nat} {e : TypeId} {k : Nat} {v : Value} {n : Nat} {xs : List Value} (h : w.ownsRow B e k v n xs) : ∃ a c, v = .slice a n c := by
  rcases ownsRow_form h with ⟨e, h0⟩ | ⟨g, c, e, _⟩
  · exact ⟨none, 0, by rw [e, h0]⟩
  · exact ⟨_, c, e⟩
/-- A block of cells that may be written. -/
def Fr (w : World) (b : Nat) : Prop := ∃ cur ty, w.heap[b]? = some (.cells cur ty (0, 0))
theorem Fr.lt {w : World} {b : Nat} (h : Fr w b) : b < w.heap.size := by
  obtain ⟨cur, ty, h⟩ := h
  exact lt_of_cells h
theorem Fr.frozen {w : World} {b : Nat} (h : Fr w b) (o : Nat) : w.frozen? ⟨b, o, none⟩ = false := by
  obtain ⟨cur, ty, h⟩ := h
  exact frozen_of h
theorem Fr.keep {w w' : World} {b : Nat} (h : Fr w b) (hk : w'.heap[b]? = w.heap[b]?) : Fr w' b := by
  obtain ⟨cur, ty, h⟩ := h
  exact ⟨cur, ty, hk.trans h⟩
theorem Fr.below {w w' : World} {b : Nat} (h : Fr w b) (hb : Below w.heap.size w w') : Fr w' b := h.keep (hb.block b h.lt)
theorem Fr.set {w : World} {b : Nat} (h : Fr w b) (g o : Nat) (v : Value) : Fr (w.setCell ⟨g, o, none⟩ v) b := by
  by_cases e : b = g
  · subst e
    obtain ⟨cur, ty, h⟩ := h
    exact ⟨_, ty, set_cells h v⟩
  · exact h.keep (set_other v e)
theorem Fr.of_box {w : World} {b : Nat} {cs : List Value} {ty : TypeId} (h : BoxN w b cs ty) : Fr w b := ⟨_, ty, h⟩
/-- Blocks from B on that may be written. -/
def New (B : Nat) (w : World) (b : Nat) : Prop := B ≤ b ∧ Fr w b
theorem New.below {B : Nat} {w w' : World} {b : Nat} (h : New B w b) (hb : Below w.heap.size w w') : New B w' b := ⟨h.1, h.2.below hb⟩
theorem DepsV.new {B : Nat} {w w' : World} {n : Nat} {args : Fin n → DepT} {v : Value} (h : DepsV w (New B w) n args v) (hb : Below w.heap.size w w') : DepsV w' (New B w') n args v :=
  h.keep (fun b hn => hn.below hb) (fun b hn _ => hb.block b hn.2.lt)
theorem DepC.new {B : Nat} {w w' : World} {d : DepT} {cs : List Value} (h : DepC w (New B w) d cs) (hb : Below w.heap.size w w') : DepC w' (New B w') d cs :=
  h.keep (fun b hn => hn.below hb) (fun b hn _ => hb.block b hn.2.lt) (fun _ _ => trivial)
theorem StrsV.new {B : Nat} {w w' : World} {l : List ByteArray} {v : Value} (h : StrsV w (New B w) l v) (hb : Below w.heap.size w w') : StrsV w' (New B w') l v :=
  h.keep (fun b hn => hn.below hb) (fun b hn _ => hb.block b hn.2.lt)
theorem PkgV.new {B : Nat} {w w' : World} {p : PkgT} {v : Fin 7 → Value} {vf : Value} (h : PkgV w (New B w) p v vf) (hb : Below w.heap.size w w') : PkgV w' (New B w') p v vf :=
  h.keep (fun b hn => hn.below hb) (fun b hn _ => hb.block b hn.2.lt)

theorem BoxN.set {w : World} {b : Nat} {cs : List Value} {ty : TypeId} (h : BoxN w b cs ty) (o : Nat) (x : Value) : BoxN (w.setCell ⟨b, o, none⟩ x) b (cs.set o x) ty := by
  have := set_cells (o := o) h x
  unfold BoxN
  rw [this]
  simp
/-- From one world to the next: only blocks of M turn, what is M' is of M or new. -/
structure MMv (M : Nat → Prop) (w : World) (M' : Nat → Prop) (w' : World) : Prop where
  os : w'.os = w.os
  tape : w'.tape = w.tape
  output : w'.output = w.output
  size : w.heap.size ≤ w'.heap.size
  block : ∀ b, b < w.heap.size → ¬ M b → w'.heap[b]? = w.heap[b]? ∧ ¬ M' b
theorem MMv.refl (M : Nat → Prop) (w : World) : MMv M w M w := ⟨rfl, rfl, rfl, Nat.le_refl _, fun b _ h => ⟨rfl, h⟩⟩
theorem MMv.trans {M0 M1 M2 : Nat → Prop} {w0 w1 w2 : World} (h : MMv M0 w0 M1 w1) (k : MMv M1 w1 M2 w2) : MMv M0 w0 M2 w2 :=
  ⟨k.os.trans h.os, k.tape.trans h.tape, k.output.trans h.output, Nat.le_trans h.size k.size, fun b hb hM => by
    obtain ⟨h1, h2⟩ := h.block b hb hM
    obtain ⟨k1, k2⟩ := k.block b (Nat.lt_of_lt_of_le hb h.size) h2
    exact ⟨k1.trans h1, k2⟩⟩
theorem MMv.of_below {M : Nat → Prop} {w w' : World} (h : Below w.heap.size w w') : MMv M w M w' := ⟨h.os, h.tape, h.output, h.size, fun b hb hM => ⟨h.block b hb, hM⟩⟩

/-- The packages that a slice value reads as. -/
def PkgsV (w : World) (S : Nat → Prop) (l : List PkgT) (v : Value) : Prop := ∃ a c, v = .slice a l.length c ∧ l.length * 256 ≤ 140737488355328 ∧
  (l ≠ [] → ∃ b off, a = some ⟨b, off, none⟩ ∧ S b ∧ ∀ i (h : i < l.length), ∃ v vf, PkgV w S l[i] v vf ∧ CellsAt w b (off + i * 12) (pkgCells l[i].name l[i].evr l[i].arch l[i].vendor v vf))
theorem PkgsV.keep {w w' : World} {S S' : Nat → Prop} (hS : ∀ b, S b → S' b) (hk : ∀ b, S b → b < w.heap.size → w'.heap[b]? = w.heap[b]?) {l : List PkgT} {v : Value} (h : PkgsV w S l v) : PkgsV w' S' l v := by
  obtain ⟨a, c, e, hn, h⟩ := h
  refine ⟨a, c, e, hn, fun hl => ?_⟩
  obtain ⟨b, off, ea, hb, hi⟩ := h hl
  have hlt : b < w.heap.size := by
    obtain ⟨v, vf, _, hc⟩ := hi 0 (List.length_pos_iff.2 hl)
    exact World.block_lt_of_cell? w _ (hc 0 _ rfl)
  refine ⟨b, off, ea, hS b hb, fun i h => ?_⟩
  obtain ⟨v, vf, h1, h2⟩ := hi i h
  exact ⟨v, vf, h1.keep hS hk, h2.keep (hk b hb hlt)⟩
/-- The package at a place, its cells told. -/
structure PkgAt (w : World) (S : Nat → Prop) (p : PkgT) (b o : Nat) (a : Fin 7 → Option Addr) (c : Fin 7 → Nat) (af : Option Addr) (nf cf : Nat) : Prop where
  pkg : PkgV w S p (fun i => .slice (a i) (p.n i) (c i)) (.slice af nf cf)
  cells : CellsAt w b o (pkgCells p.name p.evr p.arch p.vendor (fun i => .slice (a i) (p.n i) (c i)) (.slice af nf cf))
theorem pkg_of {w : World} {S : Nat → Prop} {p : PkgT} {b o : Nat} {v : Fin 7 → Value} {vf : Value} (h : PkgV w S p v vf) (hc : CellsAt w b o (pkgCells p.name p.evr p.arch p.vendor v vf)) : ∃ a c af nf cf, PkgAt w S p b o a c af nf cf := by
  obtain ⟨a, c, rfl⟩ := h.slices
  obtain ⟨af, cf, hf, _⟩ := h.files
  subst hf
  exact ⟨a, c, af, _, cf, h, hc⟩
theorem pkgs_at {w : World} {S : Nat → Prop} {l : List PkgT} {a : Option Addr} {n c : Nat} (h : PkgsV w S l (.slice a n c)) : n = l.length ∧ n * 256 ≤ 140737488355328 ∧ (n ≠ 0 → ∃ b off, a = some ⟨b, off, none⟩ ∧ S b ∧ ∀ i (h : i < l.length), ∃ a c af nf cf, PkgAt w S l[i] b (off + i * 12) a c af nf cf) := by
  obtain ⟨a2, c2, e, hn, hi⟩ := h
  injection e with h1 h2 h3
  subst h1 h2 h3
  refine ⟨rfl, hn, fun h0 => ?_⟩
  obtain ⟨b, off, ea, hb, hi⟩ := hi (fun e => h0 (by rw [e]; rfl))
  refine ⟨b, off, ea, hb, fun i h => ?_⟩
  obtain ⟨v, vf, h1, h2⟩ := hi i h
  exact pkg_of h1 h2

/-- The packages lie in a block of their own. -/
def PkgsA (w : World) (S : Nat → Prop) (ps : List PkgT) (a : Option Addr) : Prop :=
  ps ≠ [] → ∃ b off, a = some ⟨b, off, none⟩ ∧ ¬ S b ∧ Fr w b ∧ ∀ i (h : i < ps.length), ∃ v vf, PkgV w S ps[i] v vf ∧ CellsAt w b (off + i * 12) (pkgCells ps[i].name ps[i].evr ps[i].arch ps[i].vendor v vf)

end Go.Proofs.YtjcefgjgjhdbpaaGreatDoor
