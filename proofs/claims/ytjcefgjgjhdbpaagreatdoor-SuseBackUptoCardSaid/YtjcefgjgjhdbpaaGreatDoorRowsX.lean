/-
  Rows of dependencies and packages built by appends. Helper text; the conditions are those typed.
-/
import Derived.Test.YtjcefgjgjhdbpaaGreatDoorMemX
import Derived.Test.YtjcefgjgjhdbpaaGreatDoorOrd
import Derived.Deep.AppendLies
import Derived.Deep.CutBlock
import Derived.Deep.CutRange
import Derived.BigQuiet
import Derived.BigRegion
namespace Go.Proofs.YtjcefgjgjhdbpaaGreatDoor
set_option linter.unusedVariables false
set_option linter.unusedSimpArgs false
open Go.RowKit Go.Maps

/-- The first i of the dependencies lie in a row of our own, from L on; their lists in other blocks. -/
structure DepRow (w : World) (L : Nat) (vo : Value) (i n : Nat) (args : Fin n → DepT) (xs : List Value) : Prop where
  row : w.ownsRow L 73 5 vo i xs
  has : ∀ j : Fin n, j.val < i → ∃ cs, DepC w (fun b => New L w b ∧ vo.ownBlock ≠ some b) (args j) cs ∧ ∀ r u, cs[r]? = some u → xs[j.val * 5 + r]? = some u
theorem DepRow.nil (w : World) (L n : Nat) (args : Fin n → DepT) : DepRow w L (.slice none 0 0) 0 n args [] :=
  ⟨World.ownsRow_nil _ _ _ _, fun j hj => absurd hj (Nat.not_lt_zero _)⟩
theorem DepRow.keep {w w' : World} {L : Nat} {vo : Value} {i n : Nat} {args : Fin n → DepT} {xs : List Value} (h : DepRow w L vo i n args xs) (hk : ∀ b, L ≤ b → b < w.heap.size → w'.heap[b]? = w.heap[b]?) : DepRow w' L vo i n args xs := by
  refine ⟨ownsRow_to h.row fun g hg => hk g (h.row.lt g hg).1 (h.row.lt g hg).2, fun j hj => ?_⟩
  obtain ⟨cs, h1, h2⟩ := h.has j hj
  exact ⟨cs, h1.keep (fun b hb => ⟨⟨hb.1.1, hb.1.2.keep (hk b hb.1.1 hb.1.2.lt)⟩, hb.2⟩) (fun b hb hl => hk b hb.1.1 hl) (fun _ _ => trivial), h2⟩
theorem DepRow.below {w w' : World} {L : Nat} {vo : Value} {i n : Nat} {args : Fin n → DepT} {xs : List Value} (h : DepRow w L vo i n args xs) (hb : Below w.heap.size w w') : DepRow w' L vo i n args xs := h.keep fun b _ hl => hb.block b hl
/-- One more. -/
theorem DepRow.step {w wa w9 : World} {L : Nat} {vo : Value} {i n : Nat} {args : Fin n → DepT} {xs cs : List Value} (h : DepRow w L vo i n args xs) (hL : L ≤ w.heap.size) (hb : Below w.heap.size w wa) (hi : i < n) (hv : DepC wa (New w.heap.size wa) (args ⟨i, hi⟩) cs) {g cap : Nat}
    (hown : w9.ownsRow L 73 5 (.slice (some ⟨g, 0, none⟩) (i + 1) cap) (i + 1) (xs ++ cs)) (hgrow : wa.grownBy w9 vo.ownBlock) (hat : vo.ownBlock = some g ∨ g = wa.heap.size) : DepRow w9 L (.slice (some ⟨g, 0, none⟩) (i + 1) cap) (i + 1) n args (xs ++ cs) := by
  have hxl : xs.length = i * 5 := h.row.1
  have hsz := hb.size
  refine ⟨hown, fun j hj => ?_⟩
  have hgb : ∀ b, (Value.slice (some ⟨g, 0, none⟩) (i + 1) cap).ownBlock ≠ some b ↔ b ≠ g := fun b => by
    show some g ≠ some b ↔ b ≠ g
    constructor
    · intro h e; exact h (by rw [e])
    · intro h e; exact h (Option.some.inj e).symm
  by_cases e : j.val = i
  · obtain rfl : j = ⟨i, hi⟩ := Fin.ext e
    have hne : ∀ b, New w.heap.size wa b → vo.ownBlock ≠ some b ∧ b ≠ g := fun b hb' => by
      refine ⟨fun e => ?_, fun e => ?_⟩
      · have := (h.row.lt b e).2
        have := hb'.1
        omega
      · subst e
        rcases hat with h1 | h1
        · have := (h.row.lt b h1).2
          have := hb'.1
          omega
        · have := hb'.2.lt
          omega
    refine ⟨cs, hv.keep (fun b hb' => ⟨⟨by have := hb'.1; omega, hb'.2.keep (hgrow.block b hb'.2.lt (fun e => (hne b hb').1 e.symm))⟩, (hgb b).2 (hne b hb').2⟩) (fun b hb' hl => hgrow.block b hl (fun e => (hne b hb').1 e.symm)) (fun _ _ => trivial), fun r u hr => ?_⟩
    rw [List.getElem?_append_right (by simp only; omega), hxl]
    simp only
    rw [show i * 5 + r - i * 5 = r by omega]
    exact hr
  · obtain ⟨c2, h1, h2⟩ := h.has j (by omega)
    have hk : ∀ b, New L w b ∧ vo.ownBlock ≠ some b → w9.heap[b]? = w.heap[b]? := fun b hb' =>
      (hgrow.block b (Nat.lt_of_lt_of_le hb'.1.2.lt hsz) (fun e => hb'.2 e.symm)).trans (hb.block b hb'.1.2.lt)
    have hng : ∀ b, New L w b ∧ vo.ownBlock ≠ some b → b ≠ g := fun b hb' e => by
      subst e
      rcases hat with h1 | h1
      · exact hb'.2 h1
      · have := hb'.1.2.lt
        omega
    refine ⟨c2, h1.keep (fun b hb' => ⟨⟨hb'.1.1, hb'.1.2.keep (hk b hb')⟩, (hgb b).2 (hng b hb')⟩) (fun b hb' _ => hk b hb') (fun _ _ => trivial), fun r u hr => ?_⟩
    have hr5 : r < 5 := by
      have := (List.getElem?_eq_some_iff.1 hr).1
      rwa [h1.len] at this
    rw [List.getElem?_append_left (by omega)]
    exact h2 r u hr
/-- All of them. -/
theorem DepRow.deps {w : World} {L : Nat} {vo : Value} {n : Nat} {args : Fin n → DepT} {xs : List Value} (h : DepRow w L vo n n args xs) (hn : n * 72 ≤ 140737488355328) : (∃ a c, vo = .slice a n c) ∧ DepsV w (New L w) n args vo := by
  rcases h.row.2 with ⟨e, h0⟩ | ⟨g, cap, cur, e, hg, hat, hcap, _, hsz, htake⟩
  · subst h0
    exact ⟨⟨none, 0, e⟩, none, 0, e, hn, fun h => absurd rfl h⟩
  · refine ⟨⟨_, cap, e⟩, _, cap, e, hn, fun h0 => ⟨g, 0, rfl, ⟨hg, _, _, hat⟩, fun j => ?_⟩⟩
    obtain ⟨cs, h1, h2⟩ := h.has j j.2
    refine ⟨cs, h1.keep (fun b hb => hb.1) (fun _ _ _ => rfl) (fun _ _ => trivial), fun r u hr => ?_⟩
    refine cell_of hat ?_
    have h5 := h2 r u hr
    have hlt := (List.getElem?_eq_some_iff.1 h5).1
    rw [h.row.1] at hlt
    rw [← htake, List.getElem?_take_of_lt hlt] at h5
    rw [Nat.zero_add, ← Array.getElem?_toList]
    exact h5
theorem DepRow.form {w : World} {L : Nat} {vo : Value} {i n : Nat} {args : Fin n → DepT} {xs : List Value} (h : DepRow w L vo i n args xs) : ∃ a c, vo = .slice a i c := by
  rcases h.row.2 with ⟨e, h0⟩ | ⟨g, cap, cur, e, _⟩
  · subst h0; exact ⟨none, 0, e⟩
  · exact ⟨_, cap, e⟩
theorem DepC.cells1 {w : World} {S : Nat → Prop} {d : DepT} {cs : List Value} (h : DepC w S d cs) : ∀ u ∈ cs, u.oneCell' = true := one_cells h
theorem DepC.shape {w : World} {S : Nat → Prop} {d : DepT} {cs : List Value} (h : DepC w S d cs) : ∃ k nm op ev a n c, cs = [.int .i64 k, .string nm, .int .i64 op, .string ev, .slice a n c] := by
  cases d with
  | mk k nm op ev n args =>
    obtain ⟨a, c, rfl, _⟩ := h
    exact ⟨_, _, _, _, _, _, _, rfl⟩
theorem fill5 {w : World} {r : Nat} {z0 z1 z2 z3 z4 : Value} {ty : TypeId} (h : BoxN w r [z0, z1, z2, z3, z4] ty) (x0 x1 x2 x3 x4 : Value) :
    BoxN (((((w.setCell ⟨r, 0, none⟩ x0).setCell ⟨r, 1, none⟩ x1).setCell ⟨r, 2, none⟩ x2).setCell ⟨r, 3, none⟩ x3).setCell ⟨r, 4, none⟩ x4) r [x0, x1, x2, x3, x4] ty := by
  exact ((((h.set 0 x0).set 1 x1).set 2 x2).set 3 x3).set 4 x4
theorem fill5_other {w : World} {r b : Nat} (hb : b ≠ r) (x0 x1 x2 x3 x4 : Value) :
    (((((w.setCell ⟨r, 0, none⟩ x0).setCell ⟨r, 1, none⟩ x1).setCell ⟨r, 2, none⟩ x2).setCell ⟨r, 3, none⟩ x3).setCell ⟨r, 4, none⟩ x4).heap[b]? = w.heap[b]? := by
  rw [set_other _ hb, set_other _ hb, set_other _ hb, set_other _ hb, set_other _ hb]
theorem fill5_below {B : Nat} {w : World} {r : Nat} (hr : B ≤ r) (x0 x1 x2 x3 x4 : Value) :
    Below B w (((((w.setCell ⟨r, 0, none⟩ x0).setCell ⟨r, 1, none⟩ x1).setCell ⟨r, 2, none⟩ x2).setCell ⟨r, 3, none⟩ x3).setCell ⟨r, 4, none⟩ x4) :=
  below_sc (below_sc (below_sc (below_sc (below_sc (Below.refl _ _) hr _ _) hr _ _) hr _ _) hr _ _) hr _ _
theorem info9s : (Tryz.prog.info? 9).map (fun i => (i.zero, i.size, i.bytes)) = some (some (.string ⟨#[]⟩), 1, 16) := by kernel_rfl
theorem info44 : (Tryz.prog.info? 36).map (fun i => (i.zero, i.size, i.bytes)) = some (some (.agg #[.string ⟨#[]⟩, .string ⟨#[]⟩, .string ⟨#[]⟩, .string ⟨#[]⟩, .slice none 0 0, .slice none 0 0, .slice none 0 0, .slice none 0 0, .slice none 0 0, .slice none 0 0, .slice none 0 0, .slice none 0 0]), 12, 256) := by kernel_rfl


/-- The first i of the packages lie in a row of our own, from L on; what they hold in other blocks. -/
structure PkgRow (w : World) (L : Nat) (vo : Value) (i : Nat) (ps : List PkgT) (xs : List Value) : Prop where
  row : w.ownsRow L 36 12 vo i xs
  has : ∀ j (h : j < ps.length), j < i → ∃ v vf, PkgV w (fun b => New L w b ∧ vo.ownBlock ≠ some b) ps[j] v vf ∧ ∀ r u, (pkgCells ps[j].name ps[j].evr ps[j].arch ps[j].vendor v vf)[r]? = some u → xs[j * 12 + r]? = some u
theorem PkgRow.nil (w : World) (L : Nat) (ps : List PkgT) : PkgRow w L (.slice none 0 0) 0 ps [] :=
  ⟨World.ownsRow_nil _ _ _ _, fun j h hj => absurd hj (Nat.not_lt_zero _)⟩
theorem PkgRow.keep {w w' : World} {L : Nat} {vo : Value} {i : Nat} {ps : List PkgT} {xs : List Value} (h : PkgRow w L vo i ps xs) (hk : ∀ b, L ≤ b → b < w.heap.size → w'.heap[b]? = w.heap[b]?) : PkgRow w' L vo i ps xs := by
  refine ⟨ownsRow_to h.row fun g hg => hk g (h.row.lt g hg).1 (h.row.lt g hg).2, fun j hj hji => ?_⟩
  obtain ⟨v, vf, h1, h2⟩ := h.has j hj hji
  exact ⟨v, vf, h1.keep (fun b hb => ⟨⟨hb.1.1, hb.1.2.keep (hk b hb.1.1 hb.1.2.lt)⟩, hb.2⟩) (fun b hb hl => hk b hb.1.1 hl), h2⟩
theorem PkgRow.below {w w' : World} {L : Nat} {vo : Value} {i : Nat} {ps : List PkgT} {xs : List Value} (h : PkgRow w L vo i ps xs) (hb : Below w.heap.size w w') : PkgRow w' L vo i ps xs := h.keep fun b _ hl => hb.block b hl
/-- One more. -/
theorem PkgRow.step {w wa w9 : World} {L : Nat} {vo : Value} {i : Nat} {ps : List PkgT} {xs : List Value} (h : PkgRow w L vo i ps xs) (hL : L ≤ w.heap.size) (hb : Below w.heap.size w wa) (hi : i < ps.length) {v : Fin 7 → Value} {vf : Value} (hv : PkgV wa (New w.heap.size wa) ps[i] v vf) {g cap : Nat}
    (hown : w9.ownsRow L 36 12 (.slice (some ⟨g, 0, none⟩) (i + 1) cap) (i + 1) (xs ++ pkgCells ps[i].name ps[i].evr ps[i].arch ps[i].vendor v vf)) (hgrow : wa.grownBy w9 vo.ownBlock) (hat : vo.ownBlock = some g ∨ g = wa.heap.size) :
    PkgRow w9 L (.slice (some ⟨g, 0, none⟩) (i + 1) cap) (i + 1) ps (xs ++ pkgCells ps[i].name ps[i].evr ps[i].arch ps[i].vendor v vf) := by
  have hxl : xs.length = i * 12 := h.row.1
  have hsz := hb.size
  refine ⟨hown, fun j hj hji => ?_⟩
  have hgb : ∀ b, (Value.slice (some ⟨g, 0, none⟩) (i + 1) cap).ownBlock ≠ some b ↔ b ≠ g := fun b => by
    show some g ≠ some b ↔ b ≠ g
    constructor
    · intro h e; exact h (by rw [e])
    · intro h e; exact h (Option.some.inj e).symm
  by_cases e : j = i
  · subst e
    have hne : ∀ b, New w.heap.size wa b → vo.ownBlock ≠ some b ∧ b ≠ g := fun b hb' => by
      refine ⟨fun e => ?_, fun e => ?_⟩
      · have := (h.row.lt b e).2
        have := hb'.1
        omega
      · subst e
        rcases hat with h1 | h1
        · have := (h.row.lt b h1).2
          have := hb'.1
          omega
        · have := hb'.2.lt
          omega
    refine ⟨v, vf, hv.keep (fun b hb' => ⟨⟨by have := hb'.1; omega, hb'.2.keep (hgrow.block b hb'.2.lt (fun e => (hne b hb').1 e.symm))⟩, (hgb b).2 (hne b hb').2⟩) (fun b hb' hl => hgrow.block b hl (fun e => (hne b hb').1 e.symm)), fun r u hr => ?_⟩
    rw [List.getElem?_append_right (by omega), hxl, show j * 12 + r - j * 12 = r by omega]
    exact hr
  · obtain ⟨v2, vf2, h1, h2⟩ := h.has j hj (by omega)
    have hk : ∀ b, New L w b ∧ vo.ownBlock ≠ some b → w9.heap[b]? = w.heap[b]? := fun b hb' =>
      (hgrow.block b (Nat.lt_of_lt_of_le hb'.1.2.lt hsz) (fun e => hb'.2 e.symm)).trans (hb.block b hb'.1.2.lt)
    have hng : ∀ b, New L w b ∧ vo.ownBlock ≠ some b → b ≠ g := fun b hb' e => by
      subst e
      rcases hat with h1 | h1
      · exact hb'.2 h1
      · have := hb'.1.2.lt
        omega
    refine ⟨v2, vf2, h1.keep (fun b hb' => ⟨⟨hb'.1.1, hb'.1.2.keep (hk b hb')⟩, (hgb b).2 (hng b hb')⟩) (fun b hb' _ => hk b hb'), fun r u hr => ?_⟩
    have hr12 : r < 12 := (List.getElem?_eq_some_iff.1 hr).1
    rw [List.getElem?_append_left (by omega)]
    exact h2 r u hr
theorem PkgRow.form {w : World} {L : Nat} {vo : Value} {i : Nat} {ps : List PkgT} {xs : List Value} (h : PkgRow w L vo i ps xs) : ∃ a c, vo = .slice a i c := by
  rcases h.row.2 with ⟨e, h0⟩ | ⟨g, cap, cur, e, _⟩
  · subst h0; exact ⟨none, 0, e⟩
  · exact ⟨_, cap, e⟩
/-- All of them: packages in memory of their own. -/
def OwnPk (w : World) (L : Nat) (ps : List PkgT) (a : Option Addr) : Prop := ∃ S : Nat → Prop, (∀ b, S b → New L w b) ∧ PkgsA w S ps a ∧ ∀ b off, a = some ⟨b, off, none⟩ → L ≤ b ∧ b < w.heap.size
theorem PkgRow.own {w : World} {L : Nat} {a : Option Addr} {n c : Nat} {ps : List PkgT} {xs : List Value} (h : PkgRow w L (.slice a n c) n ps xs) (hn : ps.length = n) : OwnPk w L ps a := by
  refine ⟨fun b => New L w b ∧ (Value.slice a n c).ownBlock ≠ some b, fun b hb => hb.1, fun hne => ?_, fun b off e => ?_⟩
  · rcases h.row.2 with ⟨e, h0⟩ | ⟨g, cap, cur, e, hg, hat, hcap, _, hsz, htake⟩
    · subst h0
      exact absurd (List.length_eq_zero_iff.1 hn) hne
    · injection e with e1 e2 e3
      subst e1
      refine ⟨g, 0, rfl, fun hb => hb.2 rfl, ⟨_, _, hat⟩, fun i hi => ?_⟩
      obtain ⟨v, vf, h1, h2⟩ := h.has i hi (by omega)
      refine ⟨v, vf, h1, fun r u hr => ?_⟩
      refine cell_of hat ?_
      have h5 := h2 r u hr
      have hlt := (List.getElem?_eq_some_iff.1 h5).1
      rw [h.row.1] at hlt
      rw [← htake, List.getElem?_take_of_lt hlt] at h5
      rw [Nat.zero_add, ← Array.getElem?_toList]
      exact h5
  · subst e
    exact h.row.lt b rfl
theorem OwnPk.pkgs {w : World} {L : Nat} {ps : List PkgT} {a : Option Addr} {n c : Nat} (h : OwnPk w L ps a) (hn : ps.length = n) (hb : n * 256 ≤ 140737488355328) : PkgsV w (New L w) ps (.slice a n c) := by
  obtain ⟨S, hS, hp, hl⟩ := h
  subst hn
  refine ⟨a, c, rfl, hb, fun hne => ?_⟩
  obtain ⟨b, off, e, _, hf, hi⟩ := hp hne
  refine ⟨b, off, e, ⟨(hl b off e).1, hf⟩, fun i h => ?_⟩
  obtain ⟨v, vf, h1, h2⟩ := hi i h
  exact ⟨v, vf, h1.keep hS (fun _ _ _ => rfl), h2⟩

end Go.Proofs.YtjcefgjgjhdbpaaGreatDoor

