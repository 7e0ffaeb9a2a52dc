/-
  The reader of packages in memory. Helper text; the conditions are those typed.
-/
import Derived.Test.YtjcefgjgjhdbpaaDoorTagA
import Derived.Test.YtjcefgjgjhdbpaaDoorDepPF
import Derived.Test.YtjcefgjgjhdbpaaDoorSuseSpec
namespace Go.Proofs.YtjcefgjgjhdbpaaDoor
set_option linter.unusedVariables false
set_option linter.unusedSimpArgs false
open Go.RowKit Go.Maps

/-- The map of the tags: the functions that hand out a list's place. -/
def tagFn (t : ByteArray) : Option Value := (listOf (bs t)).map fun i => .func (.func (20 + i.val)) #[] #[]
/-- What is read: the packages; the map; all but the package that is being read. -/
structure OutO (w : World) (L B M : Nat) (K : Nat → Prop) (out : List PkgT) (vo : Value) : Prop where
  lB : L ≤ B
  lM : L ≤ M
  map : ∃ F, MapAt Tryd.prog 9 w M 7 F ∧ ∀ t, F (.string t) = tagFn t
  row : ∃ xs, w.ownsRow L 34 12 vo out.length xs ∧ ∀ j (h : j < out.length), ∃ v vf, PkgV w K out[j] v vf ∧ ∀ r u, (pkgCells out[j].name out[j].evr out[j].arch out[j].vendor v vf)[r]? = some u → xs[j * 12 + r]? = some u
  fresh : ∀ b, K b → New L w b
  bm : B ≠ M
  vB : vo.ownBlock ≠ some B
  vM : vo.ownBlock ≠ some M
  kB : ¬ K B
  kM : ¬ K M
  kv : ∀ b, K b → vo.ownBlock ≠ some b
/-- The blocks of the package that is being read. -/
def rbk (v : Fin 7 → Value) (vf : Value) : Option (Fin 7) → Option Nat
  | some i => (v i).ownBlock
  | none => vf.ownBlock
/-- The package that is being read. -/
structure CurO (w : World) (L B M : Nat) (K : Nat → Prop) (vo : Value) (p : SP) (v : Fin 7 → Value) (vf : Value) : Prop where
  name : p.name.size ≤ maxLen
  evr : p.evr.size ≤ maxLen
  arch : p.arch.size ≤ maxLen
  vendor : p.vendor.size ≤ maxLen
  texts : ∀ s ∈ p.files, s.size ≤ maxLen
  rows : ∀ i, ∃ xs, w.ownsRow L 63 5 (v i) (p.L i).length xs ∧ ∀ j (h : j < (p.L i).length), ∃ cs, DepC w K (p.L i)[j] cs ∧ ∀ r u, cs[r]? = some u → xs[j * 5 + r]? = some u
  files : w.ownsRow L 9 1 vf p.files.length (p.files.map .string)
  apart : ∀ r s, r ≠ s → ∀ x, rbk v vf r = some x → rbk v vf s ≠ some x
  away : ∀ r x, rbk v vf r = some x → x ≠ B ∧ x ≠ M ∧ vo.ownBlock ≠ some x ∧ ¬ K x
/-- The reader's box. -/
def rdrCells (vo : Value) (p12 : List Value) (has : Bool) (M : Nat) : List Value := vo :: (p12 ++ [.bool has, .map (some M)])
structure Rdr (w : World) (L B M : Nat) (K : Nat → Prop) (out : List PkgT) (p : SP) (has : Bool) (vo : Value) (v : Fin 7 → Value) (vf : Value) : Prop where
  box : BoxN w B (rdrCells vo (pkgCells p.name p.evr p.arch p.vendor v vf) has M) 39
  outs : OutO w L B M K out vo
  cur : CurO w L B M K vo p v vf

theorem CurO.rlt {w : World} {L B M : Nat} {K : Nat → Prop} {vo : Value} {p : SP} {v : Fin 7 → Value} {vf : Value} (h : CurO w L B M K vo p v vf) {r : Option (Fin 7)} {x : Nat} (hx : rbk v vf r = some x) : L ≤ x ∧ x < w.heap.size := by
  cases r with
  | none => exact h.files.lt x hx
  | some i =>
    obtain ⟨xs, h1, _⟩ := h.rows i
    exact h1.lt x hx
/-- What turns neither the map, nor the packages, nor what they hold. -/
theorem OutO.keep {w w' : World} {L B M : Nat} {K : Nat → Prop} {out : List PkgT} {vo : Value} (h : OutO w L B M K out vo) (hk : ∀ b, b < w.heap.size → (b = M ∨ K b ∨ vo.ownBlock = some b) → w'.heap[b]? = w.heap[b]?) : OutO w' L B M K out vo := by
  have hK : ∀ b, K b → w'.heap[b]? = w.heap[b]? := fun b hb => hk b (h.fresh b hb).2.lt (.inr (.inl hb))
  refine ⟨h.lB, h.lM, ?_, ?_, fun b hb => ⟨(h.fresh b hb).1, (h.fresh b hb).2.keep (hK b hb)⟩, h.bm, h.vB, h.vM, h.kB, h.kM, h.kv⟩
  · obtain ⟨F, h1, h2⟩ := h.map
    exact ⟨F, h1.block (hk M h1.lt (.inl rfl)), h2⟩
  · obtain ⟨xs, h1, h2⟩ := h.row
    refine ⟨xs, ownsRow_to h1 fun g hg => hk g (h1.lt g hg).2 (.inr (.inr hg)), fun j hj => ?_⟩
    obtain ⟨v, vf, h3, h4⟩ := h2 j hj
    exact ⟨v, vf, h3.keep (fun _ hb => hb) (fun b hb _ => hK b hb), h4⟩
theorem OutO.below {w w' : World} {L B M : Nat} {K : Nat → Prop} {out : List PkgT} {vo : Value} (h : OutO w L B M K out vo) (hb : Below w.heap.size w w') : OutO w' L B M K out vo := h.keep fun b hl _ => hb.block b hl
theorem CurO.keep {w w' : World} {L B M : Nat} {K : Nat → Prop} {vo : Value} {p : SP} {v : Fin 7 → Value} {vf : Value} (h : CurO w L B M K vo p v vf) (hK : ∀ b, K b → b < w.heap.size → w'.heap[b]? = w.heap[b]?) (hk : ∀ r b, b < w.heap.size → rbk v vf r = some b → w'.heap[b]? = w.heap[b]?) : CurO w' L B M K vo p v vf := by
  refine ⟨h.name, h.evr, h.arch, h.vendor, h.texts, fun i => ?_, ownsRow_to h.files fun g hg => hk none g (h.files.lt g hg).2 hg, h.apart, h.away⟩
  obtain ⟨xs, h1, h2⟩ := h.rows i
  refine ⟨xs, ownsRow_to h1 fun g hg => hk (some i) g (h1.lt g hg).2 hg, fun j hj => ?_⟩
  obtain ⟨cs, h3, h4⟩ := h2 j hj
  exact ⟨cs, h3.keep (fun _ hb => hb) hK (fun _ _ => trivial), h4⟩
theorem CurO.below {w w' : World} {L B M : Nat} {K : Nat → Prop} {vo : Value} {p : SP} {v : Fin 7 → Value} {vf : Value} (h : CurO w L B M K vo p v vf) (hb : Below w.heap.size w w') : CurO w' L B M K vo p v vf := h.keep (fun b _ hl => hb.block b hl) (fun _ b hl _ => hb.block b hl)
theorem Rdr.below {w w' : World} {L B M : Nat} {K : Nat → Prop} {out : List PkgT} {p : SP} {has : Bool} {vo : Value} {v : Fin 7 → Value} {vf : Value} (h : Rdr w L B M K out p has vo v vf) (hb : Below w.heap.size w w') : Rdr w' L B M K out p has vo v vf :=
  ⟨h.box.below hb, h.outs.below hb, h.cur.below hb⟩

/-- Dependencies out of a row of our own. -/
theorem deps_of_row {w : World} {L : Nat} {K K' : Nat → Prop} (hKK : ∀ b, K b → K' b) {ds : List DepT} {vo : Value} {xs : List Value} (h : w.ownsRow L 63 5 vo ds.length xs) (hb : ∀ b, vo.ownBlock = some b → K' b) (hn : ds.length * 72 ≤ 140737488355328)
    (hd : ∀ j (h : j < ds.length), ∃ cs, DepC w K ds[j] cs ∧ ∀ r u, cs[r]? = some u → xs[j * 5 + r]? = some u) : DepsV w K' ds.length (fun j => ds[j]) vo := by
  rcases h.2 with ⟨e, h0⟩ | ⟨g, cap, cur, e, hg, hat, hcap, _, hsz, htake⟩
  · exact ⟨none, 0, by rw [e, h0], hn, fun h => absurd h0 h⟩
  · refine ⟨_, cap, e, hn, fun h0 => ⟨g, 0, rfl, hb g (by rw [e]; rfl), fun j => ?_⟩⟩
    obtain ⟨cs, h1, h2⟩ := hd j j.2
    refine ⟨cs, h1.keep hKK (fun _ _ _ => rfl) (fun _ _ => trivial), fun r u hr => ?_⟩
    refine cell_of hat ?_
    have h5 := h2 r u hr
    have hlt := (List.getElem?_eq_some_iff.1 h5).1
    rw [h.1] at hlt
    rw [← htake, List.getElem?_take_of_lt hlt] at h5
    rw [Nat.zero_add, ← Array.getElem?_toList]
    exact h5
theorem strs_of_row {w : World} {L : Nat} {K' : Nat → Prop} {l : List ByteArray} {vo : Value} (h : w.ownsRow L 9 1 vo l.length (l.map .string)) (hb : ∀ b, vo.ownBlock = some b → K' b) (hs : ∀ s ∈ l, s.size ≤ maxLen) (hn : l.length * 16 ≤ 140737488355328) : StrsV w K' l vo := by
  rcases h.2 with ⟨e, h0⟩ | ⟨g, cap, cur, e, hg, hat, hcap, _, hsz, htake⟩
  · exact ⟨none, 0, by rw [e, h0], hs, hn, fun h => absurd (List.length_eq_zero_iff.1 h0) h⟩
  · refine ⟨_, cap, e, hs, hn, fun h0 => ⟨g, 0, rfl, hb g (by rw [e]; rfl), fun i hi => ?_⟩⟩
    refine cell_of hat ?_
    have h5 : (l.map Value.string)[i]? = some (.string l[i]) := by simp [hi]
    rw [← htake, List.getElem?_take_of_lt (by omega)] at h5
    rw [Nat.zero_add, ← Array.getElem?_toList]
    exact h5
/-- The blocks of what is read, the current package with it. -/
def withCur (K : Nat → Prop) (v : Fin 7 → Value) (vf : Value) (b : Nat) : Prop := K b ∨ ∃ r, rbk v vf r = some b
theorem row_fr {w : World} {L : Nat} {e : TypeId} {k n : Nat} {v : Value} {xs : List Value} (h : w.ownsRow L e k v n xs) {b : Nat} (hb : v.ownBlock = some b) : New L w b := by
  rcases h.2 with ⟨e, h0⟩ | ⟨g, cap, cur, e, hg, hat, _⟩
  · rw [e] at hb; cases hb
  · rw [e] at hb
    obtain rfl : g = b := Option.some.inj hb
    exact ⟨hg, _, _, hat⟩
theorem CurO.pkg {w : World} {L B M : Nat} {K : Nat → Prop} {vo : Value} {p : SP} {v : Fin 7 → Value} {vf : Value} (h : CurO w L B M K vo p v vf) (hn : ∀ i, (p.L i).length ≤ 1000000) (hf : p.files.length ≤ 1000000) : PkgV w (withCur K v vf) p.pkg v vf := by
  refine ⟨h.name, h.evr, h.arch, h.vendor, fun i => ?_, ?_⟩
  · obtain ⟨xs, h1, h2⟩ := h.rows i
    exact deps_of_row (fun b hb => .inl hb) h1 (fun b hb => .inr ⟨some i, hb⟩) (by have := hn i; omega) h2
  · exact strs_of_row h.files (fun b hb => .inr ⟨none, hb⟩) h.texts (by show p.files.length * 16 ≤ _; omega)
theorem CurO.fresh {w : World} {L B M : Nat} {K : Nat → Prop} {vo : Value} {p : SP} {v : Fin 7 → Value} {vf : Value} (h : CurO w L B M K vo p v vf) (hK : ∀ b, K b → New L w b) : ∀ b, withCur K v vf b → New L w b := by
  rintro b (hb | ⟨r, hr⟩)
  · exact hK b hb
  · cases r with
    | none => exact row_fr h.files hr
    | some i =>
      obtain ⟨xs, h1, _⟩ := h.rows i
      exact row_fr h1 hr
/-- A package of no list. -/
theorem CurO.empty {w : World} {L B M : Nat} {K : Nat → Prop} {vo : Value} (p : SP) (h1 : p.name.size ≤ maxLen) (h2 : p.evr.size ≤ maxLen) (h3 : p.arch.size ≤ maxLen) (h4 : p.vendor.size ≤ maxLen) (hL : ∀ i, p.L i = []) (hf : p.files = []) : CurO w L B M K vo p (fun _ => .slice none 0 0) (.slice none 0 0) := by
  refine ⟨h1, h2, h3, h4, fun s hs => ?_, fun i => ⟨[], ?_, fun j hj => ?_⟩, ?_, fun r s _ x hx => ?_, fun r x hx => ?_⟩
  · rw [hf] at hs; cases hs
  · rw [hL]; exact World.ownsRow_nil _ _ _ _
  · rw [hL] at hj; exact absurd hj (Nat.not_lt_zero _)
  · rw [hf]; exact World.ownsRow_nil _ _ _ _
  · cases r <;> cases hx
  · cases r <;> cases hx
end Go.Proofs.YtjcefgjgjhdbpaaDoor
