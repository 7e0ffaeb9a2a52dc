/-
  Directories: a directory more. Helper text; the conditions are those typed.
-/
import Derived.Test.YtnplmembdfklcaaGreatDoorStore
namespace Go.Proofs.YtnplmembdfklcaaGreatDoor
set_option linter.unusedVariables false
set_option linter.unusedSimpArgs false
open Go.RowKit Go.Maps

theorem idxD_snoc (ds : List (List UInt8 × Nat)) (p q : List UInt8) (u : Nat) : idxD (ds ++ [(p, u)]) q = (idxD ds q).or (if p = q then some ds.length else none) := by
  unfold idxD
  rw [List.findIdx?_append]
  congr 1
  by_cases h : p = q
  · simp [h]
  · simp [h]
theorem idxD_lt {ds : List (List UInt8 × Nat)} {p : List UInt8} {i : Nat} (h : idxD ds p = some i) : ∃ hi : i < ds.length, ds[i].1 = p := by
  unfold idxD at h
  rw [List.findIdx?_eq_some_iff_getElem] at h
  obtain ⟨h1, h2, _⟩ := h
  exact ⟨h1, by simpa using h2⟩

/-- Dir's way through the paths. -/
def runD : List (List UInt8 × Nat) → Nat → List (List UInt8) → List (List UInt8 × Nat) × Nat
  | ds, u, [] => (ds, u)
  | ds, u, p :: l => match idxD ds p with
    | some n => runD ds n l
    | none => runD (ds ++ [(p, u)]) ds.length l
/-- How many of the first ones are known. -/
def knownD (ds : List (List UInt8 × Nat)) : List (List UInt8) → Nat
  | [] => 0
  | p :: l => if (idxD ds p).isSome then knownD ds l + 1 else 0
theorem knownD_le (ds : List (List UInt8 × Nat)) : ∀ l, knownD ds l ≤ l.length
  | [] => Nat.le_refl _
  | p :: l => by
    unfold knownD
    split
    · simp; exact knownD_le ds l
    · omega
theorem knownD_all (ds : List (List UInt8 × Nat)) : ∀ (l : List (List UInt8)) (i : Nat), i ≤ l.length → (∀ j (h : j < l.length), j < i → (idxD ds l[j]).isSome = true) → ((h : i < l.length) → (idxD ds l[i]).isSome = false) → knownD ds l = i
  | [], i, hi, _, _ => by simp at hi; subst hi; rfl
  | p :: l, 0, hi, _, h2 => by
    have := h2 (by simp)
    unfold knownD
    simp at this
    simp [this]
  | p :: l, i + 1, hi, h1, h2 => by
    have h0 := h1 0 (by simp) (by omega)
    unfold knownD
    rw [List.getElem_cons_zero] at h0
    rw [if_pos h0, knownD_all ds l i (by simpa using hi) (fun j hj hji => h1 (j + 1) (by simpa using hj) (by omega)) (fun h => h2 (by simpa using h))]
/-- What Dir answers and leaves. -/
def dirErr (ds : List (List UInt8 × Nat)) (p : ByteArray) : Int := match upsL p with
  | none => 85
  | some l => if 2000 < ds.length + l.length - knownD ds l then 83 else 0
def dirRun (ds : List (List UInt8 × Nat)) (p : ByteArray) : List (List UInt8 × Nat) × Nat := if dirErr ds p = 0 then runD ds 0 ((upsL p).getD []) else (ds, 0)

section
variable {w w' : World} {B : Nat} {role role' : Nat → Role} {S K V L : Nat} {vk vd : Value} {ib : Int → Option Nat} {sl : Int → ByteArray → Value} {n : Nat} {st : StT}

theorem placesF_snoc {ds : List (List UInt8 × Nat)} {p : List UInt8} {u : Nat} (h : idxD ds p = none) : placesF (ds ++ [(p, u)]) (.string (mkB p)) = some (.int .i64 (ds.length : Int)) ∧ ∀ v, v ≠ .string (mkB p) → placesF (ds ++ [(p, u)]) v = placesF ds v := by
  constructor
  · show (idxD (ds ++ [(p, u)]) (bs (mkB p))).map _ = _
    rw [bs_mkB, idxD_snoc, h]
    simp
  · intro v hv
    cases v with
    | string s =>
      show (idxD (ds ++ [(p, u)]) (bs s)).map _ = (idxD ds (bs s)).map _
      rw [idxD_snoc, if_neg (fun e => hv (by rw [show s = mkB p from bs_inj (by rw [bs_mkB]; exact e.symm)]))]
      simp
    | _ => rfl

/-- A directory more: the row has grown, the map is told. -/
theorem StoreIn.dir_step {w2 w3 : World} (h : StoreIn w B role S K V L vk vd ib sl n st) {p : List UInt8} {u : Nat} (hp : idxD st.dirs p = none) (hB : B ≤ w.heap.size) {g cap : Nat}
    (hown : w2.ownsRow B 60 2 (.slice (some ⟨g, 0, none⟩) (st.dirs.length + 1) cap) (st.dirs.length + 1) (st.dirs.flatMap dirCells ++ dirCells (p, u))) (hgrow : w.grownBy w2 vd.ownBlock) (hat : vd.ownBlock = some g ∨ w.heap.size ≤ g) (hlt : g < w2.heap.size)
    (hm : MapAt Tryz.prog 9 w3 L (st.dirs.length + 1 + 1) (placesF (st.dirs ++ [(p, u)]))) (hg3 : (w2.setCell ⟨S, 3, none⟩ (.slice (some ⟨g, 0, none⟩) (st.dirs.length + 1) cap)).grownBy w3 (some L)) :
    ∃ role', Moved role w role' w3 ∧ StoreIn w3 B role' S K V L vk (.slice (some ⟨g, 0, none⟩) (st.dirs.length + 1) cap) ib sl n { st with dirs := st.dirs ++ [(p, u)] } := by
  have s1 := Step.of_row h.hi (R := .dirs) (by simp) h.rd hgrow hat hlt
  have s2 := Step.of_set s1.inn S 3 (.slice (some ⟨g, 0, none⟩) (st.dirs.length + 1) cap)
  have s3 := Step.of_grown s2.inn hg3
  have r1 : (fun b => if b = g then Role.dirs else role b) S = .box := (h.blk s1 h.rS (by simp) (by simp)).2
  have r2 : (fun b => if b = g then Role.dirs else role b) L = .places := (h.blk s1 h.rL (by simp) (by simp)).2
  have hs := (s1.trans (s2.trans s3)).mono (T2 := fun r => r = .dirs ∨ r = .box ∨ r = .places) (by rintro r (e | e | e); exact .inl e; exact .inr (.inl (e.trans r1)); exact .inr (.inr (e.trans r2)))
  have hSg : S ≠ g := fun e => by subst e; simp at r1
  have hSL : some S ≠ some L := fun e => by cases e; rw [r1] at r2; cases r2
  have hgL : some g ≠ some L := fun e => by cases e; simp at r2
  refine ⟨_, hs.mono (by rintro r (e | e | e) <;> rw [e] <;> simp), ?_, ownsRow_to h.keys fun g hg => (h.blk hs (h.rk g hg) (by simp) (by simp)).1, h.kinds.block (h.blk hs h.rK (by simp) (by simp)).1, h.values.block (h.blk hs h.rV (by simp) (by simp)).1,
    fun id b hb => (h.inner id b hb).block (h.blk hs (h.ri id b hb) (by simp) (by simp)).1, h.hasv, fun id key v hv => h.cont_to hs (by simp) (h.cont id key v hv), ?_, ?_,
    r1, (h.blk hs h.rK (by simp) (by simp)).2, (h.blk hs h.rV (by simp) (by simp)).2, r2, fun g hg => (h.blk hs (h.rk g hg) (by simp) (by simp)).2, fun b hb => ?_, fun id b hb => (h.blk hs (h.ri id b hb) (by simp) (by simp)).2, hs.lo (h := h.lo) hB, hs.inn⟩
  · have hb : BoxN w2 S [vk, .map (some K), .map (some V), vd, .map (some L)] 63 := h.box.to (hgrow.block S (h.hi S (by rw [h.rS]; simp)) (fun e => by have := h.rd S e.symm; rw [h.rS] at this; cases this))
    exact (hb.set 3 _).to (hg3.block S (by rw [set_size]; exact hb.lt) hSL)
  · show w3.ownsRow B 60 2 _ (st.dirs ++ [(p, u)]).length ((st.dirs ++ [(p, u)]).flatMap dirCells)
    rw [List.length_append, List.length_singleton, List.flatMap_append, List.flatMap_singleton]
    refine ownsRow_to hown fun b hb => ?_
    cases hb
    rw [hg3.block g (by rw [set_size]; exact hlt) hgL, set_other _ (Ne.symm hSg)]
  · show MapAt Tryz.prog 9 w3 L ((st.dirs ++ [(p, u)]).length + 1) _
    rw [List.length_append, List.length_singleton]
    exact hm
  · cases hb
    show (if g = g then Role.dirs else _) = _
    exact if_pos rfl
end
end Go.Proofs.YtnplmembdfklcaaGreatDoor
