/-
  The reader of packages in memory. Helper text; the conditions are those typed.
  The map of the tags. Helper text; the conditions are those typed.
  The places of the lists. Helper text; the conditions are those typed.
-/
import Derived.Test.YtjcefgjgjhdbpaaGreatDoorTagA
import Derived.Test.YtjcefgjgjhdbpaaGreatDoorDepPF
import Derived.Test.YtjcefgjgjhdbpaaGreatDoorSuseSpec
import Derived.Carry
namespace Go.Proofs.YtjcefgjgjhdbpaaGreatDoor
set_option linter.unusedVariables false
set_option linter.unusedSimpArgs false
open Go.RowKit Go.Maps

/-- The map of the tags: the functions that hand out a list's place. -/
def tagFn (t : ByteArray) : Option Value := (listOf (bs t)).map fun i => .func (.func (36 + i.val)) #[] #[]
/-- What is read: the packages; the map; all but the package that is being read. -/
structure OutO (w : World) (L B M : Nat) (K : Nat → Prop) (out : List PkgT) (vo : Value) : Prop where
  lB : L ≤ B
  lM : L ≤ M
  map : ∃ F, MapAt Tryz.prog 9 w M 7 F ∧ ∀ t, F (.string t) = tagFn t
  row : ∃ xs, w.ownsRow L 36 12 vo out.length xs ∧ ∀ j (h : j < out.length), ∃ v vf, PkgV w K out[j] v vf ∧ ∀ r u, (pkgCells out[j].name out[j].evr out[j].arch out[j].vendor v vf)[r]? = some u → xs[j * 12 + r]? = some u
  fresh : ∀ b, K b → New L w b
  bm : B ≠ M
  vB : vo.ownBlock ≠ some B
  vM : vo.ownBlock ≠ some M
  kB : ¬ K B
  kM : ¬ K M
  kv : ∀ b, K b → vo.ownBlock ≠ some b
/-- The blocks of the package that is being read. -/
def rbk (v : Fin 7 → Value) (vf : Value) : Option (Fin 7) → Option Nat
  | some i => (v i).ownBlock
  | none => vf.ownBlock
/-- The package that is being read. -/
structure CurO (w : World) (L B M : Nat) (K : Nat → Prop) (vo : Value) (p : SP) (v : Fin 7 → Value) (vf : Value) : Prop where
  name : p.name.size ≤ maxLen
  evr : p.evr.size ≤ maxLen
  arch : p.arch.size ≤ maxLen
  vendor : p.vendor.size ≤ maxLen
  texts : ∀ s ∈ p.files, s.size ≤ maxLen
  rows : ∀ i, ∃ xs, w.ownsRow L 73 5 (v i) (p.L i).length xs ∧ ∀ j (h : j < (p.L i).length), ∃ cs, DepC w K (p.L i)[j] cs ∧ ∀ r u, cs[r]? = some u → xs[j * 5 + r]? = some u
  files : w.ownsRow L 9 1 vf p.files.length (p.files.map .string)
  apart : ∀ r s, r ≠ s → ∀ x, rbk v vf r = some x → rbk v vf s ≠ some x
  away : ∀ r x, rbk v vf r = some x → x ≠ B ∧ x ≠ M ∧ vo.ownBlock ≠ some x ∧ ¬ K x
/-- The reader's box. -/
def rdrCells (vo : Value) (p12 : List Value) (has : Bool) (M : Nat) : List Value := vo :: (p12 ++ [.bool has, .map (some M)])
structure Rdr (w : World) (L B M : Nat) (K : Nat → Prop) (out : List PkgT) (p : SP) (has : Bool) (vo : Value) (v : Fin 7 → Value) (vf : Value) : Prop where
  box : BoxN w B (rdrCells vo (pkgCells p.name p.evr p.arch p.vendor v vf) has M) 41
  outs : OutO w L B M K out vo
  cur : CurO w L B M K vo p v vf

theorem CurO.rlt {w : World} {L B M : Nat} {K : Nat → Prop} {vo : Value} {p : SP} {v : Fin 7 → Value} {vf : Value} (h : CurO w L B M K vo p v vf) {r : Option (Fin 7)} {x : Nat} (hx : rbk v vf r = some x) : L ≤ x ∧ x < w.heap.size := by
  cases r with
  | none => exact h.files.lt x hx
  | some i =>
    obtain ⟨xs, h1, _⟩ := h.rows i
    exact h1.lt x hx
/-- What turns neither the map, nor the packages, nor what they hold. -/
theorem OutO.keep {w w' : World} {L B M : Nat} {K : Nat → Prop} {out : List PkgT} {vo : Value} (h : OutO w L B M K out vo) (hk : ∀ b, b < w.heap.size → (b = M ∨ K b ∨ vo.ownBlock = some b) → w'.heap[b]? = w.heap[b]?) : OutO w' L B M K out vo := by
  have hK : ∀ b, K b → w'.heap[b]? = w.heap[b]? := fun b hb => hk b (h.fresh b hb).2.lt (.inr (.inl hb))
  refine ⟨h.lB, h.lM, ?_, ?_, fun b hb => ⟨(h.fresh b hb).1, (h.fresh b hb).2.keep (hK b hb)⟩, h.bm, h.vB, h.vM, h.kB, h.kM, h.kv⟩
  · obtain ⟨F, h1, h2⟩ := h.map
    exact ⟨F, h1.block (hk M h1.lt (.inl rfl)), h2⟩
  · obtain ⟨xs, h1, h2⟩ := h.row
    refine ⟨xs, ownsRow_to h1 fun g hg => hk g (h1.lt g hg).2 (.inr (.inr hg)), fun j hj => ?_⟩
    obtain ⟨v, vf, h3, h4⟩ := h2 j hj
    exact ⟨v, vf, h3.keep (fun _ hb => hb) (fun b hb _ => hK b hb), h4⟩
theorem OutO.below {w w' : World} {L B M : Nat} {K : Nat → Prop} {out : List PkgT} {vo : Value} (h : OutO w L B M K out vo) (hb : Below w.heap.size w w') : OutO w' L B M K out vo := h.keep fun b hl _ => hb.block b hl
theorem CurO.keep {w w' : World} {L B M : Nat} {K : Nat → Prop} {vo : Value} {p : SP} {v : Fin 7 → Value} {vf : Value} (h : CurO w L B M K vo p v vf) (hK : ∀ b, K b → b < w.heap.size → w'.heap[b]? = w.heap[b]?) (hk : ∀ r b, b < w.heap.size → rbk v vf r = some b → w'.heap[b]? = w.heap[b]?) : CurO w' L B M K vo p v vf := by
  refine ⟨h.name, h.evr, h.arch, h.vendor, h.texts, fun i => ?_, ownsRow_to h.files fun g hg => hk none g (h.files.lt g hg).2 hg, h.apart, h.away⟩
  obtain ⟨xs, h1, h2⟩ := h.rows i
  refine ⟨xs, ownsRow_to h1 fun g hg => hk (some i) g (h1.lt g hg).2 hg, fun j hj => ?_⟩
  obtain ⟨cs, h3, h4⟩ := h2 j hj
  exact ⟨cs, h3.keep (fun _ hb => hb) hK (fun _ _ => trivial), h4⟩
theorem CurO.below {w w' : World} {L B M : Nat} {K : Nat → Prop} {vo : Value} {p : SP} {v : Fin 7 → Value} {vf : Value} (h : CurO w L B M K vo p v vf) (hb : Below w.heap.size w w') : CurO w' L B M K vo p v vf := h.keep (fun b _ hl => hb.block b hl) (fun _ b hl _ => hb.block b hl)
theorem Rdr.below {w w' : World} {L B M : Nat} {K : Nat → Prop} {out : List PkgT} {p : SP} {has : Bool} {vo : Value} {v : Fin 7 → Value} {vf : Value} (h : Rdr w L B M K out p has vo v vf) (hb : Below w.heap.size w w') : Rdr w' L B M K out p has vo v vf :=
  ⟨h.box.below hb, h.outs.below hb, h.cur.below hb⟩

/-- Dependencies out of a row of our own. -/
theorem deps_of_row {w : World} {L : Nat} {K K' : Nat → Prop} (hKK : ∀ b, K b → K' b) {ds : List DepT} {vo : Value} {xs : List Value} (h : w.ownsRow L 73 5 vo ds.length xs) (hb : ∀ b, vo.ownBlock = some b → K' b) (hn : ds.length * 72 ≤ 140737488355328)
    (hd : ∀ j (h : j < ds.length), ∃ cs, DepC w K ds[j] cs ∧ ∀ r u, cs[r]? = some u → xs[j * 5 + r]? = some u) : DepsV w K' ds.length (fun j => ds[j]) vo := by
  rcases h.2 with ⟨e, h0⟩ | ⟨g, cap, cur, e, hg, hat, hcap, _, hsz, htake⟩
  · exact ⟨none, 0, by rw [e, h0], hn, fun h => absurd h0 h⟩
  · refine ⟨_, cap, e, hn, fun h0 => ⟨g, 0, rfl, hb g (by rw [e]; rfl), fun j => ?_⟩⟩
    obtain ⟨cs, h1, h2⟩ := hd j j.2
    refine ⟨cs, h1.keep hKK (fun _ _ _ => rfl) (fun _ _ => trivial), fun r u hr => ?_⟩
    refine cell_of hat ?_
    have h5 := h2 r u hr
    have hlt := (List.getElem?_eq_some_iff.1 h5).1
    rw [h.1] at hlt
    rw [← htake, List.getElem?_take_of_lt hlt] at h5
    rw [Nat.zero_add, ← Array.getElem?_toList]
    exact h5
theorem strs_of_row {w : World} {L : Nat} {K' : Nat → Prop} {l : List ByteArray} {vo : Value} (h : w.ownsRow L 9 1 vo l.length (l.map .string)) (hb : ∀ b, vo.ownBlock = some b → K' b) (hs : ∀ s ∈ l, s.size ≤ maxLen) (hn : l.length * 16 ≤ 140737488355328) : StrsV w K' l vo := by
  rcases h.2 with ⟨e, h0⟩ | ⟨g, cap, cur, e, hg, hat, hcap, _, hsz, htake⟩
  · exact ⟨none, 0, by rw [e, h0], hs, hn, fun h => absurd (List.length_eq_zero_iff.1 h0) h⟩
  · refine ⟨_, cap, e, hs, hn, fun h0 => ⟨g, 0, rfl, hb g (by rw [e]; rfl), fun i hi => ?_⟩⟩
    refine cell_of hat ?_
    have h5 : (l.map Value.string)[i]? = some (.string l[i]) := by simp [hi]
    rw [← htake, List.getElem?_take_of_lt (by omega)] at h5
    rw [Nat.zero_add, ← Array.getElem?_toList]
    exact h5
/-- The blocks of what is read, the current package with it. -/
def withCur (K : Nat → Prop) (v : Fin 7 → Value) (vf : Value) (b : Nat) : Prop := K b ∨ ∃ r, rbk v vf r = some b
theorem row_fr {w : World} {L : Nat} {e : TypeId} {k n : Nat} {v : Value} {xs : List Value} (h : w.ownsRow L e k v n xs) {b : Nat} (hb : v.ownBlock = some b) : New L w b := by
  rcases h.2 with ⟨e, h0⟩ | ⟨g, cap, cur, e, hg, hat, _⟩
  · rw [e] at hb; cases hb
  · rw [e] at hb
    obtain rfl : g = b := Option.some.inj hb
    exact ⟨hg, _, _, hat⟩
theorem CurO.pkg {w : World} {L B M : Nat} {K : Nat → Prop} {vo : Value} {p : SP} {v : Fin 7 → Value} {vf : Value} (h : CurO w L B M K vo p v vf) (hn : ∀ i, (p.L i).length ≤ 1000000) (hf : p.files.length ≤ 1000000) : PkgV w (withCur K v vf) p.pkg v vf := by
  refine ⟨h.name, h.evr, h.arch, h.vendor, fun i => ?_, ?_⟩
  · obtain ⟨xs, h1, h2⟩ := h.rows i
    exact deps_of_row (fun b hb => .inl hb) h1 (fun b hb => .inr ⟨some i, hb⟩) (by have := hn i; omega) h2
  · exact strs_of_row h.files (fun b hb => .inr ⟨none, hb⟩) h.texts (by show p.files.length * 16 ≤ _; omega)
theorem CurO.fresh {w : World} {L B M : Nat} {K : Nat → Prop} {vo : Value} {p : SP} {v : Fin 7 → Value} {vf : Value} (h : CurO w L B M K vo p v vf) (hK : ∀ b, K b → New L w b) : ∀ b, withCur K v vf b → New L w b := by
  rintro b (hb | ⟨r, hr⟩)
  · exact hK b hb
  · cases r with
    | none => exact row_fr h.files hr
    | some i =>
      obtain ⟨xs, h1, _⟩ := h.rows i
      exact row_fr h1 hr
/-- A package of no list. -/
theorem CurO.empty {w : World} {L B M : Nat} {K : Nat → Prop} {vo : Value} (p : SP) (h1 : p.name.size ≤ maxLen) (h2 : p.evr.size ≤ maxLen) (h3 : p.arch.size ≤ maxLen) (h4 : p.vendor.size ≤ maxLen) (hL : ∀ i, p.L i = []) (hf : p.files = []) : CurO w L B M K vo p (fun _ => .slice none 0 0) (.slice none 0 0) := by
  refine ⟨h1, h2, h3, h4, fun s hs => ?_, fun i => ⟨[], ?_, fun j hj => ?_⟩, ?_, fun r s _ x hx => ?_, fun r x hx => ?_⟩
  · rw [hf] at hs; cases hs
  · rw [hL]; exact World.ownsRow_nil _ _ _ _
  · rw [hL] at hj; exact absurd hj (Nat.not_lt_zero _)
  · rw [hf]; exact World.ownsRow_nil _ _ _ _
  · cases r <;> cases hx
  · cases r <;> cases hx
end Go.Proofs.YtjcefgjgjhdbpaaGreatDoor
namespace Go.Proofs.YtjcefgjgjhdbpaaGreatDoor
set_option linter.unusedVariables false
set_option linter.unusedSimpArgs false
open Go.RowKit Go.Maps

theorem keyed9 : Keyed Tryz.prog 9 := string_keyed Tryz.underlying9
/-- One key more. -/
def putF (f : Value → Option Value) (k : ByteArray) (x : Value) : Value → Option Value
  | .string t => if t = k then some x else f (.string t)
  | u => f u
theorem putF_same (f : Value → Option Value) (k : ByteArray) (x : Value) : putF f k x (.string k) = some x := by
  show (if k = k then some x else f (.string k)) = some x
  rw [if_pos rfl]
theorem putF_ne (f : Value → Option Value) (k : ByteArray) (x : Value) (u : Value) (h : u ≠ .string k) : putF f k x u = f u := by
  cases u <;> first | rfl | skip
  rename_i t
  show (if t = k then some x else f (.string t)) = f (.string t)
  rw [if_neg (fun e => h (by rw [e]))]
theorem putF_str (f : Value → Option Value) (k : ByteArray) (x : Value) (t : ByteArray) : putF f k x (.string t) = if bs t = bs k then some x else f (.string t) := by
  show (if t = k then some x else f (.string t)) = _
  by_cases h : t = k
  · rw [if_pos h, if_pos (by rw [h])]
  · rw [if_neg h, if_neg (fun e => h (by rw [← mkB_bs t, ← mkB_bs k, e]))]
set_option maxHeartbeats 2000000 in
set_option maxRecDepth 100000 in
/-- suse.lists. -/
theorem tagMap_c (w : World) : Calls Tryz.prog 12 #[] w fun e w' => e = .returned (.map (some w.heap.size)) ∧ Below w.heap.size w w' ∧ ∃ F, MapAt Tryz.prog 9 w' w.heap.size 7 F ∧ ∀ t, F (.string t) = tagFn t := by
  have hmm := run_makeMap (P := Tryz.prog) 38 w
  obtain ⟨w1, e1⟩ : ∃ w1, w.alloc (.map #[] 0) = w1 := ⟨_, rfl⟩
  have H1 : Hid (Below w.heap.size w w1 ∧ MapAt Tryz.prog 9 w1 w.heap.size 0 (fun _ => none)) := Lib.hid (by
    rw [← e1]
    exact ⟨below1 _ _, MapAt.made _ _ _⟩)
  rw [e1] at hmm
  clear e1
  obtain ⟨w2, r1, m2, g2, s2⟩ := H1.out.2.run_store keyed9 Tryz.underlying38 (by decide) (key := (.string ⟨#[80, 114, 118]⟩)) (val := (.func (.func 36) #[] #[])) rfl (putF (fun _ => none) ⟨#[80, 114, 118]⟩ (.func (.func 36) #[] #[])) (putF_same _ _ _) (fun u hu => putF_ne _ _ _ u hu)
  have H2 := Lib.hid (And.intro (H1.out.1.grown g2 H1.out.1.size (fun k e => by cases e; exact Nat.le_refl _)) m2)
  clear m2 g2 s2 H1
  obtain ⟨w3, r2, m3, g3, s3⟩ := H2.out.2.run_store keyed9 Tryz.underlying38 (by decide) (key := (.string ⟨#[82, 101, 113]⟩)) (val := (.func (.func 37) #[] #[])) rfl (putF (putF (fun _ => none) ⟨#[80, 114, 118]⟩ (.func (.func 36) #[] #[])) ⟨#[82, 101, 113]⟩ (.func (.func 37) #[] #[])) (putF_same _ _ _) (fun u hu => putF_ne _ _ _ u hu)
  have H3 := Lib.hid (And.intro (H2.out.1.grown g3 H2.out.1.size (fun k e => by cases e; exact Nat.le_refl _)) m3)
  clear m3 g3 s3 H2
  obtain ⟨w4, r3, m4, g4, s4⟩ := H3.out.2.run_store keyed9 Tryz.underlying38 (by decide) (key := (.string ⟨#[80, 114, 113]⟩)) (val := (.func (.func 38) #[] #[])) rfl (putF (putF (putF (fun _ => none) ⟨#[80, 114, 118]⟩ (.func (.func 36) #[] #[])) ⟨#[82, 101, 113]⟩ (.func (.func 37) #[] #[])) ⟨#[80, 114, 113]⟩ (.func (.func 38) #[] #[])) (putF_same _ _ _) (fun u hu => putF_ne _ _ _ u hu)
  have H4 := Lib.hid (And.intro (H3.out.1.grown g4 H3.out.1.size (fun k e => by cases e; exact Nat.le_refl _)) m4)
  clear m4 g4 s4 H3
  obtain ⟨w5, r4, m5, g5, s5⟩ := H4.out.2.run_store keyed9 Tryz.underlying38 (by decide) (key := (.string ⟨#[67, 111, 110]⟩)) (val := (.func (.func 39) #[] #[])) rfl (putF (putF (putF (putF (fun _ => none) ⟨#[80, 114, 118]⟩ (.func (.func 36) #[] #[])) ⟨#[82, 101, 113]⟩ (.func (.func 37) #[] #[])) ⟨#[80, 114, 113]⟩ (.func (.func 38) #[] #[])) ⟨#[67, 111, 110]⟩ (.func (.func 39) #[] #[])) (putF_same _ _ _) (fun u hu => putF_ne _ _ _ u hu)
  have H5 := Lib.hid (And.intro (H4.out.1.grown g5 H4.out.1.size (fun k e => by cases e; exact Nat.le_refl _)) m5)
  clear m5 g5 s5 H4
  obtain ⟨w6, r5, m6, g6, s6⟩ := H5.out.2.run_store keyed9 Tryz.underlying38 (by decide) (key := (.string ⟨#[79, 98, 115]⟩)) (val := (.func (.func 40) #[] #[])) rfl (putF (putF (putF (putF (putF (fun _ => none) ⟨#[80, 114, 118]⟩ (.func (.func 36) #[] #[])) ⟨#[82, 101, 113]⟩ (.func (.func 37) #[] #[])) ⟨#[80, 114, 113]⟩ (.func (.func 38) #[] #[])) ⟨#[67, 111, 110]⟩ (.func (.func 39) #[] #[])) ⟨#[79, 98, 115]⟩ (.func (.func 40) #[] #[])) (putF_same _ _ _) (fun u hu => putF_ne _ _ _ u hu)
  have H6 := Lib.hid (And.intro (H5.out.1.grown g6 H5.out.1.size (fun k e => by cases e; exact Nat.le_refl _)) m6)
  clear m6 g6 s6 H5
  obtain ⟨w7, r6, m7, g7, s7⟩ := H6.out.2.run_store keyed9 Tryz.underlying38 (by decide) (key := (.string ⟨#[82, 101, 99]⟩)) (val := (.func (.func 41) #[] #[])) rfl (putF (putF (putF (putF (putF (putF (fun _ => none) ⟨#[80, 114, 118]⟩ (.func (.func 36) #[] #[])) ⟨#[82, 101, 113]⟩ (.func (.func 37) #[] #[])) ⟨#[80, 114, 113]⟩ (.func (.func 38) #[] #[])) ⟨#[67, 111, 110]⟩ (.func (.func 39) #[] #[])) ⟨#[79, 98, 115]⟩ (.func (.func 40) #[] #[])) ⟨#[82, 101, 99]⟩ (.func (.func 41) #[] #[])) (putF_same _ _ _) (fun u hu => putF_ne _ _ _ u hu)
  have H7 := Lib.hid (And.intro (H6.out.1.grown g7 H6.out.1.size (fun k e => by cases e; exact Nat.le_refl _)) m7)
  clear m7 g7 s7 H6
  obtain ⟨w8, r7, m8, g8, s8⟩ := H7.out.2.run_store keyed9 Tryz.underlying38 (by decide) (key := (.string ⟨#[83, 117, 112]⟩)) (val := (.func (.func 42) #[] #[])) rfl (putF (putF (putF (putF (putF (putF (putF (fun _ => none) ⟨#[80, 114, 118]⟩ (.func (.func 36) #[] #[])) ⟨#[82, 101, 113]⟩ (.func (.func 37) #[] #[])) ⟨#[80, 114, 113]⟩ (.func (.func 38) #[] #[])) ⟨#[67, 111, 110]⟩ (.func (.func 39) #[] #[])) ⟨#[79, 98, 115]⟩ (.func (.func 40) #[] #[])) ⟨#[82, 101, 99]⟩ (.func (.func 41) #[] #[])) ⟨#[83, 117, 112]⟩ (.func (.func 42) #[] #[])) (putF_same _ _ _) (fun u hu => putF_ne _ _ _ u hu)
  have H8 := Lib.hid (And.intro (H7.out.1.grown g8 H7.out.1.size (fun k e => by cases e; exact Nat.le_refl _)) m8)
  clear m8 g8 s8 H7
  go_enter Tryz.func12, Tryz.ntmps12
  go_wp2_with fail
  go_ret
  refine ⟨rfl, H8.out.1, _, H8.out.2, fun t => ?_⟩
  simp only [putF_str]
  unfold tagFn listOf
  show (if bs t = [83, 117, 112] then _ else if bs t = [82, 101, 99] then _ else if bs t = [79, 98, 115] then _ else if bs t = [67, 111, 110] then _ else if bs t = [80, 114, 113] then _ else if bs t = [82, 101, 113] then _ else if bs t = [80, 114, 118] then _ else none) = _
  generalize bs t = q
  by_cases h1 : q = [80, 114, 118]
  · subst h1; rfl
  by_cases h2 : q = [82, 101, 113]
  · subst h2; rfl
  by_cases h3 : q = [80, 114, 113]
  · subst h3; rfl
  by_cases h4 : q = [67, 111, 110]
  · subst h4; rfl
  by_cases h5 : q = [79, 98, 115]
  · subst h5; rfl
  by_cases h6 : q = [82, 101, 99]
  · subst h6; rfl
  by_cases h7 : q = [83, 117, 112]
  · subst h7; rfl
  rw [if_neg h1, if_neg h2, if_neg h3, if_neg h4, if_neg h5, if_neg h6, if_neg h7, if_neg h1, if_neg h2, if_neg h3, if_neg h4, if_neg h5, if_neg h6, if_neg h7]
  rfl
end Go.Proofs.YtjcefgjgjhdbpaaGreatDoor
namespace Go.Proofs.YtjcefgjgjhdbpaaGreatDoor
set_option linter.unusedVariables false
set_option linter.unusedSimpArgs false
open Go.RowKit Go.Maps

theorem place0 (B : Nat) (w : World) : Calls Tryz.prog 36 #[.pointer (some ⟨B, 1, none⟩)] w fun e w' => e = .returned (.pointer (some ⟨B, 5, none⟩)) ∧ w' = w := by
  go_enter Tryz.func36, Tryz.ntmps36
  go_wp2_with fail
  go_ret
  exact ⟨rfl, rfl⟩
theorem place1 (B : Nat) (w : World) : Calls Tryz.prog 37 #[.pointer (some ⟨B, 1, none⟩)] w fun e w' => e = .returned (.pointer (some ⟨B, 6, none⟩)) ∧ w' = w := by
  go_enter Tryz.func37, Tryz.ntmps37
  go_wp2_with fail
  go_ret
  exact ⟨rfl, rfl⟩
theorem place2 (B : Nat) (w : World) : Calls Tryz.prog 38 #[.pointer (some ⟨B, 1, none⟩)] w fun e w' => e = .returned (.pointer (some ⟨B, 7, none⟩)) ∧ w' = w := by
  go_enter Tryz.func38, Tryz.ntmps38
  go_wp2_with fail
  go_ret
  exact ⟨rfl, rfl⟩
theorem place3 (B : Nat) (w : World) : Calls Tryz.prog 39 #[.pointer (some ⟨B, 1, none⟩)] w fun e w' => e = .returned (.pointer (some ⟨B, 8, none⟩)) ∧ w' = w := by
  go_enter Tryz.func39, Tryz.ntmps39
  go_wp2_with fail
  go_ret
  exact ⟨rfl, rfl⟩
theorem place4 (B : Nat) (w : World) : Calls Tryz.prog 40 #[.pointer (some ⟨B, 1, none⟩)] w fun e w' => e = .returned (.pointer (some ⟨B, 9, none⟩)) ∧ w' = w := by
  go_enter Tryz.func40, Tryz.ntmps40
  go_wp2_with fail
  go_ret
  exact ⟨rfl, rfl⟩
theorem place5 (B : Nat) (w : World) : Calls Tryz.prog 41 #[.pointer (some ⟨B, 1, none⟩)] w fun e w' => e = .returned (.pointer (some ⟨B, 10, none⟩)) ∧ w' = w := by
  go_enter Tryz.func41, Tryz.ntmps41
  go_wp2_with fail
  go_ret
  exact ⟨rfl, rfl⟩
theorem place6 (B : Nat) (w : World) : Calls Tryz.prog 42 #[.pointer (some ⟨B, 1, none⟩)] w fun e w' => e = .returned (.pointer (some ⟨B, 11, none⟩)) ∧ w' = w := by
  go_enter Tryz.func42, Tryz.ntmps42
  go_wp2_with fail
  go_ret
  exact ⟨rfl, rfl⟩
/-- A list's place. -/
theorem place_c (i : Fin 7) (B : Nat) (w : World) : Calls Tryz.prog (36 + i.val) #[.pointer (some ⟨B, 1, none⟩)] w fun e w' => e = .returned (.pointer (some ⟨B, 5 + i.val, none⟩)) ∧ w' = w := by
  match i with
  | 0 => exact place0 B w
  | 1 => exact place1 B w
  | 2 => exact place2 B w
  | 3 => exact place3 B w
  | 4 => exact place4 B w
  | 5 => exact place5 B w
  | 6 => exact place6 B w
end Go.Proofs.YtjcefgjgjhdbpaaGreatDoor
