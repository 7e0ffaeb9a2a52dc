/-
  A store of attributes in memory: its blocks, each with its part; steps that change some parts and leave the others. Helper text; the conditions are those typed.
-/
import Derived.Test.YtnplmembdfklcaaGreatDoorUps2
import Derived.Test.YtnplmembdfklcaaGreatDoorMapAt
namespace Go.Proofs.YtnplmembdfklcaaGreatDoor
set_option linter.unusedVariables false
set_option linter.unusedSimpArgs false
open Go.RowKit Go.Maps

/-- What a block is to the store. -/
inductive Role where
  | free | box | keys | kinds | values | dirs | places | inner (id : Int) | content

/-- From one world to the next: only blocks of the parts T change. -/
structure Step (T : Role → Prop) (role : Nat → Role) (w : World) (role' : Nat → Role) (w' : World) : Prop where
  os : w'.os = w.os
  tape : w'.tape = w.tape
  output : w'.output = w.output
  size : w.heap.size ≤ w'.heap.size
  same : ∀ b, b < w.heap.size → ¬ T (role b) → w'.heap[b]? = w.heap[b]? ∧ role' b = role b
  dom : ∀ b, role' b ≠ .free → b < w'.heap.size ∧ (role b ≠ .free ∨ w.heap.size ≤ b)
theorem Step.trans {T T2 : Role → Prop} {r0 r1 r2 : Nat → Role} {w0 w1 w2 : World} (h : Step T r0 w0 r1 w1) (k : Step T2 r1 w1 r2 w2) : Step (fun r => T r ∨ T2 r) r0 w0 r2 w2 :=
  ⟨k.os.trans h.os, k.tape.trans h.tape, k.output.trans h.output, Nat.le_trans h.size k.size, fun b hb hr => by
    obtain ⟨h1, h2⟩ := h.same b hb (fun e => hr (.inl e))
    obtain ⟨k1, k2⟩ := k.same b (Nat.lt_of_lt_of_le hb h.size) (fun e => hr (.inr (h2 ▸ e)))
    exact ⟨k1.trans h1, k2.trans h2⟩, fun b hr => by
    obtain ⟨k1, k2⟩ := k.dom b hr
    refine ⟨k1, ?_⟩
    rcases k2 with k2 | k2
    · exact (h.dom b k2).2
    · exact .inr (Nat.le_trans h.size k2)⟩
theorem Step.mono {T T2 : Role → Prop} {r0 r1 : Nat → Role} {w0 w1 : World} (h : Step T r0 w0 r1 w1) (hT : ∀ r, T r → T2 r) : Step T2 r0 w0 r1 w1 :=
  ⟨h.os, h.tape, h.output, h.size, fun b hb hr => h.same b hb (fun e => hr (hT _ e)), h.dom⟩
/-- Only what is the store's changes. -/
abbrev Moved (role : Nat → Role) (w : World) (role' : Nat → Role) (w' : World) : Prop := Step (fun r => r ≠ .free) role w role' w'
theorem Moved.trans {r0 r1 r2 : Nat → Role} {w0 w1 w2 : World} (h : Moved r0 w0 r1 w1) (k : Moved r1 w1 r2 w2) : Moved r0 w0 r2 w2 := (Step.trans h k).mono fun r h => h.elim id id
theorem Moved.block {r0 r1 : Nat → Role} {w0 w1 : World} (h : Moved r0 w0 r1 w1) {b : Nat} (hb : b < w0.heap.size) (hr : r0 b = .free) : w1.heap[b]? = w0.heap[b]? ∧ r1 b = .free := by
  obtain ⟨h1, h2⟩ := h.same b hb (fun e => e hr)
  exact ⟨h1, h2.trans hr⟩
/-- The roles lie below. -/
def Inn (role : Nat → Role) (w : World) : Prop := ∀ b, role b ≠ .free → b < w.heap.size
theorem Inn.free {role : Nat → Role} {w : World} (h : Inn role w) {b : Nat} (hb : w.heap.size ≤ b) : role b = .free := by
  by_cases hr : role b = .free
  · exact hr
  · exact absurd (h b hr) (by omega)
theorem Step.of_below {role : Nat → Role} {w w' : World} (hi : Inn role w) (h : Below w.heap.size w w') : Step (fun _ => False) role w role w' :=
  ⟨h.os, h.tape, h.output, h.size, fun b hb _ => ⟨h.block b hb, rfl⟩, fun b hr => ⟨Nat.lt_of_lt_of_le (hi b hr) h.size, .inl hr⟩⟩
theorem Step.refl {role : Nat → Role} {w : World} (hi : Inn role w) : Step (fun _ => False) role w role w := Step.of_below hi (Below.refl _ _)
theorem Moved.of_below {role : Nat → Role} {w w' : World} (hi : Inn role w) (h : Below w.heap.size w w') : Moved role w role w' := (Step.of_below hi h).mono fun _ h => h.elim
/-- New blocks become a part. -/
theorem Step.of_new {role : Nat → Role} {w w' : World} (hi : Inn role w) (h : Below w.heap.size w w') (R : Role) : Step (fun _ => False) role w (fun b => if w.heap.size ≤ b ∧ b < w'.heap.size then R else role b) w' :=
  ⟨h.os, h.tape, h.output, h.size, fun b hb _ => ⟨h.block b hb, if_neg (by omega)⟩, fun b hr => by
    by_cases e : w.heap.size ≤ b ∧ b < w'.heap.size
    · exact ⟨e.2, .inr e.1⟩
    · have hr' : role b ≠ .free := by simpa only [e, if_false] using hr
      exact ⟨Nat.lt_of_lt_of_le (hi b hr') h.size, .inl hr'⟩⟩
/-- A block of the store changes. -/
theorem Step.of_grown {role : Nat → Role} {w w' : World} (hi : Inn role w) {m : Nat} (hg : w.grownBy w' (some m)) : Step (fun r => r = role m) role w role w' :=
  ⟨hg.os, hg.tape, hg.output, hg.size, fun b hb hr => ⟨hg.block b hb (fun e => by cases e; exact hr rfl), rfl⟩, fun b hr => ⟨Nat.lt_of_lt_of_le (hi b hr) hg.size, .inl hr⟩⟩
theorem Step.of_set {role : Nat → Role} {w : World} (hi : Inn role w) (m o : Nat) (v : Value) : Step (fun r => r = role m) role w role (w.setCell ⟨m, o, none⟩ v) := by
  have hb : Below m w (w.setCell ⟨m, o, none⟩ v) := below_sc (Below.refl _ _) (Nat.le_refl _) o v
  exact ⟨hb.os, hb.tape, hb.output, hb.size, fun b hb hr => ⟨set_other _ (fun e => by subst e; exact hr rfl), rfl⟩, fun b hr => ⟨by rw [set_size]; exact hi b hr, .inl hr⟩⟩
/-- A row grows. -/
theorem Step.of_row {role : Nat → Role} {w w' : World} (hi : Inn role w) {v : Value} {R : Role} (hR : R ≠ .free) (hv : ∀ b, v.ownBlock = some b → role b = R) (hg : w.grownBy w' v.ownBlock) {g : Nat} (hat : v.ownBlock = some g ∨ w.heap.size ≤ g) (hlt : g < w'.heap.size) :
    Step (fun r => r = R) role w (fun b => if b = g then R else role b) w' :=
  ⟨hg.os, hg.tape, hg.output, hg.size, fun b hb hr => ⟨hg.block b hb (fun e => hr (hv b e.symm)), if_neg (fun e => by
      subst e
      rcases hat with h1 | h1
      · exact hr (hv b h1)
      · omega)⟩, fun b hr => by
    by_cases e : b = g
    · subst e
      refine ⟨hlt, ?_⟩
      rcases hat with h1 | h1
      · left; rw [hv b h1]; exact hR
      · exact .inr h1
    · have hr' : role b ≠ .free := by simpa only [e, if_false] using hr
      exact ⟨Nat.lt_of_lt_of_le (hi b hr') hg.size, .inl hr'⟩⟩

/-- An attribute. -/
structure ValT where
  kind : Int
  num : Int
  text : ByteArray
  list : List ByteArray
/-- What a store tells. -/
structure StT where
  keys : List ByteArray
  kind : ByteArray → Option Int
  val : Int → ByteArray → Option ValT
  dirs : List (List UInt8 × Nat)

/-- The texts that a slice value reads as. -/
def StrsV (w : World) (S : Nat → Prop) (l : List ByteArray) (v : Value) : Prop := ∃ a c, v = .slice a l.length c ∧ (∀ s ∈ l, s.size ≤ maxLen) ∧ l.length * 16 ≤ 140737488355328 ∧
  (l ≠ [] → ∃ b off, a = some ⟨b, off, none⟩ ∧ S b ∧ ∀ i (h : i < l.length), w.cell? ⟨b, off + i, none⟩ = some (.string l[i]))
theorem StrsV.keep {w w' : World} {S S' : Nat → Prop} (hS : ∀ b, S b → S' b) (hk : ∀ b, S b → b < w.heap.size → w'.heap[b]? = w.heap[b]?) {l : List ByteArray} {v : Value} (h : StrsV w S l v) : StrsV w' S' l v := by
  obtain ⟨a, c, e, hs, hn, h⟩ := h
  refine ⟨a, c, e, hs, hn, fun hl => ?_⟩
  obtain ⟨b, off, ea, hb, hc⟩ := h hl
  refine ⟨b, off, ea, hS b hb, fun i hi => ?_⟩
  have h1 := hc i hi
  exact cell_blk (hk b hb (World.block_lt_of_cell? w _ h1)) h1
theorem StrsV.below {w w' : World} {S : Nat → Prop} {l : List ByteArray} {v : Value} (h : StrsV w S l v) (hb : Below w.heap.size w w') : StrsV w' S l v :=
  h.keep (fun _ h => h) (fun b _ hl => hb.block b hl)
theorem StrsV.inn {w : World} {S : Nat → Prop} {l : List ByteArray} {v : Value} (h : StrsV w S l v) : StrsV w (fun b => S b ∧ b < w.heap.size) l v := by
  obtain ⟨a, c, e, hs, hn, h⟩ := h
  refine ⟨a, c, e, hs, hn, fun hl => ?_⟩
  obtain ⟨b, off, ea, hb, hc⟩ := h hl
  exact ⟨b, off, ea, ⟨hb, World.block_lt_of_cell? w _ (hc 0 (List.length_pos_iff.2 hl))⟩, hc⟩
theorem StrsV.len {w : World} {S : Nat → Prop} {l : List ByteArray} {a : Option Addr} {n c : Nat} (h : StrsV w S l (.slice a n c)) : l.length = n := by
  obtain ⟨_, _, e, _⟩ := h
  injection e with _ h2 _
  exact h2.symm

/-- the place of a directory -/
def idxD (ds : List (List UInt8 × Nat)) (p : List UInt8) : Option Nat := ds.findIdx? fun d => decide (d.1 = p)
def dirCells (d : List UInt8 × Nat) : List Value := [.string (mkB d.1), .int .i64 (d.2 : Int)]
def placesF (ds : List (List UInt8 × Nat)) : Value → Option Value
  | .string s => (idxD ds (bs s)).map fun (i : Nat) => Value.int .i64 (i : Int)
  | _ => none
def kindsF (st : StT) : Value → Option Value
  | .string s => (st.kind s).map fun (k : Int) => Value.int .i64 k
  | _ => none
def valuesF (ib : Int → Option Nat) : Value → Option Value
  | .int .i64 id => (ib id).map fun (b : Nat) => Value.map (some b)
  | _ => none
def innerF (f : ByteArray → Option ValT) (sl : ByteArray → Value) : Value → Option Value
  | .string s => (f s).map fun (v : ValT) => Value.agg #[.int .i64 v.kind, .int .i64 v.num, .string v.text, sl s]
  | _ => none

/-- The store at S. -/
structure StoreIn (w : World) (B : Nat) (role : Nat → Role) (S K V L : Nat) (vk vd : Value) (ib : Int → Option Nat) (sl : Int → ByteArray → Value) (n : Nat) (st : StT) : Prop where
  box : BoxN w S [vk, .map (some K), .map (some V), vd, .map (some L)] 63
  keys : w.ownsRow B 9 1 vk st.keys.length (st.keys.map .string)
  kinds : MapAt Tryz.prog 9 w K n (kindsF st)
  values : MapAt Tryz.prog 3 w V n (valuesF ib)
  inner : ∀ id b, ib id = some b → MapAt Tryz.prog 9 w b n (innerF (st.val id) (sl id))
  hasv : ∀ id key, ib id = none → st.val id key = none
  cont : ∀ id key v, st.val id key = some v → StrsV w (fun b => role b = .content) v.list (sl id key)
  dirs : w.ownsRow B 60 2 vd st.dirs.length (st.dirs.flatMap dirCells)
  places : MapAt Tryz.prog 9 w L (st.dirs.length + 1) (placesF st.dirs)
  rS : role S = .box
  rK : role K = .kinds
  rV : role V = .values
  rL : role L = .places
  rk : ∀ g, vk.ownBlock = some g → role g = .keys
  rd : ∀ g, vd.ownBlock = some g → role g = .dirs
  ri : ∀ id b, ib id = some b → role b = .inner id
  lo : ∀ b, role b ≠ .free → B ≤ b
  hi : Inn role w

section
variable {w w' : World} {B : Nat} {role role' : Nat → Role} {S K V L : Nat} {vk vd : Value} {ib : Int → Option Nat} {sl : Int → ByteArray → Value} {n : Nat} {st : StT} {T : Role → Prop}

theorem StoreIn.blk (h : StoreIn w B role S K V L vk vd ib sl n st) (hs : Step T role w role' w') {b : Nat} {R : Role} (hr : role b = R) (hR : R ≠ .free) (hT : ¬ T R) : w'.heap[b]? = w.heap[b]? ∧ role' b = R := by
  obtain ⟨h1, h2⟩ := hs.same b (h.hi b (by rw [hr]; exact hR)) (by rw [hr]; exact hT)
  exact ⟨h1, h2.trans hr⟩
theorem Step.lo {h : ∀ b, role b ≠ .free → B ≤ b} (hs : Step T role w role' w') (hB : B ≤ w.heap.size) : ∀ b, role' b ≠ .free → B ≤ b := fun b hr => by
  rcases (hs.dom b hr).2 with h1 | h1
  · exact h b h1
  · omega
theorem Step.inn (hs : Step T role w role' w') : Inn role' w' := fun b hr => (hs.dom b hr).1
theorem StoreIn.cont_to (h : StoreIn w B role S K V L vk vd ib sl n st) (hs : Step T role w role' w') (hT : ¬ T .content) {l : List ByteArray} {v : Value} (hv : StrsV w (fun b => role b = .content) l v) : StrsV w' (fun b => role' b = .content) l v :=
  hv.keep (fun b hb => (h.blk hs (R := .content) hb (by simp) hT).2) (fun b hb _ => (h.blk hs (R := .content) hb (by simp) hT).1)

/-- What leaves the store's blocks alone leaves the store. -/
theorem StoreIn.keep (h : StoreIn w B role S K V L vk vd ib sl n st) (hs : Step (fun _ => False) role w role' w') (hB : B ≤ w.heap.size) : StoreIn w' B role' S K V L vk vd ib sl n st := by
  refine ⟨h.box.to (h.blk hs h.rS (by simp) (fun h => h)).1, ownsRow_to h.keys fun g hg => (h.blk hs (h.rk g hg) (by simp) (fun h => h)).1, h.kinds.block (h.blk hs h.rK (by simp) (fun h => h)).1, h.values.block (h.blk hs h.rV (by simp) (fun h => h)).1,
    fun id b hb => (h.inner id b hb).block (h.blk hs (h.ri id b hb) (by simp) (fun h => h)).1, h.hasv, fun id key v hv => h.cont_to hs (fun h => h) (h.cont id key v hv), ownsRow_to h.dirs fun g hg => (h.blk hs (h.rd g hg) (by simp) (fun h => h)).1, h.places.block (h.blk hs h.rL (by simp) (fun h => h)).1,
    (h.blk hs h.rS (by simp) (fun h => h)).2, (h.blk hs h.rK (by simp) (fun h => h)).2, (h.blk hs h.rV (by simp) (fun h => h)).2, (h.blk hs h.rL (by simp) (fun h => h)).2, fun g hg => (h.blk hs (h.rk g hg) (by simp) (fun h => h)).2, fun g hg => (h.blk hs (h.rd g hg) (by simp) (fun h => h)).2, fun id b hb => (h.blk hs (h.ri id b hb) (by simp) (fun h => h)).2, hs.lo (h := h.lo) hB, hs.inn⟩
theorem StoreIn.below (h : StoreIn w B role S K V L vk vd ib sl n st) (hB : B ≤ w.heap.size) (hb : Below w.heap.size w w') : StoreIn w' B role S K V L vk vd ib sl n st := h.keep (Step.of_below h.hi hb) hB
theorem StoreIn.dirs_slice (h : StoreIn w B role S K V L vk vd ib sl n st) : ∃ a c, vd = .slice a st.dirs.length c := ownsRow_slice h.dirs
theorem StoreIn.keys_slice (h : StoreIn w B role S K V L vk vd ib sl n st) : ∃ a c, vk = .slice a st.keys.length c := ownsRow_slice h.keys
end

theorem keyed9 : Keyed Tryz.prog 9 := string_keyed Tryz.underlying9
theorem keyed3 : Keyed Tryz.prog 3 := int_keyed Tryz.underlying3
theorem key9 {s : ByteArray} (h : s.size ≤ maxLen) : keyOf Tryz.prog 9 (.string s) = some (.string s.data.toList) := WideMaps.keyOf_string_mk Tryz.underlying9 h
theorem info52 : (Tryz.prog.info? 60).map (fun i => (i.zero, i.size, i.bytes)) = some (some (.agg #[.string ⟨#[]⟩, .int .i64 0]), 2, 24) := by kernel_rfl
end Go.Proofs.YtnplmembdfklcaaGreatDoor
