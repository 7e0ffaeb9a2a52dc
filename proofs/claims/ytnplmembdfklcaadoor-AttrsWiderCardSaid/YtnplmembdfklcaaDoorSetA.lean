/-
  Set: what changes in the store. Helper text; the conditions are those typed.
-/
import Derived.Test.YtnplmembdfklcaaDoorKeyB
namespace Go.Proofs.YtnplmembdfklcaaDoor
set_option linter.unusedVariables false
set_option linter.unusedSimpArgs false
open Go.RowKit Go.Maps

theorem key3 {i : Int} (h : (Lit.int .i64 i).wf = true) : keyOf Tryd.prog 3 (.int .i64 i) = some (.int .i64 i) := keyOf_int_mk Tryd.underlying3 h
theorem keyWf {i : Int} (h0 : -9223372036854775808 ≤ i) (h1 : i ≤ 9223372036854775807) : (Lit.int .i64 i).wf = true := by
  have e1 : IntKind.i64.min = -9223372036854775808 := by decide
  have e2 : IntKind.i64.max = 9223372036854775807 := by decide
  simp [Lit.wf, IntKind.wrap, IntKind.bits, IntKind.signed, e1, e2]
  omega

open Classical in
/-- The store's datum with an attribute more. -/
noncomputable def setSt (st : StT) (id : Int) (key : ByteArray) (v : ValT) : StT :=
  { keys := if st.kind key = none then st.keys ++ [key] else st.keys
    kind := fun k => if k = key then some v.kind else st.kind k
    val := fun i k => if i = id ∧ k = key then some v else st.val i k
    dirs := st.dirs }
theorem Moved.set {role role' : Nat → Role} {w w' : World} (h : Moved role w role' w') {b : Nat} (hb : w.heap.size ≤ b) (o : Nat) (x : Value) : Moved role w role' (w'.setCell ⟨b, o, none⟩ x) := by
  have k : Below w.heap.size w' (w'.setCell ⟨b, o, none⟩ x) := below_sc (Below.refl _ _) hb _ _
  exact ⟨k.os.trans h.os, k.tape.trans h.tape, k.output.trans h.output, Nat.le_trans h.size k.size, fun c hc hr => ⟨(k.block c hc).trans (h.same c hc hr).1, (h.same c hc hr).2⟩, fun c hc => ⟨by rw [set_size]; exact (h.dom c hc).1, (h.dom c hc).2⟩⟩
theorem Step.set {T : Role → Prop} {role role' : Nat → Role} {w w' : World} (h : Step T role w role' w') {b : Nat} (hb : w.heap.size ≤ b) (o : Nat) (x : Value) : Step T role w role' (w'.setCell ⟨b, o, none⟩ x) := by
  have k : Below w.heap.size w' (w'.setCell ⟨b, o, none⟩ x) := below_sc (Below.refl _ _) hb _ _
  exact ⟨k.os.trans h.os, k.tape.trans h.tape, k.output.trans h.output, Nat.le_trans h.size k.size, fun c hc hr => ⟨(k.block c hc).trans (h.same c hc hr).1, (h.same c hc hr).2⟩, fun c hc => ⟨by rw [set_size]; exact (h.dom c hc).1, (h.dom c hc).2⟩⟩

section
variable {w w' : World} {B : Nat} {role role' : Nat → Role} {S K V L : Nat} {vk vd : Value} {ib : Int → Option Nat} {sl : Int → ByteArray → Value} {n : Nat} {st : StT}

theorem StoreIn.mono (h : StoreIn w B role S K V L vk vd ib sl n st) {n' : Nat} (hn : n ≤ n') : StoreIn w B role S K V L vk vd ib sl n' st :=
  { h with kinds := h.kinds.mono hn, values := h.values.mono hn, inner := fun id b hb => (h.inner id b hb).mono hn }
/-- A free block is written. -/
theorem StoreIn.set_free (h : StoreIn w B role S K V L vk vd ib sl n st) {b : Nat} (hb : role b = .free) (o : Nat) (x : Value) : StoreIn (w.setCell ⟨b, o, none⟩ x) B role S K V L vk vd ib sl n st := by
  have hk : ∀ c R, role c = R → R ≠ .free → (w.setCell ⟨b, o, none⟩ x).heap[c]? = w.heap[c]? := fun c R hc hR => set_other _ (fun e => by subst e; exact hR (hc.symm.trans hb))
  exact ⟨h.box.to (hk _ _ h.rS (by simp)), ownsRow_to h.keys fun g hg => hk _ _ (h.rk g hg) (by simp), h.kinds.block (hk _ _ h.rK (by simp)), h.values.block (hk _ _ h.rV (by simp)), fun id b hb => (h.inner id b hb).block (hk _ _ (h.ri id b hb) (by simp)), h.hasv,
    fun id key v hv => (h.cont id key v hv).keep (fun _ h => h) (fun c hc _ => hk c _ hc (by simp)), ownsRow_to h.dirs fun g hg => hk _ _ (h.rd g hg) (by simp), h.places.block (hk _ _ h.rL (by simp)), h.rS, h.rK, h.rV, h.rL, h.rk, h.rd, h.ri, h.lo, fun c hc => by rw [set_size]; exact h.hi c hc⟩

/-- A key more: the row has grown, the map of kinds is told. -/
theorem StoreIn.kind_step {w2 w3 : World} (h : StoreIn w B role S K V L vk vd ib sl n st) {key : ByteArray} {kd : Int} (hB : B ≤ w.heap.size) {g cap : Nat}
    (hown : w2.ownsRow B 9 1 (.slice (some ⟨g, 0, none⟩) (st.keys.length + 1) cap) (st.keys.length + 1) (st.keys.map .string ++ [.string key])) (hgrow : w.grownBy w2 vk.ownBlock) (hat : vk.ownBlock = some g ∨ w.heap.size ≤ g) (hlt : g < w2.heap.size)
    {f : Value → Option Value} (hf1 : f (.string key) = some (.int .i64 kd)) (hf2 : ∀ u, u ≠ .string key → f u = kindsF st u) (hm : MapAt Tryd.prog 9 w3 K (n + 1) f) (hg3 : (w2.setCell ⟨S, 0, none⟩ (.slice (some ⟨g, 0, none⟩) (st.keys.length + 1) cap)).grownBy w3 (some K)) :
    ∃ role', Step (fun r => r ≠ .free ∧ r ≠ .content) role w role' w3 ∧ StoreIn w3 B role' S K V L (.slice (some ⟨g, 0, none⟩) (st.keys.length + 1) cap) vd ib sl (n + 1) { st with keys := st.keys ++ [key], kind := fun k => if k = key then some kd else st.kind k } := by
  have s1 := Step.of_row h.hi (R := .keys) (by simp) h.rk hgrow hat hlt
  have s2 := Step.of_set s1.inn S 0 (.slice (some ⟨g, 0, none⟩) (st.keys.length + 1) cap)
  have s3 := Step.of_grown s2.inn hg3
  have r1 : (fun b => if b = g then Role.keys else role b) S = .box := (h.blk s1 h.rS (by simp) (by simp)).2
  have r2 : (fun b => if b = g then Role.keys else role b) K = .kinds := (h.blk s1 h.rK (by simp) (by simp)).2
  have hs := (s1.trans (s2.trans s3)).mono (T2 := fun r => r = .keys ∨ r = .box ∨ r = .kinds) (by rintro r (e | e | e); exact .inl e; exact .inr (.inl (e.trans r1)); exact .inr (.inr (e.trans r2)))
  have hSg : S ≠ g := fun e => by subst e; simp at r1
  have hSK : some S ≠ some K := fun e => by cases e; rw [r1] at r2; cases r2
  have hgK : some g ≠ some K := fun e => by cases e; simp at r2
  refine ⟨_, hs.mono (by rintro r (e | e | e) <;> rw [e] <;> simp), ?_, ?_, ?_, (h.values.block (h.blk hs h.rV (by simp) (by simp)).1).mono (by omega),
    fun id b hb => ((h.inner id b hb).block (h.blk hs (h.ri id b hb) (by simp) (by simp)).1).mono (by omega), h.hasv, fun id key v hv => h.cont_to hs (by simp) (h.cont id key v hv), ownsRow_to h.dirs fun g hg => (h.blk hs (h.rd g hg) (by simp) (by simp)).1, h.places.block (h.blk hs h.rL (by simp) (by simp)).1,
    r1, r2, (h.blk hs h.rV (by simp) (by simp)).2, (h.blk hs h.rL (by simp) (by simp)).2, fun b hb => ?_, fun g hg => (h.blk hs (h.rd g hg) (by simp) (by simp)).2, fun id b hb => (h.blk hs (h.ri id b hb) (by simp) (by simp)).2, hs.lo (h := h.lo) hB, hs.inn⟩
  · have hb : BoxN w2 S [vk, .map (some K), .map (some V), vd, .map (some L)] 55 := h.box.to (hgrow.block S (h.hi S (by rw [h.rS]; simp)) (fun e => by have := h.rk S e.symm; rw [h.rS] at this; cases this))
    exact (hb.set 0 _).to (hg3.block S (by rw [set_size]; exact hb.lt) hSK)
  · show w3.ownsRow B 9 1 _ (st.keys ++ [key]).length ((st.keys ++ [key]).map .string)
    rw [List.length_append, List.length_singleton, List.map_append]
    refine ownsRow_to hown fun b hb => ?_
    cases hb
    rw [hg3.block g (by rw [set_size]; exact hlt) hgK, set_other _ (Ne.symm hSg)]
  · refine hm.congr fun u => ?_
    by_cases e : u = .string key
    · subst e
      rw [hf1]
      show (if key = key then some kd else st.kind key).map _ = _
      rw [if_pos rfl]
      rfl
    · rw [hf2 u e]
      cases u with
      | string s =>
        show (if s = key then some kd else st.kind s).map _ = (st.kind s).map _
        rw [if_neg (fun h => e (by rw [h]))]
      | _ => rfl
  · cases hb
    show (if g = g then Role.keys else _) = _
    exact if_pos rfl
/-- A package more: a map of its own. -/
theorem StoreIn.inner_step {w3 : World} (h : StoreIn w B role S K V L vk vd ib sl n st) {id : Int} (hid : ib id = none) (hB : B ≤ w.heap.size)
    {f : Value → Option Value} (hf1 : f (.int .i64 id) = some (.map (some w.heap.size))) (hf2 : ∀ u, u ≠ .int .i64 id → f u = valuesF ib u) (hm : MapAt Tryd.prog 3 w3 V (n + 1) f) (hg3 : (w.alloc (.map #[] 0)).grownBy w3 (some V)) :
    ∃ role', Step (fun r => r ≠ .free ∧ r ≠ .content) role w role' w3 ∧ StoreIn w3 B role' S K V L vk vd (fun i => if i = id then some w.heap.size else ib i) sl (n + 1) st := by
  have s1 := Step.of_new h.hi (below1 w (.map #[] 0)) (.inner id)
  have r1 := (h.blk s1 h.rV (by simp) (by simp)).2
  have s3 := Step.of_grown s1.inn hg3
  have hs := (s1.trans s3).mono (T2 := fun r => r = .values) (by rintro r (e | e); exact e.elim; exact e.trans r1)
  have hVm : some w.heap.size ≠ some V := fun e => by have := h.hi V (by rw [h.rV]; simp); cases e; omega
  refine ⟨_, hs.mono (by rintro r e; rw [e]; simp), h.box.to (h.blk hs h.rS (by simp) (by simp)).1, ownsRow_to h.keys fun g hg => (h.blk hs (h.rk g hg) (by simp) (by simp)).1, (h.kinds.block (h.blk hs h.rK (by simp) (by simp)).1).mono (by omega), hm.congr fun u => ?_,
    fun i b hb => ?_, fun i k hi => ?_, fun id key v hv => h.cont_to hs (by simp) (h.cont id key v hv), ownsRow_to h.dirs fun g hg => (h.blk hs (h.rd g hg) (by simp) (by simp)).1, h.places.block (h.blk hs h.rL (by simp) (by simp)).1,
    (h.blk hs h.rS (by simp) (by simp)).2, (h.blk hs h.rK (by simp) (by simp)).2, r1, (h.blk hs h.rL (by simp) (by simp)).2, fun g hg => (h.blk hs (h.rk g hg) (by simp) (by simp)).2, fun g hg => (h.blk hs (h.rd g hg) (by simp) (by simp)).2, fun i b hb => ?_, hs.lo (h := h.lo) hB, hs.inn⟩
  · by_cases e : u = .int .i64 id
    · subst e
      rw [hf1]
      show (if id = id then some w.heap.size else ib id).map _ = _
      rw [if_pos rfl]
      rfl
    · rw [hf2 u e]
      cases u with
      | int k i =>
        cases k <;> first | rfl | (show (if i = id then some w.heap.size else ib i).map _ = (ib i).map _; rw [if_neg (fun h => e (by rw [h]))])
      | _ => rfl
  · by_cases e : i = id
    · subst e
      rw [if_pos rfl] at hb
      cases hb
      refine ((MapAt.made Tryd.prog 9 w).block (hg3.block _ (by simp) hVm) |>.congr fun u => ?_).mono (Nat.zero_le _)
      cases u with
      | string s =>
        show (st.val i s).map _ = none
        rw [h.hasv i s hid]
        rfl
      | _ => rfl
    · rw [if_neg e] at hb
      exact ((h.inner i b hb).block (h.blk hs (h.ri i b hb) (by simp) (by simp)).1).mono (by omega)
  · by_cases e : i = id
    · subst e
      exact h.hasv i k hid
    · rw [if_neg e] at hi
      exact h.hasv i k hi
  · by_cases e : i = id
    · subst e
      rw [if_pos rfl] at hb
      cases hb
      exact if_pos ⟨Nat.le_refl _, by simp⟩
    · rw [if_neg e] at hb
      exact (h.blk hs (h.ri i b hb) (by simp) (by simp)).2
open Classical in
/-- A value is laid: its list in new blocks, the package's map is told. -/
theorem StoreIn.val_step {w2 w3 : World} (h : StoreIn w B role S K V L vk vd ib sl n st) (hB : B ≤ w.heap.size) (hb2 : Below w.heap.size w w2) {id : Int} {key : ByteArray} {v : ValT} {vl : Value} (hv : StrsV w2 (fun b => w.heap.size ≤ b) v.list vl) {b : Nat} (hib : ib id = some b)
    {f : Value → Option Value} (hf1 : f (.string key) = some (.agg #[.int .i64 v.kind, .int .i64 v.num, .string v.text, vl])) (hf2 : ∀ u, u ≠ .string key → f u = innerF (st.val id) (sl id) u) (hm : MapAt Tryd.prog 9 w3 b (n + 1) f) (hg3 : w2.grownBy w3 (some b)) :
    ∃ role', Moved role w role' w3 ∧ StoreIn w3 B role' S K V L vk vd ib (fun i k => if i = id ∧ k = key then vl else sl i k) (n + 1) { st with val := fun i k => if i = id ∧ k = key then some v else st.val i k } := by
  have s1 := Step.of_new h.hi hb2 .content
  have r1 := (h.blk s1 (h.ri id b hib) (by simp) (by simp)).2
  have s3 := Step.of_grown s1.inn hg3
  have hs := (s1.trans s3).mono (T2 := fun r => r = .inner id) (by rintro r (e | e); exact e.elim; exact e.trans r1)
  have hbs := h.hi b (by rw [h.ri id b hib]; simp)
  refine ⟨_, hs.mono (by rintro r e; rw [e]; simp), h.box.to (h.blk hs h.rS (by simp) (by simp)).1, ownsRow_to h.keys fun g hg => (h.blk hs (h.rk g hg) (by simp) (by simp)).1, (h.kinds.block (h.blk hs h.rK (by simp) (by simp)).1).mono (by omega), (h.values.block (h.blk hs h.rV (by simp) (by simp)).1).mono (by omega),
    fun i c hc => ?_, fun i k hi => ?_, fun i k x hx => ?_, ownsRow_to h.dirs fun g hg => (h.blk hs (h.rd g hg) (by simp) (by simp)).1, h.places.block (h.blk hs h.rL (by simp) (by simp)).1,
    (h.blk hs h.rS (by simp) (by simp)).2, (h.blk hs h.rK (by simp) (by simp)).2, (h.blk hs h.rV (by simp) (by simp)).2, (h.blk hs h.rL (by simp) (by simp)).2, fun g hg => (h.blk hs (h.rk g hg) (by simp) (by simp)).2, fun g hg => (h.blk hs (h.rd g hg) (by simp) (by simp)).2, fun i c hc => ?_, hs.lo (h := h.lo) hB, hs.inn⟩
  · by_cases e : i = id
    · subst e
      rw [hib] at hc
      cases hc
      refine hm.congr fun u => ?_
      by_cases eu : u = .string key
      · subst eu
        rw [hf1]
        show (if i = i ∧ key = key then some v else st.val i key).map _ = _
        rw [if_pos ⟨rfl, rfl⟩]
        show some (Value.agg #[_, _, _, if i = i ∧ key = key then vl else sl i key]) = _
        rw [if_pos ⟨rfl, rfl⟩]
      · rw [hf2 u eu]
        cases u with
        | string s =>
          have hne : ¬ (i = i ∧ s = key) := fun h => eu (by rw [h.2])
          show (if i = i ∧ s = key then some v else st.val i s).map _ = (st.val i s).map _
          rw [if_neg hne]
          cases st.val i s with
          | none => rfl
          | some x =>
            show some (Value.agg #[_, _, _, if i = i ∧ s = key then vl else sl i s]) = some (Value.agg #[_, _, _, sl i s])
            rw [if_neg hne]
        | _ => rfl
    · have h1 := ((h.inner i c hc).block (h.blk hs (h.ri i c hc) (by simp) (fun hh => e (by injection hh))).1).mono (Nat.le_succ n)
      refine h1.congr fun u => ?_
      cases u with
      | string s =>
        have hne : ¬ (i = id ∧ s = key) := fun h => e h.1
        show (if i = id ∧ s = key then some v else st.val i s).map _ = (st.val i s).map _
        rw [if_neg hne]
        cases st.val i s with
        | none => rfl
        | some x =>
          show some (Value.agg #[_, _, _, if i = id ∧ s = key then vl else sl i s]) = some (Value.agg #[_, _, _, sl i s])
          rw [if_neg hne]
      | _ => rfl
  · show (if i = id ∧ k = key then some v else st.val i k) = none
    rw [if_neg (fun hh => by rw [hh.1, hib] at hi; cases hi)]
    exact h.hasv i k hi
  · by_cases e : i = id ∧ k = key
    · have hx' : v = x := by
        have : (if i = id ∧ k = key then some v else st.val i k) = some x := hx
        rw [if_pos e] at this
        exact Option.some.inj this
      subst hx'
      show StrsV w3 _ v.list (if i = id ∧ k = key then vl else sl i k)
      rw [if_pos e]
      refine hv.inn.keep (fun c hc => if_pos ⟨hc.1, hc.2⟩) (fun c hc hl => hg3.block c hl (fun e2 => by cases e2; have := hc.1; omega))
    · have hx' : st.val i k = some x := by
        have : (if i = id ∧ k = key then some v else st.val i k) = some x := hx
        rw [if_neg e] at this
        exact this
      show StrsV w3 _ x.list (if i = id ∧ k = key then vl else sl i k)
      rw [if_neg e]
      exact h.cont_to hs (by simp) (h.cont i k x hx')
  · by_cases e : i = id
    · subst e
      rw [hib] at hc
      cases hc
      exact r1
    · exact (h.blk hs (h.ri i c hc) (by simp) (fun hh => e (by injection hh))).2
end
end Go.Proofs.YtnplmembdfklcaaDoor
