/-
  Set: what changes in the store. Helper text; the conditions are those typed.
  Set: the walk. Helper text; the conditions are those typed.
-/
import Derived.Test.YtnplmembdfklcaaGreatDoorKeyB
import Derived.Test.YtnplmembdfklcaaGreatDoorQuietTail
import Derived.Deep.RegionLaw
import Derived.Deep.Cut
import Derived.Deep.CutRange
namespace Go.Proofs.YtnplmembdfklcaaGreatDoor
set_option linter.unusedVariables false
set_option linter.unusedSimpArgs false
open Go.RowKit Go.Maps

theorem key3 {i : Int} (h : (Lit.int .i64 i).wf = true) : keyOf Tryz.prog 3 (.int .i64 i) = some (.int .i64 i) := keyOf_int_mk Tryz.underlying3 h
theorem keyWf {i : Int} (h0 : -9223372036854775808 ≤ i) (h1 : i ≤ 9223372036854775807) : (Lit.int .i64 i).wf = true := by
  have e1 : IntKind.i64.min = -9223372036854775808 := by decide
  have e2 : IntKind.i64.max = 9223372036854775807 := by decide
  simp [Lit.wf, IntKind.wrap, IntKind.bits, IntKind.signed, e1, e2]
  omega

open Classical in
/-- The store's datum with an attribute more. -/
noncomputable def setSt (st : StT) (id : Int) (key : ByteArray) (v : ValT) : StT :=
  { keys := if st.kind key = none then st.keys ++ [key] else st.keys
    kind := fun k => if k = key then some v.kind else st.kind k
    val := fun i k => if i = id ∧ k = key then some v else st.val i k
    dirs := st.dirs }
theorem Moved.set {role role' : Nat → Role} {w w' : World} (h : Moved role w role' w') {b : Nat} (hb : w.heap.size ≤ b) (o : Nat) (x : Value) : Moved role w role' (w'.setCell ⟨b, o, none⟩ x) := by
  have k : Below w.heap.size w' (w'.setCell ⟨b, o, none⟩ x) := below_sc (Below.refl _ _) hb _ _
  exact ⟨k.os.trans h.os, k.tape.trans h.tape, k.output.trans h.output, Nat.le_trans h.size k.size, fun c hc hr => ⟨(k.block c hc).trans (h.same c hc hr).1, (h.same c hc hr).2⟩, fun c hc => ⟨by rw [set_size]; exact (h.dom c hc).1, (h.dom c hc).2⟩⟩
theorem Step.set {T : Role → Prop} {role role' : Nat → Role} {w w' : World} (h : Step T role w role' w') {b : Nat} (hb : w.heap.size ≤ b) (o : Nat) (x : Value) : Step T role w role' (w'.setCell ⟨b, o, none⟩ x) := by
  have k : Below w.heap.size w' (w'.setCell ⟨b, o, none⟩ x) := below_sc (Below.refl _ _) hb _ _
  exact ⟨k.os.trans h.os, k.tape.trans h.tape, k.output.trans h.output, Nat.le_trans h.size k.size, fun c hc hr => ⟨(k.block c hc).trans (h.same c hc hr).1, (h.same c hc hr).2⟩, fun c hc => ⟨by rw [set_size]; exact (h.dom c hc).1, (h.dom c hc).2⟩⟩

section
variable {w w' : World} {B : Nat} {role role' : Nat → Role} {S K V L : Nat} {vk vd : Value} {ib : Int → Option Nat} {sl : Int → ByteArray → Value} {n : Nat} {st : StT}

theorem StoreIn.mono (h : StoreIn w B role S K V L vk vd ib sl n st) {n' : Nat} (hn : n ≤ n') : StoreIn w B role S K V L vk vd ib sl n' st :=
  { h with kinds := h.kinds.mono hn, values := h.values.mono hn, inner := fun id b hb => (h.inner id b hb).mono hn }
/-- A free block is written. -/
theorem StoreIn.set_free (h : StoreIn w B role S K V L vk vd ib sl n st) {b : Nat} (hb : role b = .free) (o : Nat) (x : Value) : StoreIn (w.setCell ⟨b, o, none⟩ x) B role S K V L vk vd ib sl n st := by
  have hk : ∀ c R, role c = R → R ≠ .free → (w.setCell ⟨b, o, none⟩ x).heap[c]? = w.heap[c]? := fun c R hc hR => set_other _ (fun e => by subst e; exact hR (hc.symm.trans hb))
  exact ⟨h.box.to (hk _ _ h.rS (by simp)), ownsRow_to h.keys fun g hg => hk _ _ (h.rk g hg) (by simp), h.kinds.block (hk _ _ h.rK (by simp)), h.values.block (hk _ _ h.rV (by simp)), fun id b hb => (h.inner id b hb).block (hk _ _ (h.ri id b hb) (by simp)), h.hasv,
    fun id key v hv => (h.cont id key v hv).keep (fun _ h => h) (fun c hc _ => hk c _ hc (by simp)), ownsRow_to h.dirs fun g hg => hk _ _ (h.rd g hg) (by simp), h.places.block (hk _ _ h.rL (by simp)), h.rS, h.rK, h.rV, h.rL, h.rk, h.rd, h.ri, h.lo, fun c hc => by rw [set_size]; exact h.hi c hc⟩

/-- A key more: the row has grown, the map of kinds is told. -/
theorem StoreIn.kind_step {w2 w3 : World} (h : StoreIn w B role S K V L vk vd ib sl n st) {key : ByteArray} {kd : Int} (hB : B ≤ w.heap.size) {g cap : Nat}
    (hown : w2.ownsRow B 9 1 (.slice (some ⟨g, 0, none⟩) (st.keys.length + 1) cap) (st.keys.length + 1) (st.keys.map .string ++ [.string key])) (hgrow : w.grownBy w2 vk.ownBlock) (hat : vk.ownBlock = some g ∨ w.heap.size ≤ g) (hlt : g < w2.heap.size)
    {f : Value → Option Value} (hf1 : f (.string key) = some (.int .i64 kd)) (hf2 : ∀ u, u ≠ .string key → f u = kindsF st u) (hm : MapAt Tryz.prog 9 w3 K (n + 1) f) (hg3 : (w2.setCell ⟨S, 0, none⟩ (.slice (some ⟨g, 0, none⟩) (st.keys.length + 1) cap)).grownBy w3 (some K)) :
    ∃ role', Step (fun r => r ≠ .free ∧ r ≠ .content) role w role' w3 ∧ StoreIn w3 B role' S K V L (.slice (some ⟨g, 0, none⟩) (st.keys.length + 1) cap) vd ib sl (n + 1) { st with keys := st.keys ++ [key], kind := fun k => if k = key then some kd else st.kind k } := by
  have s1 := Step.of_row h.hi (R := .keys) (by simp) h.rk hgrow hat hlt
  have s2 := Step.of_set s1.inn S 0 (.slice (some ⟨g, 0, none⟩) (st.keys.length + 1) cap)
  have s3 := Step.of_grown s2.inn hg3
  have r1 : (fun b => if b = g then Role.keys else role b) S = .box := (h.blk s1 h.rS (by simp) (by simp)).2
  have r2 : (fun b => if b = g then Role.keys else role b) K = .kinds := (h.blk s1 h.rK (by simp) (by simp)).2
  have hs := (s1.trans (s2.trans s3)).mono (T2 := fun r => r = .keys ∨ r = .box ∨ r = .kinds) (by rintro r (e | e | e); exact .inl e; exact .inr (.inl (e.trans r1)); exact .inr (.inr (e.trans r2)))
  have hSg : S ≠ g := fun e => by subst e; simp at r1
  have hSK : some S ≠ some K := fun e => by cases e; rw [r1] at r2; cases r2
  have hgK : some g ≠ some K := fun e => by cases e; simp at r2
  refine ⟨_, hs.mono (by rintro r (e | e | e) <;> rw [e] <;> simp), ?_, ?_, ?_, (h.values.block (h.blk hs h.rV (by simp) (by simp)).1).mono (by omega),
    fun id b hb => ((h.inner id b hb).block (h.blk hs (h.ri id b hb) (by simp) (by simp)).1).mono (by omega), h.hasv, fun id key v hv => h.cont_to hs (by simp) (h.cont id key v hv), ownsRow_to h.dirs fun g hg => (h.blk hs (h.rd g hg) (by simp) (by simp)).1, h.places.block (h.blk hs h.rL (by simp) (by simp)).1,
    r1, r2, (h.blk hs h.rV (by simp) (by simp)).2, (h.blk hs h.rL (by simp) (by simp)).2, fun b hb => ?_, fun g hg => (h.blk hs (h.rd g hg) (by simp) (by simp)).2, fun id b hb => (h.blk hs (h.ri id b hb) (by simp) (by simp)).2, hs.lo (h := h.lo) hB, hs.inn⟩
  · have hb : BoxN w2 S [vk, .map (some K), .map (some V), vd, .map (some L)] 63 := h.box.to (hgrow.block S (h.hi S (by rw [h.rS]; simp)) (fun e => by have := h.rk S e.symm; rw [h.rS] at this; cases this))
    exact (hb.set 0 _).to (hg3.block S (by rw [set_size]; exact hb.lt) hSK)
  · show w3.ownsRow B 9 1 _ (st.keys ++ [key]).length ((st.keys ++ [key]).map .string)
    rw [List.length_append, List.length_singleton, List.map_append]
    refine ownsRow_to hown fun b hb => ?_
    cases hb
    rw [hg3.block g (by rw [set_size]; exact hlt) hgK, set_other _ (Ne.symm hSg)]
  · refine hm.congr fun u => ?_
    by_cases e : u = .string key
    · subst e
      rw [hf1]
      show (if key = key then some kd else st.kind key).map _ = _
      rw [if_pos rfl]
      rfl
    · rw [hf2 u e]
      cases u with
      | string s =>
        show (if s = key then some kd else st.kind s).map _ = (st.kind s).map _
        rw [if_neg (fun h => e (by rw [h]))]
      | _ => rfl
  · cases hb
    show (if g = g then Role.keys else _) = _
    exact if_pos rfl
/-- A package more: a map of its own. -/
theorem StoreIn.inner_step {w3 : World} (h : StoreIn w B role S K V L vk vd ib sl n st) {id : Int} (hid : ib id = none) (hB : B ≤ w.heap.size)
    {f : Value → Option Value} (hf1 : f (.int .i64 id) = some (.map (some w.heap.size))) (hf2 : ∀ u, u ≠ .int .i64 id → f u = valuesF ib u) (hm : MapAt Tryz.prog 3 w3 V (n + 1) f) (hg3 : (w.alloc (.map #[] 0)).grownBy w3 (some V)) :
    ∃ role', Step (fun r => r ≠ .free ∧ r ≠ .content) role w role' w3 ∧ StoreIn w3 B role' S K V L vk vd (fun i => if i = id then some w.heap.size else ib i) sl (n + 1) st := by
  have s1 := Step.of_new h.hi (below1 w (.map #[] 0)) (.inner id)
  have r1 := (h.blk s1 h.rV (by simp) (by simp)).2
  have s3 := Step.of_grown s1.inn hg3
  have hs := (s1.trans s3).mono (T2 := fun r => r = .values) (by rintro r (e | e); exact e.elim; exact e.trans r1)
  have hVm : some w.heap.size ≠ some V := fun e => by have := h.hi V (by rw [h.rV]; simp); cases e; omega
  refine ⟨_, hs.mono (by rintro r e; rw [e]; simp), h.box.to (h.blk hs h.rS (by simp) (by simp)).1, ownsRow_to h.keys fun g hg => (h.blk hs (h.rk g hg) (by simp) (by simp)).1, (h.kinds.block (h.blk hs h.rK (by simp) (by simp)).1).mono (by omega), hm.congr fun u => ?_,
    fun i b hb => ?_, fun i k hi => ?_, fun id key v hv => h.cont_to hs (by simp) (h.cont id key v hv), ownsRow_to h.dirs fun g hg => (h.blk hs (h.rd g hg) (by simp) (by simp)).1, h.places.block (h.blk hs h.rL (by simp) (by simp)).1,
    (h.blk hs h.rS (by simp) (by simp)).2, (h.blk hs h.rK (by simp) (by simp)).2, r1, (h.blk hs h.rL (by simp) (by simp)).2, fun g hg => (h.blk hs (h.rk g hg) (by simp) (by simp)).2, fun g hg => (h.blk hs (h.rd g hg) (by simp) (by simp)).2, fun i b hb => ?_, hs.lo (h := h.lo) hB, hs.inn⟩
  · by_cases e : u = .int .i64 id
    · subst e
      rw [hf1]
      show (if id = id then some w.heap.size else ib id).map _ = _
      rw [if_pos rfl]
      rfl
    · rw [hf2 u e]
      cases u with
      | int k i =>
        cases k <;> first | rfl | (show (if i = id then some w.heap.size else ib i).map _ = (ib i).map _; rw [if_neg (fun h => e (by rw [h]))])
      | _ => rfl
  · by_cases e : i = id
    · subst e
      rw [if_pos rfl] at hb
      cases hb
      refine ((MapAt.made Tryz.prog 9 w).block (hg3.block _ (by simp) hVm) |>.congr fun u => ?_).mono (Nat.zero_le _)
      cases u with
      | string s =>
        show (st.val i s).map _ = none
        rw [h.hasv i s hid]
        rfl
      | _ => rfl
    · rw [if_neg e] at hb
      exact ((h.inner i b hb).block (h.blk hs (h.ri i b hb) (by simp) (by simp)).1).mono (by omega)
  · by_cases e : i = id
    · subst e
      exact h.hasv i k hid
    · rw [if_neg e] at hi
      exact h.hasv i k hi
  · by_cases e : i = id
    · subst e
      rw [if_pos rfl] at hb
      cases hb
      exact if_pos ⟨Nat.le_refl _, by simp⟩
    · rw [if_neg e] at hb
      exact (h.blk hs (h.ri i b hb) (by simp) (by simp)).2
open Classical in
/-- A value is laid: its list in new blocks, the package's map is told. -/
theorem StoreIn.val_step {w2 w3 : World} (h : StoreIn w B role S K V L vk vd ib sl n st) (hB : B ≤ w.heap.size) (hb2 : Below w.heap.size w w2) {id : Int} {key : ByteArray} {v : ValT} {vl : Value} (hv : StrsV w2 (fun b => w.heap.size ≤ b) v.list vl) {b : Nat} (hib : ib id = some b)
    {f : Value → Option Value} (hf1 : f (.string key) = some (.agg #[.int .i64 v.kind, .int .i64 v.num, .string v.text, vl])) (hf2 : ∀ u, u ≠ .string key → f u = innerF (st.val id) (sl id) u) (hm : MapAt Tryz.prog 9 w3 b (n + 1) f) (hg3 : w2.grownBy w3 (some b)) :
    ∃ role', Moved role w role' w3 ∧ StoreIn w3 B role' S K V L vk vd ib (fun i k => if i = id ∧ k = key then vl else sl i k) (n + 1) { st with val := fun i k => if i = id ∧ k = key then some v else st.val i k } := by
  have s1 := Step.of_new h.hi hb2 .content
  have r1 := (h.blk s1 (h.ri id b hib) (by simp) (by simp)).2
  have s3 := Step.of_grown s1.inn hg3
  have hs := (s1.trans s3).mono (T2 := fun r => r = .inner id) (by rintro r (e | e); exact e.elim; exact e.trans r1)
  have hbs := h.hi b (by rw [h.ri id b hib]; simp)
  refine ⟨_, hs.mono (by rintro r e; rw [e]; simp), h.box.to (h.blk hs h.rS (by simp) (by simp)).1, ownsRow_to h.keys fun g hg => (h.blk hs (h.rk g hg) (by simp) (by simp)).1, (h.kinds.block (h.blk hs h.rK (by simp) (by simp)).1).mono (by omega), (h.values.block (h.blk hs h.rV (by simp) (by simp)).1).mono (by omega),
    fun i c hc => ?_, fun i k hi => ?_, fun i k x hx => ?_, ownsRow_to h.dirs fun g hg => (h.blk hs (h.rd g hg) (by simp) (by simp)).1, h.places.block (h.blk hs h.rL (by simp) (by simp)).1,
    (h.blk hs h.rS (by simp) (by simp)).2, (h.blk hs h.rK (by simp) (by simp)).2, (h.blk hs h.rV (by simp) (by simp)).2, (h.blk hs h.rL (by simp) (by simp)).2, fun g hg => (h.blk hs (h.rk g hg) (by simp) (by simp)).2, fun g hg => (h.blk hs (h.rd g hg) (by simp) (by simp)).2, fun i c hc => ?_, hs.lo (h := h.lo) hB, hs.inn⟩
  · by_cases e : i = id
    · subst e
      rw [hib] at hc
      cases hc
      refine hm.congr fun u => ?_
      by_cases eu : u = .string key
      · subst eu
        rw [hf1]
        show (if i = i ∧ key = key then some v else st.val i key).map _ = _
        rw [if_pos ⟨rfl, rfl⟩]
        show some (Value.agg #[_, _, _, if i = i ∧ key = key then vl else sl i key]) = _
        rw [if_pos ⟨rfl, rfl⟩]
      · rw [hf2 u eu]
        cases u with
        | string s =>
          have hne : ¬ (i = i ∧ s = key) := fun h => eu (by rw [h.2])
          show (if i = i ∧ s = key then some v else st.val i s).map _ = (st.val i s).map _
          rw [if_neg hne]
          cases st.val i s with
          | none => rfl
          | some x =>
            show some (Value.agg #[_, _, _, if i = i ∧ s = key then vl else sl i s]) = some (Value.agg #[_, _, _, sl i s])
            rw [if_neg hne]
        | _ => rfl
    · have h1 := ((h.inner i c hc).block (h.blk hs (h.ri i c hc) (by simp) (fun hh => e (by injection hh))).1).mono (Nat.le_succ n)
      refine h1.congr fun u => ?_
      cases u with
      | string s =>
        have hne : ¬ (i = id ∧ s = key) := fun h => e h.1
        show (if i = id ∧ s = key then some v else st.val i s).map _ = (st.val i s).map _
        rw [if_neg hne]
        cases st.val i s with
        | none => rfl
        | some x =>
          show some (Value.agg #[_, _, _, if i = id ∧ s = key then vl else sl i s]) = some (Value.agg #[_, _, _, sl i s])
          rw [if_neg hne]
      | _ => rfl
  · show (if i = id ∧ k = key then some v else st.val i k) = none
    rw [if_neg (fun hh => by rw [hh.1, hib] at hi; cases hi)]
    exact h.hasv i k hi
  · by_cases e : i = id ∧ k = key
    · have hx' : v = x := by
        have : (if i = id ∧ k = key then some v else st.val i k) = some x := hx
        rw [if_pos e] at this
        exact Option.some.inj this
      subst hx'
      show StrsV w3 _ v.list (if i = id ∧ k = key then vl else sl i k)
      rw [if_pos e]
      refine hv.inn.keep (fun c hc => if_pos ⟨hc.1, hc.2⟩) (fun c hc hl => hg3.block c hl (fun e2 => by cases e2; have := hc.1; omega))
    · have hx' : st.val i k = some x := by
        have : (if i = id ∧ k = key then some v else st.val i k) = some x := hx
        rw [if_neg e] at this
        exact this
      show StrsV w3 _ x.list (if i = id ∧ k = key then vl else sl i k)
      rw [if_neg e]
      exact h.cont_to hs (by simp) (h.cont i k x hx')
  · by_cases e : i = id
    · subst e
      rw [hib] at hc
      cases hc
      exact r1
    · exact (h.blk hs (h.ri i c hc) (by simp) (fun hh => e (by injection hh))).2
end
end Go.Proofs.YtnplmembdfklcaaGreatDoor
namespace Go.Proofs.YtnplmembdfklcaaGreatDoor
set_option linter.unusedVariables false
set_option linter.unusedSimpArgs false
open Go.RowKit Go.Maps

/-- Is a value one? -/
def shB (k n : Int) (t : ByteArray) (ln : Nat) : Bool := if k = 1 then decide (t = ⟨#[]⟩) && decide (ln = 0) else if k = 2 then decide (n = 0) && decide (ln = 0) else decide (k = 3) && decide (n = 0) && decide (t = ⟨#[]⟩)
theorem eqE (t : ByteArray) : (t.toList == ([] : List UInt8)) = decide (t = ⟨#[]⟩) := by
  have h := beqS (a := t) (b := ⟨#[]⟩)
  rwa [show (⟨#[]⟩ : ByteArray).toList = [] from (toList_bs _).trans rfl] at h
set_option maxHeartbeats 2000000 in
set_option maxRecDepth 100000 in
theorem shaped_c (k n : Int) (t : ByteArray) (a : Option Addr) (ln c : Nat) (w : World) :
    Calls Tryz.prog 40 #[.agg #[.int .i64 k, .int .i64 n, .string t, .slice a ln c]] w fun e w' => e = .returned (.bool (shB k n t ln)) ∧ Below w.heap.size w w' := by
  have HB : Hid (Below w.heap.size w (w.alloc (.cells #[.int .i64 k, .int .i64 n, .string t, .slice a ln c] 31))) := below1 _ _
  have ht := eqE t
  have hl0 : ((ln : Int) == 0) = decide (ln = 0) := by
    by_cases h : ln = 0
    · subst h; rfl
    · rw [decide_eq_false h]; simpa using h
  have hn0 : (n == 0) = decide (n = 0) := by
    by_cases h : n = 0
    · subst h; rfl
    · rw [decide_eq_false h]; simpa using h
  by_cases k1 : k = 1
  · subst k1
    have hs : shB 1 n t ln = (decide (t = ⟨#[]⟩) && decide (ln = 0)) := rfl
    rw [hs]
    generalize decide (t = ⟨#[]⟩) = x at ht ⊢
    generalize decide (ln = 0) = y at hl0 ⊢
    clear hn0 hs
    cases x with
    | true =>
      rw [Bool.true_and]
      go_enter Tryz.func40, Tryz.ntmps40
      go_wp2_with fail
      go_ret
      exact ⟨rfl, HB.out⟩
    | false =>
      rw [Bool.false_and]
      go_enter Tryz.func40, Tryz.ntmps40
      go_wp2_with fail
      go_ret
      exact ⟨rfl, HB.out⟩
  · by_cases k2 : k = 2
    · subst k2
      have hs : shB 2 n t ln = (decide (n = 0) && decide (ln = 0)) := rfl
      rw [hs]
      generalize decide (n = 0) = x at hn0 ⊢
      generalize decide (ln = 0) = y at hl0 ⊢
      clear ht hs k1
      cases x with
      | true =>
        rw [Bool.true_and]
        go_enter Tryz.func40, Tryz.ntmps40
        go_wp2_with fail
        go_ret
        exact ⟨rfl, HB.out⟩
      | false =>
        rw [Bool.false_and]
        go_enter Tryz.func40, Tryz.ntmps40
        go_wp2_with fail
        go_ret
        exact ⟨rfl, HB.out⟩
    · have hs : shB k n t ln = (decide (k = 3) && decide (n = 0) && decide (t = ⟨#[]⟩)) := by
        unfold shB
        rw [if_neg k1, if_neg k2]
      have hk3 : (k == 3) = decide (k = 3) := by
        by_cases h : k = 3
        · subst h; rfl
        · rw [decide_eq_false h]; simpa using h
      have b1 : (k == 1) = false := by simpa using k1
      have b2 : (k == 2) = false := by simpa using k2
      rw [hs]
      generalize decide (k = 3) = z at hk3 ⊢
      generalize decide (n = 0) = x at hn0 ⊢
      generalize decide (t = ⟨#[]⟩) = y at ht ⊢
      clear hs
      cases z with
      | false =>
        rw [Bool.false_and, Bool.false_and]
        go_enter Tryz.func40, Tryz.ntmps40
        go_wp2_with fail
        go_ret
        exact ⟨rfl, HB.out⟩
      | true =>
        rw [Bool.true_and]
        cases x with
        | true =>
          rw [Bool.true_and]
          go_enter Tryz.func40, Tryz.ntmps40
          go_wp2_with fail
          go_ret
          exact ⟨rfl, HB.out⟩
        | false =>
          rw [Bool.false_and]
          go_enter Tryz.func40, Tryz.ntmps40
          go_wp2_with fail
          go_ret
          exact ⟨rfl, HB.out⟩
/-- Is a value too long? -/
def longB (v : ValT) : Bool := decide (200 < v.text.size) || decide (200 < v.list.length) || v.list.any fun s => decide (200 < s.size)
/-- What Set answers. -/
def setErr (st : StT) (id : Int) (key : ByteArray) (v : ValT) : Int :=
  if id < 0 ∨ 65535 < id then 1 else if nameB key = false then 80 else if shB v.kind v.num v.text v.list.length = false then 81 else if longB v = true then 82
  else match st.kind key with
    | some k => if k = v.kind then 0 else 81
    | none => if 64 ≤ st.keys.length then 83 else 0

theorem mapNil_t (w : World) : (binOp .eql 66 (.map none) (.map none)).run Tryz.prog w = .ok (.bool true) w := by kernel_rfl
theorem mapNil_f (b : Nat) (w : World) : (binOp .eql 66 (.map (some b)) (.map none)).run Tryz.prog w = .ok (.bool false) w := by kernel_rfl
theorem below_set2 {n : Nat} {w w' : World} (h : Below n w w') {g : Nat} (hg : g < n) (o : Nat) (v : Value) : Below n (w.setCell ⟨g, o, none⟩ v) (w'.setCell ⟨g, o, none⟩ v) := by
  refine ⟨h.os, h.tape, h.output, by rw [set_size, set_size]; exact h.size, fun b hb => ?_⟩
  have := h.block b hb
  unfold World.setCell
  simp only [Array.getElem?_modify, this]
section
variable {w w' : World} {B : Nat} {role role' : Nat → Role} {S K V L : Nat} {vk vd : Value} {ib : Int → Option Nat} {sl : Int → ByteArray → Value} {n : Nat} {st : StT}
def SetPost (role : Nat → Role) (w : World) (B S K V L : Nat) (vd : Value) (n : Nat) (st : StT) (id : Int) (key : ByteArray) (v : ValT) (e : Ending) (w' : World) : Prop :=
  e = .returned (.int .i64 (setErr st id key v)) ∧ ∃ role' vk' ib' sl', Moved role w role' w' ∧ StoreIn w' B role' S K V L vk' vd ib' sl' (n + 3) (if setErr st id key v = 0 then setSt st id key v else st)
theorem StoreIn.look_kind (h : StoreIn w B role S K V L vk vd ib sl n st) {key : ByteArray} (hs : key.size ≤ maxLen) :
    (Instr.lookup 57 (.map (some K)) (.string key) true).run Tryz.prog w = .ok (.tuple #[.int .i64 ((st.kind key).getD 0), .bool (st.kind key).isSome]) w := by
  rw [h.kinds.run_look_ok keyed9 Tryz.underlying57 (Tryz.zeroValue3 w) (key9 hs)]
  have : kindsF st (.string key) = (st.kind key).map fun (k : Int) => Value.int .i64 k := rfl
  rw [this]
  cases st.kind key <;> rfl

open Classical in
set_option maxHeartbeats 8000000 in
set_option maxRecDepth 100000 in
theorem set_c (h : StoreIn w B role S K V L vk vd ib sl n st) (hB : B ≤ w.heap.size) (hn : n + 3 < maxLen) (hkl : st.keys.length ≤ 64) (id : Int) (key : ByteArray) (hkey : key.size ≤ maxLen) (v : ValT) (a : Option Addr) (ln c : Nat) (Sv : Nat → Prop)
    (hv : StrsV w Sv v.list (.slice a ln c)) (hSv : ∀ b, Sv b → role b = .free ∨ role b = .content) :
    Calls Tryz.prog 18 #[.pointer (some ⟨S, 0, none⟩), .int .i64 id, .string key, .agg #[.int .i64 v.kind, .int .i64 v.num, .string v.text, .slice a ln c]] w (SetPost role w B S K V L vd n st id key v) := by
  have HH := Lib.hid h
  have HB0 := Lib.hid hB
  have hln := hv.len
  have HV := Lib.hid hv
  have HNO : Hid (∀ e, setErr st id key v = e → e ≠ 0 → ∀ w', Below w.heap.size w w' → SetPost role w B S K V L vd n st id key v (.returned (.int .i64 e)) w') := fun e he h0 w' hb => by
    unfold SetPost
    rw [he, if_neg h0]
    exact ⟨rfl, role, vk, ib, sl, Moved.of_below HH.out.hi hb, (HH.out.below HB0.out hb).mono (by omega)⟩
  have HYES : Hid (setErr st id key v = 0 → ∀ w' role' vk' ib' sl', Moved role w role' w' → StoreIn w' B role' S K V L vk' vd ib' sl' (n + 3) (setSt st id key v) → SetPost role w B S K V L vd n st id key v (.returned (.int .i64 0)) w') := fun he w' role' vk' ib' sl' hm hs => by
    unfold SetPost
    rw [he, if_pos rfl]
    exact ⟨rfl, role', vk', ib', sl', hm, hs⟩
  have HE : Hid (∀ x, x = setErr st id key v → x = (if id < 0 ∨ 65535 < id then 1 else if nameB key = false then 80 else if shB v.kind v.num v.text v.list.length = false then 81 else if longB v = true then 82 else match st.kind key with | some k => if k = v.kind then 0 else 81 | none => if 64 ≤ st.keys.length then 83 else 0)) := fun x hx => hx
  generalize SetPost role w B S K V L vd n st id key v = Q at HNO HYES ⊢
  generalize setErr st id key v = E at HNO HYES HE
  have HE' := Lib.hid (HE.out E rfl)
  clear HE h hB hv
  have HBX : Hid (Below w.heap.size w (w.alloc (.cells #[.int .i64 v.kind, .int .i64 v.num, .string v.text, .slice a ln c] 31)) ∧ BoxN (w.alloc (.cells #[.int .i64 v.kind, .int .i64 v.num, .string v.text, .slice a ln c] 31)) w.heap.size [.int .i64 v.kind, .int .i64 v.num, .string v.text, .slice a ln c] 31) := ⟨below1 _ _, boxN_alloc _ _ _⟩
  by_cases hlo : id < 0
  · have he : E = 1 := by rw [HE'.out, if_pos (.inl hlo)]
    subst he
    have HNO1 := Lib.hid (HNO.out 1 rfl (by decide) _ HBX.out.1)
    clear HNO HYES HE'
    go_enter Tryz.func18, Tryz.ntmps18
    go_wp2_with fail
    exact HNO1.out
  by_cases hhi : 65535 < id
  · have he : E = 1 := by rw [HE'.out, if_pos (.inr hhi)]
    subst he
    have HNO1 := Lib.hid (HNO.out 1 rfl (by decide) _ HBX.out.1)
    clear HNO HYES HE'
    go_enter Tryz.func18, Tryz.ntmps18
    go_wp2_with fail
    exact HNO1.out
  have HE2 : Hid (E = (if nameB key = false then 80 else if shB v.kind v.num v.text v.list.length = false then 81 else if longB v = true then 82 else match st.kind key with | some k => if k = v.kind then 0 else 81 | none => if 64 ≤ st.keys.length then 83 else 0)) := by
    rw [HE'.out, if_neg (by omega)]
    exact rfl
  clear HE'
  have hlk := (HH.out.below HB0.out HBX.out.1).look_kind hkey
  have b1 := (HH.out.below HB0.out HBX.out.1).box.cell (j := 1) rfl
  have HN := Lib.hid (fun w => name_c key w)
  obtain ⟨W1, hW1⟩ : ∃ W1, w.alloc (.cells #[.int .i64 v.kind, .int .i64 v.num, .string v.text, .slice a ln c] 31) = W1 := ⟨_, rfl⟩
  rw [hW1] at HBX hlk b1
  obtain ⟨kd, hkd⟩ : ∃ kd, (st.kind key).getD 0 = kd := ⟨_, rfl⟩
  obtain ⟨kb, hkb⟩ : ∃ kb, (st.kind key).isSome = kb := ⟨_, rfl⟩
  rw [hkd, hkb] at hlk
  replace hkd := Lib.hid hkd
  replace hkb := Lib.hid hkb
  go_enter Tryz.func18, Tryz.ntmps18
  cases hnb : nameB key with
  | false =>
    have he : E = 80 := by rw [HE2.out, if_pos hnb]
    subst he
    rw [hnb] at HN
    have HNO1 := Lib.hid (fun w' hb => HNO.out 80 rfl (by decide) w' hb)
    clear HNO HYES HE2
    replace hnb := Lib.hid hnb
    go_wp2_with (go_at_call 39; refine (HN.out _).mono ?_; rintro e w2 ⟨rfl, hb2⟩)
    exact HNO1.out _ (below_tr HBX.out.1 hb2)
  | true =>
  have HE3 : Hid (E = (if shB v.kind v.num v.text v.list.length = false then 81 else if longB v = true then 82 else match st.kind key with | some k => if k = v.kind then 0 else 81 | none => if 64 ≤ st.keys.length then 83 else 0)) := by
    rw [HE2.out, if_neg (by rw [hnb]; decide)]
    exact rfl
  rw [hnb] at HN
  clear HE2
  replace hnb := Lib.hid hnb
  go_upto_region 7 with (go_at_call 39; refine (HN.out _).mono ?_; rintro e w2 ⟨rfl, hb2⟩)
  have HB2 : Hid (Below w.heap.size w w2 ∧ BoxN w2 w.heap.size [.int .i64 v.kind, .int .i64 v.num, .string v.text, .slice a ln c] 31) := ⟨below_tr HBX.out.1 hb2, HBX.out.2.below hb2⟩
  clear hb2 hlk b1 HBX hW1 HN
  have p0 := HB2.out.2.cell (j := 0) rfl
  have p1 := HB2.out.2.cell (j := 1) rfl
  have p2 := HB2.out.2.cell (j := 2) rfl
  have p3 := HB2.out.2.cell (j := 3) rfl
  have HS := Lib.hid (fun w => shaped_c v.kind v.num v.text a ln c w)
  rw [hln] at HE3
  cases hsh : shB v.kind v.num v.text ln with
  | false =>
    have he : E = 81 := by rw [HE3.out, if_pos hsh]
    subst he
    rw [hsh] at HS
    have HNO1 := Lib.hid (fun w' hb => HNO.out 81 rfl (by decide) w' hb)
    clear HNO HYES HE3
    replace hsh := Lib.hid hsh
    go_wp2_with (go_at_call 40; refine (HS.out _).mono ?_; rintro e w3 ⟨rfl, hb3⟩)
    exact HNO1.out _ (below_tr HB2.out.1 hb3)
  | true =>
  have HE4 : Hid (E = (if longB v = true then 82 else match st.kind key with | some k => if k = v.kind then 0 else 81 | none => if 64 ≤ st.keys.length then 83 else 0)) := by
    rw [HE3.out, if_neg (by rw [hsh]; decide)]
    exact rfl
  rw [hsh] at HS
  clear HE3
  replace hsh := Lib.hid hsh
  go_upto_region 9 with (go_at_call 40; refine (HS.out _).mono ?_; rintro e w3 ⟨rfl, hb3⟩)
  have HB3 : Hid (Below w.heap.size w w3 ∧ BoxN w3 w.heap.size [.int .i64 v.kind, .int .i64 v.num, .string v.text, .slice a ln c] 31) := ⟨below_tr HB2.out.1 hb3, HB2.out.2.below hb3⟩
  clear hb3 p0 p1 p2 p3 HB2 HS
  have HL := Lib.hid (fun w => long_c v.text w)
  have HA := Lib.hid (fun w' (hb : Below w.heap.size w w') => anyLong_c v.list a ln c Sv w' (HV.out.below hb))
  have HLB : Hid (longB v = (decide (200 < v.text.size) || decide (200 < ln) || v.list.any fun s => decide (200 < s.size))) := by
    unfold longB
    rw [hln]
    exact rfl
  have HL82 : Hid (longB v = true → ∀ w', Below w.heap.size w w' → Q (.returned (.int .i64 82)) w') := fun hl w' hb => by
    have he : E = 82 := by rw [HE4.out, if_pos hl]
    subst he
    exact HNO.out 82 rfl (by decide) w' hb
  have q2 := HB3.out.2.cell (j := 2) rfl
  have HP3 : Hid (∀ q, Below w.heap.size w (w3.drewN q) ∧ (w3.drewN q).cell? ⟨w.heap.size, 3, none⟩ = some (.slice a ln c)) := fun q => ⟨below_dr HB3.out.1 q, (HB3.out.2.below (below_dr (Below.refl _ _) q)).cell (j := 3) rfl⟩
  cases htl : decide (200 < v.text.size) with
  | true =>
    have HL1 := Lib.hid (HL82.out (by rw [HLB.out, htl]; rfl))
    rw [htl] at HL
    clear HNO HYES HE4 HLB HL82
    replace htl := Lib.hid htl
    go_wp2_with (go_at_call 38; refine (HL.out _).mono ?_; rintro e w4 ⟨rfl, q, rfl⟩)
    exact HL1.out _ (HP3.out q).1
  | false =>
  rw [htl] at HL HLB
  by_cases hll : 200 < ln
  · have hll1 : 200 < (ln : Int) := by omega
    have HL1 := Lib.hid (HL82.out (by rw [HLB.out, decide_eq_true hll]; rfl))
    clear HNO HYES HE4 HLB HL82
    replace htl := Lib.hid htl
    go_wp2_with (go_at_call 38; refine (HL.out _).mono ?_; rintro e w4 ⟨rfl, q, rfl⟩; have r3 := (HP3.out q).2)
    exact HL1.out _ (HP3.out q).1
  have hll1 : ¬ 200 < (ln : Int) := by omega
  rw [decide_eq_false hll] at HLB
  cases han : v.list.any fun s => decide (200 < s.size) with
  | true =>
    have HL1 := Lib.hid (HL82.out (by rw [HLB.out, han]; rfl))
    rw [han] at HA
    clear HNO HYES HE4 HLB HL82
    replace htl := Lib.hid htl
    replace han := Lib.hid han
    go_wp2_with (first | (go_at_call 38; refine (HL.out _).mono ?_; rintro e w4 ⟨rfl, q, rfl⟩; have r3 := (HP3.out q).2) | (go_at_call 33; refine (HA.out _ (HP3.out q).1).mono ?_; rintro e w5 ⟨rfl, hb5⟩))
    exact HL1.out _ (below_tr (HP3.out q).1 hb5)
  | false =>
  rw [han] at HA HLB
  have HE5 : Hid (E = (match st.kind key with | some k => if k = v.kind then 0 else 81 | none => if 64 ≤ st.keys.length then 83 else 0)) := by
    rw [HE4.out, if_neg (by rw [HLB.out]; decide)]
    exact rfl
  clear HE4 HLB HL82
  replace htl := Lib.hid htl
  replace han := Lib.hid han
  go_upto_region 11 with (first | (go_at_call 38; refine (HL.out _).mono ?_; rintro e w4 ⟨rfl, q, rfl⟩; have r3 := (HP3.out q).2) | (go_at_call 33; refine (HA.out _ (HP3.out q).1).mono ?_; rintro e w5 ⟨rfl, hb5⟩))
  have HB5 : Hid (Below w.heap.size w w5 ∧ BoxN w5 w.heap.size [.int .i64 v.kind, .int .i64 v.num, .string v.text, .slice a ln c] 31) := ⟨below_tr (HP3.out q).1 hb5, (HB3.out.2.below (below_dr (Below.refl _ _) q)).below hb5⟩
  have HS5 := Lib.hid (HH.out.below HB0.out HB5.out.1)
  clear hb5 r3 q2 HP3 HB3 HA HL hsh hnb htl han hll
  have HFR : Hid (role w.heap.size = .free) := HH.out.hi.free (Nat.le_refl _)
  have HV5 : Hid (StrsV w5 (fun b => (role b = .free ∨ role b = .content) ∧ b < w.heap.size) v.list (.slice a ln c)) := HV.out.inn.keep (fun b hb => ⟨hSv b hb.1, hb.2⟩) (fun b hb hl => HB5.out.1.block b hl)
  have p0 := HB5.out.2.cell (j := 0) rfl
  have b0 := HS5.out.box.cell (j := 0) rfl
  obtain ⟨ka, kc, hvk⟩ := HS5.out.keys_slice
  subst hvk
  obtain ⟨M, hM⟩ : ∃ M, st.keys.length = M := ⟨_, rfl⟩
  cases hk : st.kind key with
  | some k =>
    rw [hk] at hkd hkb HE5
    have hkd' : kd = k := hkd.out.symm
    have hkb' : kb = true := hkb.out.symm
    subst hkd' hkb'
    by_cases hkk : kd = v.kind
    · have hfun : (fun k => if k = key then some v.kind else st.kind k) = st.kind := funext fun k => by
        by_cases e : k = key
        · rw [if_pos e, e, hk, hkk]
        · rw [if_neg e]
      have HST6 : Hid (setSt st id key v = { st with val := fun i k => if i = id ∧ k = key then some v else st.val i k } ∧ st.val = st.val) := by
        unfold setSt
        rw [hfun, if_neg (by rw [hk]; simp)]
        exact ⟨rfl, rfl⟩
      have he : E = 0 := by rw [HE5.out]; exact if_pos hkk
      subst he
      have hkk1 : (kd != v.kind) = false := by simp [hkk]
      replace hkk := Lib.hid hkk
      go_upto_region 18 with fail
      clear hfun hkk1 b0 p0 HNO HE5
      have HS6 : Hid (StoreIn w5 B role S K V L (.slice ka st.keys.length kc) vd ib sl (n + 1) st) := HS5.out.mono (by omega)
      have HM6 : Hid (Step (fun r => r ≠ .free ∧ r ≠ .content) role w role w5) := (Step.of_below HH.out.hi HB5.out.1).mono fun _ h => h.elim
      have HX6 : Hid (BoxN w5 w.heap.size [.int .i64 v.kind, .int .i64 v.num, .string v.text, .slice a ln c] 31 ∧ role w.heap.size = .free) := ⟨HB5.out.2, HFR.out⟩
      clear HS5 HB5 HV5 hkd hkb
      generalize (Value.slice ka st.keys.length kc) = vk6 at HS6
      obtain ⟨w6, rfl⟩ : ∃ x : World, x = w5 := ⟨_, rfl⟩
      obtain ⟨role6, erl⟩ : ∃ r, role = r := ⟨_, rfl⟩
      rw [show (StoreIn w6 B role S K V L vk6 vd ib sl (n + 1) st) = (StoreIn w6 B role6 S K V L vk6 vd ib sl (n + 1) st) by rw [erl]] at HS6
      rw [show (Step (fun r => r ≠ .free ∧ r ≠ .content) role w role w6) = (Step (fun r => r ≠ .free ∧ r ≠ .content) role w role6 w6) by rw [← erl]] at HM6
      rw [show (role w.heap.size = .free) = (role6 w.heap.size = .free) by rw [erl]] at HX6
      clear erl
      obtain ⟨st6, est⟩ : ∃ st6, st = st6 := ⟨_, rfl⟩
      rw [show (StoreIn w6 B role6 S K V L vk6 vd ib sl (n + 1) st) = (StoreIn w6 B role6 S K V L vk6 vd ib sl (n + 1) st6) by rw [est]] at HS6
      have HST6' : Hid (setSt st id key v = { st6 with val := fun i k => if i = id ∧ k = key then some v else st.val i k } ∧ st6.val = st.val) := by rw [← est]; exact HST6.out
      clear est HST6
      have HST6 := HST6'
      clear HST6'
      have HB6 : Hid (B ≤ w6.heap.size) := Nat.le_trans HB0.out HM6.out.size
      have b2 := HS6.out.box.cell (j := 2) rfl
      cases hib : ib id with
      | none =>
        have hlv : (Instr.lookup 58 (.map (some V)) (.int .i64 id) false).run Tryz.prog w6 = .ok (.map none) w6 := by
          rw [HS6.out.values.run_look keyed3 Tryz.underlying58 (Tryz.zeroValue66 w6) (key3 (keyWf (by omega) (by omega)))]
          show Result.ok (((ib id).map fun (b : Nat) => Value.map (some b)).getD (.map none)) w6 = _
          rw [hib]
          rfl
        have hmm := @run_makeMap Tryz.prog
        have hmn := mapNil_t
        obtain ⟨w7, hrun7, hm7, hg7, hz7⟩ := (HS6.out.values.block (w' := w6.alloc (.map #[] 0)) ((below1 w6 (.map #[] 0)).block V HS6.out.values.lt)).run_store (key := .int .i64 id) (val := .map (some w6.heap.size)) keyed3 Tryz.underlying58 (by omega) (key3 (keyWf (by omega) (by omega))) (fun u => if u = .int .i64 id then some (.map (some w6.heap.size)) else valuesF ib u) (if_pos rfl) (fun u hu => if_neg hu)
        clear hz7
        obtain ⟨role7, hs7, hS7⟩ := HS6.out.inner_step hib HB6.out (if_pos rfl) (fun u hu => if_neg hu) hm7 hg7
        have HS7 := Lib.hid hS7
        have HM7 : Hid (Step (fun r => r ≠ .free ∧ r ≠ .content) role w role7 w7) := (HM6.out.trans hs7).mono fun r h => h.elim (fun h => h) (fun h => h)
        have HX7 : Hid (BoxN w7 w.heap.size [.int .i64 v.kind, .int .i64 v.num, .string v.text, .slice a ln c] 31 ∧ role7 w.heap.size = .free) := by
          obtain ⟨h1, h2⟩ := hs7.same w.heap.size HX6.out.1.lt (by rw [HX6.out.2]; simp)
          exact ⟨HX6.out.1.to h1, h2.trans HX6.out.2⟩
        have hib7 : Hid ((fun i => if i = id then some w6.heap.size else ib i) id = some w6.heap.size) := if_pos rfl
        go_upto_region 20 with fail
        clear hmn hlv hmm hrun7 hm7 hg7 hs7 hS7 HS6 HM6 HX6 b2 hib
        generalize (fun i => if i = id then some w6.heap.size else ib i) = ib7 at HS7 hib7
        obtain ⟨b7, hb7⟩ : ∃ b7, w6.heap.size = b7 := ⟨_, rfl⟩
        rw [hb7] at hib7
        replace hb7 := Lib.hid hb7
        have HV7 : Hid (StrsV w7 (fun _ => True) v.list (.slice a ln c)) := HV.out.inn.keep (fun _ _ => trivial) (fun b hb _ => (HM7.out.same b hb.2 (fun hT => (hSv b hb.1).elim hT.1 hT.2)).1)
        have HC := Lib.hid (cloneS_c v.list a ln c (fun _ => True) w7 HV7.out)
        have x3 := HX7.out.1.cell (j := 3) rfl
        go_upto_region 21 with (go_at_call 30; refine HC.out.mono ?_; rintro e w8 ⟨⟨a8, c8, rfl, hv8⟩, hb8⟩; have x4 := (HX7.out.1.below hb8).cell (j := 3) rfl; have y4 := (HX7.out.1.below hb8).frozen 3)
        obtain ⟨w9, e9⟩ : ∃ w9, w8.setCell ⟨w.heap.size, 3, none⟩ (.slice a8 ln c8) = w9 := ⟨_, rfl⟩
        obtain ⟨w7b, e7b⟩ : ∃ w7b, w7.setCell ⟨w.heap.size, 3, none⟩ (.slice a8 ln c8) = w7b := ⟨_, rfl⟩
        have hlt7 : w.heap.size < w7.heap.size := HX7.out.1.lt
        have HB9 : Hid (Below w7b.heap.size w7b w9 ∧ w7b.heap.size = w7.heap.size) := by
          rw [← e9, ← e7b, set_size]
          exact ⟨below_set2 hb8 hlt7 3 _, rfl⟩
        have HX9 : Hid (BoxN w9 w.heap.size [.int .i64 v.kind, .int .i64 v.num, .string v.text, .slice a8 ln c8] 31) := by
          rw [← e9]
          exact (HX7.out.1.below hb8).set 3 _
        have HV9 : Hid (StrsV w9 (fun b => w7b.heap.size ≤ b) v.list (.slice a8 ln c8)) := by
          rw [HB9.out.2, ← e9]
          exact hv8.keep (fun _ h => h) (fun b hb _ => set_other _ (by omega))
        have HS7b : Hid (StoreIn w7b B role7 S K V L vk6 vd ib7 sl (n + 2) st6) := by
          rw [← e7b]
          exact HS7.out.set_free HX7.out.2 3 _
        have HM7b : Hid (Step (fun r => r ≠ .free ∧ r ≠ .content) role w role7 w7b) := by
          rw [← e7b]
          exact HM7.out.set (Nat.le_refl _) 3 _
        rw [e9]
        clear x3 x4 y4 hv8 hb8 e9 e7b HX7 HS7 HM7 HV7 HC
        refine wp_quiet_tail 8 (by kernel_rfl) (by kernel_rfl) ?_
        intro wd hwd
        have HBd : Hid (Below w7b.heap.size w7b wd ∧ wd.heap = w9.heap) := by
          rw [hwd.out]
          exact ⟨below_dr1 HB9.out.1, rfl⟩
        have HSd := Lib.hid (HS7b.out.below (by have := HM7b.out.size; have := HB0.out; omega) HBd.out.1)
        have bb2 := HSd.out.box.cell (j := 2) rfl
        have hlv2 : (Instr.lookup 58 (.map (some V)) (.int .i64 id) false).run Tryz.prog wd = .ok (.map (some b7)) wd := by
          rw [HSd.out.values.run_look keyed3 Tryz.underlying58 (Tryz.zeroValue66 wd) (key3 (keyWf (by omega) (by omega)))]
          show Result.ok (((ib7 id).map fun (b : Nat) => Value.map (some b)).getD (.map none)) wd = _
          rw [hib7.out]
          rfl
        have HXd : Hid (BoxN wd w.heap.size [.int .i64 v.kind, .int .i64 v.num, .string v.text, .slice a8 ln c8] 31) := HX9.out.to (by rw [HBd.out.2])
        have x0 := HXd.out.cell (j := 0) rfl
        have x1 := HXd.out.cell (j := 1) rfl
        have x2 := HXd.out.cell (j := 2) rfl
        have x3 := HXd.out.cell (j := 3) rfl
        obtain ⟨w10, hrun10, hm10, hg10, hz10⟩ := (HSd.out.inner id b7 hib7.out).run_store (key := .string key) (val := .agg #[.int .i64 v.kind, .int .i64 v.num, .string v.text, .slice a8 ln c8]) keyed9 Tryz.underlying66 (by omega) (key9 hkey) (fun u => if u = .string key then some (.agg #[.int .i64 v.kind, .int .i64 v.num, .string v.text, .slice a8 ln c8]) else innerF (st6.val id) (sl id) u) (if_pos rfl) (fun u hu => if_neg hu)
        clear hz10
        have HFIN : Hid (Q (.returned (.int .i64 0)) w10) := by
          obtain ⟨role10, hmv, hst10⟩ := HS7b.out.val_step (by have := HM7b.out.size; have := HB0.out; omega) HBd.out.1 (HV9.out.keep (fun _ h => h) (fun b _ _ => by rw [HBd.out.2])) hib7.out (if_pos rfl) (fun u hu => if_neg hu) hm10 hg10
          refine HYES.out (by trivial) w10 role10 vk6 ib7 (fun i k => if i = id ∧ k = key then .slice a8 ln c8 else sl i k) (((HM7b.out.mono fun r h => h.1).trans hmv).mono fun r h => h.elim (fun h => h) (fun h => h)) ?_
          rw [HST6.out.1, ← HST6.out.2]
          exact hst10
        simp only [List.take_succ_cons, List.take_zero, List.drop_succ_cons, List.drop_zero]
        repeat (go_big_quiet_step (fail))
        refine wpQuiet_nil ?_
        clear bb2 hlv2 x0 x1 x2 x3 hm10 hg10 HXd HSd HBd hwd HS7b HM7b HV9 HX9 HB9
        go_wp2_with fail
        exact HFIN.out
      | some b7 =>
        have hmn := mapNil_f b7
        have hlv : (Instr.lookup 58 (.map (some V)) (.int .i64 id) false).run Tryz.prog w6 = .ok (.map (some b7)) w6 := by
          rw [HS6.out.values.run_look keyed3 Tryz.underlying58 (Tryz.zeroValue66 w6) (key3 (keyWf (by omega) (by omega)))]
          show Result.ok (((ib id).map fun (b : Nat) => Value.map (some b)).getD (.map none)) w6 = _
          rw [hib]
          rfl
        go_upto_region 20 with fail
        have HS7 := Lib.hid (HS6.out.mono (Nat.le_succ (n + 1)))
        have hib7 := Lib.hid hib
        have HM7 := HM6
        have HX7 := HX6
        clear hmn hlv b2 hib HS6 HM6 HX6
        obtain ⟨w7, rfl⟩ : ∃ x : World, x = w6 := ⟨_, rfl⟩
        obtain ⟨ib7, eib⟩ : ∃ ib7, ib = ib7 := ⟨_, rfl⟩
        rw [eib] at HS7 hib7
        obtain ⟨role7, erl⟩ : ∃ r, role6 = r := ⟨_, rfl⟩
        rw [erl] at HS7 HM7 HX7
        clear eib erl
        have HV7 : Hid (StrsV w7 (fun _ => True) v.list (.slice a ln c)) := HV.out.inn.keep (fun _ _ => trivial) (fun b hb _ => (HM7.out.same b hb.2 (fun hT => (hSv b hb.1).elim hT.1 hT.2)).1)
        have HC := Lib.hid (cloneS_c v.list a ln c (fun _ => True) w7 HV7.out)
        have x3 := HX7.out.1.cell (j := 3) rfl
        go_upto_region 21 with (go_at_call 30; refine HC.out.mono ?_; rintro e w8 ⟨⟨a8, c8, rfl, hv8⟩, hb8⟩; have x4 := (HX7.out.1.below hb8).cell (j := 3) rfl; have y4 := (HX7.out.1.below hb8).frozen 3)
        obtain ⟨w9, e9⟩ : ∃ w9, w8.setCell ⟨w.heap.size, 3, none⟩ (.slice a8 ln c8) = w9 := ⟨_, rfl⟩
        obtain ⟨w7b, e7b⟩ : ∃ w7b, w7.setCell ⟨w.heap.size, 3, none⟩ (.slice a8 ln c8) = w7b := ⟨_, rfl⟩
        have hlt7 : w.heap.size < w7.heap.size := HX7.out.1.lt
        have HB9 : Hid (Below w7b.heap.size w7b w9 ∧ w7b.heap.size = w7.heap.size) := by
          rw [← e9, ← e7b, set_size]
          exact ⟨below_set2 hb8 hlt7 3 _, rfl⟩
        have HX9 : Hid (BoxN w9 w.heap.size [.int .i64 v.kind, .int .i64 v.num, .string v.text, .slice a8 ln c8] 31) := by
          rw [← e9]
          exact (HX7.out.1.below hb8).set 3 _
        have HV9 : Hid (StrsV w9 (fun b => w7b.heap.size ≤ b) v.list (.slice a8 ln c8)) := by
          rw [HB9.out.2, ← e9]
          exact hv8.keep (fun _ h => h) (fun b hb _ => set_other _ (by omega))
        have HS7b : Hid (StoreIn w7b B role7 S K V L vk6 vd ib7 sl (n + 2) st6) := by
          rw [← e7b]
          exact HS7.out.set_free HX7.out.2 3 _
        have HM7b : Hid (Step (fun r => r ≠ .free ∧ r ≠ .content) role w role7 w7b) := by
          rw [← e7b]
          exact HM7.out.set (Nat.le_refl _) 3 _
        rw [e9]
        clear x3 x4 y4 hv8 hb8 e9 e7b HX7 HS7 HM7 HV7 HC
        refine wp_quiet_tail 8 (by kernel_rfl) (by kernel_rfl) ?_
        intro wd hwd
        have HBd : Hid (Below w7b.heap.size w7b wd ∧ wd.heap = w9.heap) := by
          rw [hwd.out]
          exact ⟨below_dr1 HB9.out.1, rfl⟩
        have HSd := Lib.hid (HS7b.out.below (by have := HM7b.out.size; have := HB0.out; omega) HBd.out.1)
        have bb2 := HSd.out.box.cell (j := 2) rfl
        have hlv2 : (Instr.lookup 58 (.map (some V)) (.int .i64 id) false).run Tryz.prog wd = .ok (.map (some b7)) wd := by
          rw [HSd.out.values.run_look keyed3 Tryz.underlying58 (Tryz.zeroValue66 wd) (key3 (keyWf (by omega) (by omega)))]
          show Result.ok (((ib7 id).map fun (b : Nat) => Value.map (some b)).getD (.map none)) wd = _
          rw [hib7.out]
          rfl
        have HXd : Hid (BoxN wd w.heap.size [.int .i64 v.kind, .int .i64 v.num, .string v.text, .slice a8 ln c8] 31) := HX9.out.to (by rw [HBd.out.2])
        have x0 := HXd.out.cell (j := 0) rfl
        have x1 := HXd.out.cell (j := 1) rfl
        have x2 := HXd.out.cell (j := 2) rfl
        have x3 := HXd.out.cell (j := 3) rfl
        obtain ⟨w10, hrun10, hm10, hg10, hz10⟩ := (HSd.out.inner id b7 hib7.out).run_store (key := .string key) (val := .agg #[.int .i64 v.kind, .int .i64 v.num, .string v.text, .slice a8 ln c8]) keyed9 Tryz.underlying66 (by omega) (key9 hkey) (fun u => if u = .string key then some (.agg #[.int .i64 v.kind, .int .i64 v.num, .string v.text, .slice a8 ln c8]) else innerF (st6.val id) (sl id) u) (if_pos rfl) (fun u hu => if_neg hu)
        clear hz10
        have HFIN : Hid (Q (.returned (.int .i64 0)) w10) := by
          obtain ⟨role10, hmv, hst10⟩ := HS7b.out.val_step (by have := HM7b.out.size; have := HB0.out; omega) HBd.out.1 (HV9.out.keep (fun _ h => h) (fun b _ _ => by rw [HBd.out.2])) hib7.out (if_pos rfl) (fun u hu => if_neg hu) hm10 hg10
          refine HYES.out (by trivial) w10 role10 vk6 ib7 (fun i k => if i = id ∧ k = key then .slice a8 ln c8 else sl i k) (((HM7b.out.mono fun r h => h.1).trans hmv).mono fun r h => h.elim (fun h => h) (fun h => h)) ?_
          rw [HST6.out.1, ← HST6.out.2]
          exact hst10
        simp only [List.take_succ_cons, List.take_zero, List.drop_succ_cons, List.drop_zero]
        repeat (go_big_quiet_step (fail))
        refine wpQuiet_nil ?_
        clear bb2 hlv2 x0 x1 x2 x3 hm10 hg10 HXd HSd HBd hwd HS7b HM7b HV9 HX9 HB9
        go_wp2_with fail
        exact HFIN.out
    · have hkk1 : (kd != v.kind) = true := by simpa using hkk
      have he : E = 81 := by rw [HE5.out]; exact if_neg hkk
      subst he
      have HNO1 := Lib.hid (HNO.out 81 rfl (by decide) _ HB5.out.1)
      clear HNO HYES HE5
      replace hkk := Lib.hid hkk
      go_wp2_with fail
      exact HNO1.out
  | none =>
    rw [hk] at hkd hkb HE5
    have hkd' : kd = 0 := hkd.out.symm
    have hkb' : kb = false := hkb.out.symm
    subst hkd' hkb'
    rw [hM] at b0
    by_cases hM64 : 64 ≤ M
    · have hM1 : 64 ≤ (M : Int) := by omega
      have he : E = 83 := by rw [HE5.out]; exact if_pos (by rw [hM]; exact hM64)
      subst he
      have HNO1 := Lib.hid (HNO.out 83 rfl (by decide) _ HB5.out.1)
      clear HNO HYES HE5
      replace hM := Lib.hid hM
      go_wp2_with fail
      exact HNO1.out
    · have hM1 : ¬ 64 ≤ (M : Int) := by omega
      have he : E = 0 := by rw [HE5.out]; exact if_neg (by rw [hM]; exact hM64)
      subst he
      have HST6 : Hid (setSt st id key v = { ({ st with keys := st.keys ++ [key], kind := fun k => if k = key then some v.kind else st.kind k } : StT) with val := fun i k => if i = id ∧ k = key then some v else st.val i k } ∧ ({ st with keys := st.keys ++ [key], kind := fun k => if k = key then some v.kind else st.kind k } : StT).val = st.val) := by
        unfold setSt
        rw [if_pos hk]
        exact ⟨rfl, rfl⟩
      obtain ⟨i9, hi9, hz90, hz91, hz92⟩ := info_parts info9
      obtain ⟨W0, hW0⟩ : ∃ W0, w5.alloc (.cells #[.string key] 9) = W0 := ⟨_, rfl⟩
      have HW0 : Hid (Below w5.heap.size w5 W0 ∧ BoxN W0 w5.heap.size [.string key] 9 ∧ W0.heap.size = w5.heap.size + 1) := by
        rw [← hW0]
        exact ⟨below1 _ _, boxN_alloc _ _ _, by simp⟩
      have HB5' : Hid (B ≤ w5.heap.size) := Nat.le_trans HB0.out HB5.out.1.size
      have HS0 := Lib.hid (HS5.out.below HB5'.out HW0.out.1)
      have b0' : W0.cell? ⟨S, 0, none⟩ = some (.slice ka M kc) := by
        have := HS0.out.box.cell (j := 0) rfl
        rw [hM] at this
        exact this
      have HROW : Hid (W0.ownsRow B 9 1 (.slice ka M kc) M (st.keys.map .string)) := by
        have := HS0.out.keys
        rw [hM] at this
        exact this
      have HOTH : Hid (∀ W, W0.grownBy W (Value.slice ka M kc).ownBlock → BoxN W S [.slice ka M kc, .map (some K), .map (some V), vd, .map (some L)] 63 ∧ MapAt Tryz.prog 9 W K n (kindsF st) ∧ BoxN W w.heap.size [.int .i64 v.kind, .int .i64 v.num, .string v.text, .slice a ln c] 31) := fun W hg => by
        have hrk := HS0.out.rk
        rw [hM] at hrk
        have hne : ∀ R b, role b = R → R ≠ .keys → some b ≠ (Value.slice ka M kc).ownBlock := fun R b h1 h2 e => h2 (h1.symm.trans (hrk b e.symm))
        have hbx := HS0.out.box
        rw [hM] at hbx
        refine ⟨hbx.to (hg.block S (HS0.out.hi S (by rw [HS0.out.rS]; simp)) (hne _ _ HS0.out.rS (by simp))), HS0.out.kinds.block (hg.block K (HS0.out.hi K (by rw [HS0.out.rK]; simp)) (hne _ _ HS0.out.rK (by simp))), ?_⟩
        have hx := HB5.out.2.below HW0.out.1
        exact hx.to (hg.block _ hx.lt (hne _ _ HFR.out (by simp)))
      go_upto_region 17 with (at_builtin; refine wpList_append_lies _ rfl (.tmp 81) (.tmp 83) 29 rfl B 9 i9 _ 1 16 Tryz.underlying29 hi9 hz90 hz91 hz92 rfl (by decide) (.slice ka M kc) M (st.keys.map .string) rfl HROW.out ⟨w5.heap.size, 0, none⟩ 1 1 [.string key] rfl rfl (World.news_of_block (cs := #[.string key]) (t := 9) (fr := (0, 0)) HW0.out.2.1) (by intro u hu; simp at hu; subst hu; rfl) (by omega) (by unfold maxLen; omega) (by omega) (Nat.le_trans HB5'.out HW0.out.1.size) W0.heap.size rfl ?_; intro g2 cap2 w10 hown10 hgrow10 hat10 hlt10; have c10 := (HOTH.out _ hgrow10).1.cell (j := 0) rfl; have f10 := (HOTH.out _ hgrow10).1.frozen 0)
      obtain ⟨W2, hW2⟩ : ∃ W2, w10.setCell ⟨S, 0, none⟩ (.slice (some ⟨g2, 0, none⟩) (M + 1) cap2) = W2 := ⟨_, rfl⟩
      have HW2 : Hid (BoxN W2 S [.slice (some ⟨g2, 0, none⟩) (M + 1) cap2, .map (some K), .map (some V), vd, .map (some L)] 63 ∧ MapAt Tryz.prog 9 W2 K n (kindsF st) ∧ BoxN W2 w.heap.size [.int .i64 v.kind, .int .i64 v.num, .string v.text, .slice a ln c] 31) := by
        rw [← hW2]
        have hSK : S ≠ K := fun e => by have h1 := HS0.out.rS; rw [e, HS0.out.rK] at h1; cases h1
        have hSx : w.heap.size ≠ S := fun e => by have h1 := HS0.out.rS; rw [← e, HFR.out] at h1; cases h1
        exact ⟨(HOTH.out _ hgrow10).1.set 0 _, (HOTH.out _ hgrow10).2.1.block (set_other _ (Ne.symm hSK)), (HOTH.out _ hgrow10).2.2.to (set_other _ hSx)⟩
      rw [hW2]
      clear c10 f10 b0' b0
      refine wp_quiet_tail 7 (by kernel_rfl) (by kernel_rfl) ?_
      intro wd hwd
      have hdh : wd.heap = W2.heap := by rw [hwd.out]; rfl
      have b1' : wd.cell? ⟨S, 1, none⟩ = some (.map (some K)) := (cell_heap hdh _).trans (HW2.out.1.cell (j := 1) rfl)
      have p0' : wd.cell? ⟨w.heap.size, 0, none⟩ = some (.int .i64 v.kind) := (cell_heap hdh _).trans (HW2.out.2.2.cell (j := 0) rfl)
      obtain ⟨w12, hrun12, hm12, hg12, hz12⟩ := (HW2.out.2.1.block (w' := wd) (by rw [hdh])).run_store (key := .string key) (val := .int .i64 v.kind) keyed9 Tryz.underlying57 (by omega) (key9 hkey) (fun u => if u = .string key then some (.int .i64 v.kind) else kindsF st u) (if_pos rfl) (fun u hu => if_neg hu)
      have HNEW : Hid (∃ role6, Step (fun r => r ≠ .free ∧ r ≠ .content) role w role6 w12 ∧ StoreIn w12 B role6 S K V L (.slice (some ⟨g2, 0, none⟩) (M + 1) cap2) vd ib sl (n + 1) { st with keys := st.keys ++ [key], kind := fun k => if k = key then some v.kind else st.kind k } ∧ BoxN w12 w.heap.size [.int .i64 v.kind, .int .i64 v.num, .string v.text, .slice a ln c] 31 ∧ role6 w.heap.size = .free) := by
        have hg12' : W2.grownBy w12 (some K) := by
          rw [hwd.out] at hg12
          exact ⟨hg12.os, hg12.tape, hg12.output, hg12.size, hg12.block⟩
        rw [← hW2] at hg12'
        have h1 := HS0.out
        rw [← hM] at hown10 hg12' ⊢
        rw [← hM] at hgrow10 hat10
        obtain ⟨role6, hs6, hS6⟩ := h1.kind_step (key := key) (kd := v.kind) (Nat.le_trans HB5'.out HW0.out.1.size) hown10 hgrow10 (hat10.imp (fun h => h) fun h => Nat.le_of_eq h.symm) hlt10 (if_pos rfl) (fun u hu => if_neg hu) hm12 hg12'
        have hx0 := HB5.out.2.below HW0.out.1
        obtain ⟨x1, x2⟩ := hs6.same w.heap.size hx0.lt (by rw [HFR.out]; simp)
        exact ⟨role6, ((((Step.of_below HH.out.hi (below_tr HB5.out.1 HW0.out.1)).mono fun _ h => h.elim : Step (fun r => r ≠ .free ∧ r ≠ .content) role w role W0)).trans hs6).mono fun r h => h.elim (fun h => h) (fun h => h), hS6, hx0.to x1, x2.trans HFR.out⟩
      simp only [List.take_succ_cons, List.take_zero, List.drop_succ_cons, List.drop_zero]
      repeat (go_big_quiet_step (fail))
      refine wpQuiet_nil ?_
      go_upto_region 18 with fail
      clear hz12 hrun12 b1' p0' hdh hwd hm12 hg12 hown10 hgrow10 hat10 hlt10 HW2 HOTH HROW HS0 HW0 hW0 hW2 HS5 HB5 HV5 p0 HNO HE5 hkd hkb hi9 hz90 hz91 hz92
      obtain ⟨role6, HM6, HS6, HX6⟩ := HNEW.out
      replace HM6 := Lib.hid HM6
      replace HS6 := Lib.hid HS6
      replace HX6 := Lib.hid HX6
      clear HNEW
      generalize (Value.slice (some ⟨g2, 0, none⟩) (M + 1) cap2) = vk6 at HS6
      generalize ({ st with keys := st.keys ++ [key], kind := fun k => if k = key then some v.kind else st.kind k } : StT) = st6 at HS6 HST6
      obtain ⟨w6, rfl⟩ : ∃ x : World, x = w12 := ⟨_, rfl⟩
      have HB6 : Hid (B ≤ w6.heap.size) := Nat.le_trans HB0.out HM6.out.size
      have b2 := HS6.out.box.cell (j := 2) rfl
      cases hib : ib id with
      | none =>
        have hlv : (Instr.lookup 58 (.map (some V)) (.int .i64 id) false).run Tryz.prog w6 = .ok (.map none) w6 := by
          rw [HS6.out.values.run_look keyed3 Tryz.underlying58 (Tryz.zeroValue66 w6) (key3 (keyWf (by omega) (by omega)))]
          show Result.ok (((ib id).map fun (b : Nat) => Value.map (some b)).getD (.map none)) w6 = _
          rw [hib]
          rfl
        have hmm := @run_makeMap Tryz.prog
        have hmn := mapNil_t
        obtain ⟨w7, hrun7, hm7, hg7, hz7⟩ := (HS6.out.values.block (w' := w6.alloc (.map #[] 0)) ((below1 w6 (.map #[] 0)).block V HS6.out.values.lt)).run_store (key := .int .i64 id) (val := .map (some w6.heap.size)) keyed3 Tryz.underlying58 (by omega) (key3 (keyWf (by omega) (by omega))) (fun u => if u = .int .i64 id then some (.map (some w6.heap.size)) else valuesF ib u) (if_pos rfl) (fun u hu => if_neg hu)
        clear hz7
        obtain ⟨role7, hs7, hS7⟩ := HS6.out.inner_step hib HB6.out (if_pos rfl) (fun u hu => if_neg hu) hm7 hg7
        have HS7 := Lib.hid hS7
        have HM7 : Hid (Step (fun r => r ≠ .free ∧ r ≠ .content) role w role7 w7) := (HM6.out.trans hs7).mono fun r h => h.elim (fun h => h) (fun h => h)
        have HX7 : Hid (BoxN w7 w.heap.size [.int .i64 v.kind, .int .i64 v.num, .string v.text, .slice a ln c] 31 ∧ role7 w.heap.size = .free) := by
          obtain ⟨h1, h2⟩ := hs7.same w.heap.size HX6.out.1.lt (by rw [HX6.out.2]; simp)
          exact ⟨HX6.out.1.to h1, h2.trans HX6.out.2⟩
        have hib7 : Hid ((fun i => if i = id then some w6.heap.size else ib i) id = some w6.heap.size) := if_pos rfl
        go_upto_region 20 with fail
        clear hmn hlv hmm hrun7 hm7 hg7 hs7 hS7 HS6 HM6 HX6 b2 hib
        generalize (fun i => if i = id then some w6.heap.size else ib i) = ib7 at HS7 hib7
        obtain ⟨b7, hb7⟩ : ∃ b7, w6.heap.size = b7 := ⟨_, rfl⟩
        rw [hb7] at hib7
        replace hb7 := Lib.hid hb7
        have HV7 : Hid (StrsV w7 (fun _ => True) v.list (.slice a ln c)) := HV.out.inn.keep (fun _ _ => trivial) (fun b hb _ => (HM7.out.same b hb.2 (fun hT => (hSv b hb.1).elim hT.1 hT.2)).1)
        have HC := Lib.hid (cloneS_c v.list a ln c (fun _ => True) w7 HV7.out)
        have x3 := HX7.out.1.cell (j := 3) rfl
        go_upto_region 21 with (go_at_call 30; refine HC.out.mono ?_; rintro e w8 ⟨⟨a8, c8, rfl, hv8⟩, hb8⟩; have x4 := (HX7.out.1.below hb8).cell (j := 3) rfl; have y4 := (HX7.out.1.below hb8).frozen 3)
        obtain ⟨w9, e9⟩ : ∃ w9, w8.setCell ⟨w.heap.size, 3, none⟩ (.slice a8 ln c8) = w9 := ⟨_, rfl⟩
        obtain ⟨w7b, e7b⟩ : ∃ w7b, w7.setCell ⟨w.heap.size, 3, none⟩ (.slice a8 ln c8) = w7b := ⟨_, rfl⟩
        have hlt7 : w.heap.size < w7.heap.size := HX7.out.1.lt
        have HB9 : Hid (Below w7b.heap.size w7b w9 ∧ w7b.heap.size = w7.heap.size) := by
          rw [← e9, ← e7b, set_size]
          exact ⟨below_set2 hb8 hlt7 3 _, rfl⟩
        have HX9 : Hid (BoxN w9 w.heap.size [.int .i64 v.kind, .int .i64 v.num, .string v.text, .slice a8 ln c8] 31) := by
          rw [← e9]
          exact (HX7.out.1.below hb8).set 3 _
        have HV9 : Hid (StrsV w9 (fun b => w7b.heap.size ≤ b) v.list (.slice a8 ln c8)) := by
          rw [HB9.out.2, ← e9]
          exact hv8.keep (fun _ h => h) (fun b hb _ => set_other _ (by omega))
        have HS7b : Hid (StoreIn w7b B role7 S K V L vk6 vd ib7 sl (n + 2) st6) := by
          rw [← e7b]
          exact HS7.out.set_free HX7.out.2 3 _
        have HM7b : Hid (Step (fun r => r ≠ .free ∧ r ≠ .content) role w role7 w7b) := by
          rw [← e7b]
          exact HM7.out.set (Nat.le_refl _) 3 _
        rw [e9]
        clear x3 x4 y4 hv8 hb8 e9 e7b HX7 HS7 HM7 HV7 HC
        refine wp_quiet_tail 8 (by kernel_rfl) (by kernel_rfl) ?_
        intro wd hwd
        have HBd : Hid (Below w7b.heap.size w7b wd ∧ wd.heap = w9.heap) := by
          rw [hwd.out]
          exact ⟨below_dr1 HB9.out.1, rfl⟩
        have HSd := Lib.hid (HS7b.out.below (by have := HM7b.out.size; have := HB0.out; omega) HBd.out.1)
        have bb2 := HSd.out.box.cell (j := 2) rfl
        have hlv2 : (Instr.lookup 58 (.map (some V)) (.int .i64 id) false).run Tryz.prog wd = .ok (.map (some b7)) wd := by
          rw [HSd.out.values.run_look keyed3 Tryz.underlying58 (Tryz.zeroValue66 wd) (key3 (keyWf (by omega) (by omega)))]
          show Result.ok (((ib7 id).map fun (b : Nat) => Value.map (some b)).getD (.map none)) wd = _
          rw [hib7.out]
          rfl
        have HXd : Hid (BoxN wd w.heap.size [.int .i64 v.kind, .int .i64 v.num, .string v.text, .slice a8 ln c8] 31) := HX9.out.to (by rw [HBd.out.2])
        have x0 := HXd.out.cell (j := 0) rfl
        have x1 := HXd.out.cell (j := 1) rfl
        have x2 := HXd.out.cell (j := 2) rfl
        have x3 := HXd.out.cell (j := 3) rfl
        obtain ⟨w10, hrun10, hm10, hg10, hz10⟩ := (HSd.out.inner id b7 hib7.out).run_store (key := .string key) (val := .agg #[.int .i64 v.kind, .int .i64 v.num, .string v.text, .slice a8 ln c8]) keyed9 Tryz.underlying66 (by omega) (key9 hkey) (fun u => if u = .string key then some (.agg #[.int .i64 v.kind, .int .i64 v.num, .string v.text, .slice a8 ln c8]) else innerF (st6.val id) (sl id) u) (if_pos rfl) (fun u hu => if_neg hu)
        clear hz10
        have HFIN : Hid (Q (.returned (.int .i64 0)) w10) := by
          obtain ⟨role10, hmv, hst10⟩ := HS7b.out.val_step (by have := HM7b.out.size; have := HB0.out; omega) HBd.out.1 (HV9.out.keep (fun _ h => h) (fun b _ _ => by rw [HBd.out.2])) hib7.out (if_pos rfl) (fun u hu => if_neg hu) hm10 hg10
          refine HYES.out (by trivial) w10 role10 vk6 ib7 (fun i k => if i = id ∧ k = key then .slice a8 ln c8 else sl i k) (((HM7b.out.mono fun r h => h.1).trans hmv).mono fun r h => h.elim (fun h => h) (fun h => h)) ?_
          rw [HST6.out.1, ← HST6.out.2]
          exact hst10
        simp only [List.take_succ_cons, List.take_zero, List.drop_succ_cons, List.drop_zero]
        repeat (go_big_quiet_step (fail))
        refine wpQuiet_nil ?_
        clear bb2 hlv2 x0 x1 x2 x3 hm10 hg10 HXd HSd HBd hwd HS7b HM7b HV9 HX9 HB9
        go_wp2_with fail
        exact HFIN.out
      | some b7 =>
        have hmn := mapNil_f b7
        have hlv : (Instr.lookup 58 (.map (some V)) (.int .i64 id) false).run Tryz.prog w6 = .ok (.map (some b7)) w6 := by
          rw [HS6.out.values.run_look keyed3 Tryz.underlying58 (Tryz.zeroValue66 w6) (key3 (keyWf (by omega) (by omega)))]
          show Result.ok (((ib id).map fun (b : Nat) => Value.map (some b)).getD (.map none)) w6 = _
          rw [hib]
          rfl
        go_upto_region 20 with fail
        have HS7 := Lib.hid (HS6.out.mono (Nat.le_succ (n + 1)))
        have hib7 := Lib.hid hib
        have HM7 := HM6
        have HX7 := HX6
        clear hmn hlv b2 hib HS6 HM6 HX6
        obtain ⟨w7, rfl⟩ : ∃ x : World, x = w6 := ⟨_, rfl⟩
        obtain ⟨ib7, eib⟩ : ∃ ib7, ib = ib7 := ⟨_, rfl⟩
        rw [eib] at HS7 hib7
        obtain ⟨role7, erl⟩ : ∃ r, role6 = r := ⟨_, rfl⟩
        rw [erl] at HS7 HM7 HX7
        clear eib erl
        have HV7 : Hid (StrsV w7 (fun _ => True) v.list (.slice a ln c)) := HV.out.inn.keep (fun _ _ => trivial) (fun b hb _ => (HM7.out.same b hb.2 (fun hT => (hSv b hb.1).elim hT.1 hT.2)).1)
        have HC := Lib.hid (cloneS_c v.list a ln c (fun _ => True) w7 HV7.out)
        have x3 := HX7.out.1.cell (j := 3) rfl
        go_upto_region 21 with (go_at_call 30; refine HC.out.mono ?_; rintro e w8 ⟨⟨a8, c8, rfl, hv8⟩, hb8⟩; have x4 := (HX7.out.1.below hb8).cell (j := 3) rfl; have y4 := (HX7.out.1.below hb8).frozen 3)
        obtain ⟨w9, e9⟩ : ∃ w9, w8.setCell ⟨w.heap.size, 3, none⟩ (.slice a8 ln c8) = w9 := ⟨_, rfl⟩
        obtain ⟨w7b, e7b⟩ : ∃ w7b, w7.setCell ⟨w.heap.size, 3, none⟩ (.slice a8 ln c8) = w7b := ⟨_, rfl⟩
        have hlt7 : w.heap.size < w7.heap.size := HX7.out.1.lt
        have HB9 : Hid (Below w7b.heap.size w7b w9 ∧ w7b.heap.size = w7.heap.size) := by
          rw [← e9, ← e7b, set_size]
          exact ⟨below_set2 hb8 hlt7 3 _, rfl⟩
        have HX9 : Hid (BoxN w9 w.heap.size [.int .i64 v.kind, .int .i64 v.num, .string v.text, .slice a8 ln c8] 31) := by
          rw [← e9]
          exact (HX7.out.1.below hb8).set 3 _
        have HV9 : Hid (StrsV w9 (fun b => w7b.heap.size ≤ b) v.list (.slice a8 ln c8)) := by
          rw [HB9.out.2, ← e9]
          exact hv8.keep (fun _ h => h) (fun b hb _ => set_other _ (by omega))
        have HS7b : Hid (StoreIn w7b B role7 S K V L vk6 vd ib7 sl (n + 2) st6) := by
          rw [← e7b]
          exact HS7.out.set_free HX7.out.2 3 _
        have HM7b : Hid (Step (fun r => r ≠ .free ∧ r ≠ .content) role w role7 w7b) := by
          rw [← e7b]
          exact HM7.out.set (Nat.le_refl _) 3 _
        rw [e9]
        clear x3 x4 y4 hv8 hb8 e9 e7b HX7 HS7 HM7 HV7 HC
        refine wp_quiet_tail 8 (by kernel_rfl) (by kernel_rfl) ?_
        intro wd hwd
        have HBd : Hid (Below w7b.heap.size w7b wd ∧ wd.heap = w9.heap) := by
          rw [hwd.out]
          exact ⟨below_dr1 HB9.out.1, rfl⟩
        have HSd := Lib.hid (HS7b.out.below (by have := HM7b.out.size; have := HB0.out; omega) HBd.out.1)
        have bb2 := HSd.out.box.cell (j := 2) rfl
        have hlv2 : (Instr.lookup 58 (.map (some V)) (.int .i64 id) false).run Tryz.prog wd = .ok (.map (some b7)) wd := by
          rw [HSd.out.values.run_look keyed3 Tryz.underlying58 (Tryz.zeroValue66 wd) (key3 (keyWf (by omega) (by omega)))]
          show Result.ok (((ib7 id).map fun (b : Nat) => Value.map (some b)).getD (.map none)) wd = _
          rw [hib7.out]
          rfl
        have HXd : Hid (BoxN wd w.heap.size [.int .i64 v.kind, .int .i64 v.num, .string v.text, .slice a8 ln c8] 31) := HX9.out.to (by rw [HBd.out.2])
        have x0 := HXd.out.cell (j := 0) rfl
        have x1 := HXd.out.cell (j := 1) rfl
        have x2 := HXd.out.cell (j := 2) rfl
        have x3 := HXd.out.cell (j := 3) rfl
        obtain ⟨w10, hrun10, hm10, hg10, hz10⟩ := (HSd.out.inner id b7 hib7.out).run_store (key := .string key) (val := .agg #[.int .i64 v.kind, .int .i64 v.num, .string v.text, .slice a8 ln c8]) keyed9 Tryz.underlying66 (by omega) (key9 hkey) (fun u => if u = .string key then some (.agg #[.int .i64 v.kind, .int .i64 v.num, .string v.text, .slice a8 ln c8]) else innerF (st6.val id) (sl id) u) (if_pos rfl) (fun u hu => if_neg hu)
        clear hz10
        have HFIN : Hid (Q (.returned (.int .i64 0)) w10) := by
          obtain ⟨role10, hmv, hst10⟩ := HS7b.out.val_step (by have := HM7b.out.size; have := HB0.out; omega) HBd.out.1 (HV9.out.keep (fun _ h => h) (fun b _ _ => by rw [HBd.out.2])) hib7.out (if_pos rfl) (fun u hu => if_neg hu) hm10 hg10
          refine HYES.out (by trivial) w10 role10 vk6 ib7 (fun i k => if i = id ∧ k = key then .slice a8 ln c8 else sl i k) (((HM7b.out.mono fun r h => h.1).trans hmv).mono fun r h => h.elim (fun h => h) (fun h => h)) ?_
          rw [HST6.out.1, ← HST6.out.2]
          exact hst10
        simp only [List.take_succ_cons, List.take_zero, List.drop_succ_cons, List.drop_zero]
        repeat (go_big_quiet_step (fail))
        refine wpQuiet_nil ?_
        clear bb2 hlv2 x0 x1 x2 x3 hm10 hg10 HXd HSd HBd hwd HS7b HM7b HV9 HX9 HB9
        go_wp2_with fail
        exact HFIN.out
end
end Go.Proofs.YtnplmembdfklcaaGreatDoor
