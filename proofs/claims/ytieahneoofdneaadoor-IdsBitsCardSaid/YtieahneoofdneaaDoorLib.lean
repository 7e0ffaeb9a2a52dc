/-
  A map that the call owns, told by a function of its keys: a helper text of this seat. It says of a block that it is a map with at most n entries whose entry at each key value v is f v (integer elements). Conditions: none beyond those typed.
-/
import Derived.Maps.OwnSet
import Derived.Maps.AppendAt
import Derived.WalkKit
import Derived.WalkSpells
import Derived.Deep.Draws
import Derived.StillTailTactics
namespace Go.Proofs.YtieahneoofdneaaDoor
set_option linter.unusedVariables false
set_option linter.unusedSimpArgs false
open Go.RowKit Go.Maps

/-- Block b of w is a map of at most n entries; at the key v (a value that reads as a key) it holds f v. -/
def MapIs (P : Program) (k e : TypeId) (w : World) (b n : Nat) (f : Value → Option Int) : Prop :=
  ∃ D : DataW Unit, w.ownsMap P k (plainElem P e) b n D ∧ ∀ v kl, keyOf P k v = some kl → has D kl = (f v).isSome ∧ ∀ x, f v = some x → D.atKey kl (.lit (.int .i64 0)) = .lit (.int .i64 x)

theorem MapIs.made (P : Program) (k e : TypeId) (w : World) : MapIs P k e (w.alloc (.map #[] 0)) w.heap.size 0 (fun _ => none) :=
  ⟨.map [], World.ownsMap_made _ _ _ _, fun v kl _ => ⟨rfl, fun x h => by cases h⟩⟩

theorem MapIs.block {P : Program} {k e : TypeId} {w w' : World} {b n : Nat} {f : Value → Option Int} (h : MapIs P k e w b n f) (hb : w'.heap[b]? = w.heap[b]?) : MapIs P k e w' b n f := by
  obtain ⟨D, ⟨es, clock, h1, h2⟩, hf⟩ := h
  exact ⟨D, ⟨es, clock, hb.trans h1, h2⟩, hf⟩

theorem MapIs.lt {P : Program} {k e : TypeId} {w : World} {b n : Nat} {f : Value → Option Int} (h : MapIs P k e w b n f) : b < w.heap.size := by
  obtain ⟨D, h1, _⟩ := h
  exact h1.lt

theorem MapIs.mono {P : Program} {k e : TypeId} {w : World} {b n n' : Nat} {f : Value → Option Int} (h : MapIs P k e w b n f) (hn : n ≤ n') : MapIs P k e w b n' f := by
  obtain ⟨D, h1, h2⟩ := h
  exact ⟨D, h1.mono hn, h2⟩

theorem MapIs.congr {P : Program} {k e : TypeId} {w : World} {b n : Nat} {f f' : Value → Option Int} (h : MapIs P k e w b n f) (hf : ∀ u, f' u = f u) : MapIs P k e w b n f' := by
  obtain rfl : f' = f := funext hf
  exact h

/-- 'v, ok := m[k]' at the operation. -/
theorem wpList_lookup_is {P : Program} (w : World) {ops : Array Oper} {rest : List Oper} {o : Oper} {a : Act} {Q : Exit → Act → World → Prop}
    (hg : o.guard = none) (m x : Operand) (t : TypeId) (hop : o.op = Op.lookup t m x true)
    (k e : TypeId) (K : Keyed P k) (ht : P.underlying t = some (.map k e)) (he : P.underlying e = some (.int .i64)) (hz : (zeroValue e).run P w = .ok (.int .i64 0) w) (b n : Nat) (f : Value → Option Int)
    (hm : a.eval m = .map (some b)) (hown : MapIs P k e w b n f) (key : Value) (kl : Lit) (hx : a.eval x = key) (hkey : keyOf P k key = some kl) (c : Int) (ok : Bool) (hc : ((f key).getD 0, (f key).isSome) = (c, ok))
    (hK : wpList P ops Q rest (a.put o.dst (.tuple #[.int .i64 c, .bool ok])) w) :
    wpList P ops Q (o :: rest) a w := by
  obtain ⟨D, h1, h2⟩ := hown
  obtain ⟨h3, h4⟩ := h2 key kl hkey
  simp only [Prod.mk.injEq] at hc
  refine wpList_lookup_own_ok_int w hg m x t hop k e .i64 K ht he hz b n D hm h1 key kl hx hkey fun c' hat _ => ?_
  have e1 : c' = c := by
    rw [← hc.1]
    cases hf : f key with
    | none =>
      rw [hf] at h3
      rw [atKey_of_not_has (by simpa using h3)] at hat
      simp at hat
      simpa using hat.symm
    | some y =>
      rw [h4 y hf] at hat
      simp at hat
      simpa using hat.symm
  rw [h3, hc.2, e1]
  exact hK

/-- 'v, ok := m[k]', its run. -/
theorem MapIs.run_look {P : Program} {k e t : TypeId} {w : World} {b n : Nat} {f : Value → Option Int} (h : MapIs P k e w b n f) (K : Keyed P k) (ht : P.underlying t = some (.map k e)) (he : P.underlying e = some (.int .i64)) (hz : (zeroValue e).run P w = .ok (.int .i64 0) w)
    {key : Value} {kl : Lit} (hkey : keyOf P k key = some kl) : (Instr.lookup t (.map (some b)) key true).run P w = .ok (.tuple #[.int .i64 ((f key).getD 0), .bool (f key).isSome]) w := by
  obtain ⟨D, h1, h2⟩ := h
  obtain ⟨h3, h4⟩ := h2 key kl hkey
  obtain ⟨v, ps, hrun, hv⟩ := h1.look_ok K ht hz (plainElem_int he (by decide)) hkey
  obtain ⟨c, rfl, hc, _⟩ := plainElem_int_inv he hv
  have hat := congrArg Prod.fst hc
  simp only at hat
  rw [hrun, h3]
  have e1 : c = (f key).getD 0 := by
    cases hf : f key with
    | none =>
      rw [hf] at h3
      rw [atKey_of_not_has (by simpa using h3)] at hat
      simp at hat
      simpa using hat.symm
    | some y =>
      rw [h4 y hf] at hat
      simp at hat
      simpa using hat.symm
  rw [e1]

theorem wpList_mapUpdate_or {P : Program} (w : World) {ops : Array Oper} {rest : List Oper} {o : Oper} {a : Act} {Q : Exit → Act → World → Prop}
    (hg : o.guard = none) (m x v : Operand) (t : TypeId) (hop : o.op = Op.mapUpdate t m x v ∨ o.op = Op.insert t m x v)
    (k e : TypeId) (K : Keyed P k) (ht : P.underlying t = some (.map k e)) (he : P.underlying e = some (.int .i64)) (b n : Nat) (f : Value → Option Int)
    (hm : a.eval m = .map (some b)) (hown : MapIs P k e w b n f) (hn : n < maxLen) (key : Value) (val : Int) (kl : Lit) (hx : a.eval x = key) (hv : a.eval v = .int .i64 val) (hwf : (Lit.int .i64 val).wf = true) (hkey : keyOf P k key = some kl)
    (f' : Value → Option Int) (hf1 : f' key = some val) (hf2 : ∀ u, u ≠ key → f' u = f u)
    (hK : ∀ w', MapIs P k e w' b (n + 1) f' → w.grownBy w' (some b) → w'.heap.size = w.heap.size → wpList P ops Q rest (a.put o.dst undef) w') :
    wpList P ops Q (o :: rest) a w := by
  obtain ⟨D, h1, h2⟩ := hown
  refine wpList_plain hg fun K' hK' => ?_
  obtain ⟨w', hrun, r1, r2⟩ := h1.store K ht hn hkey (plainElem_int he hwf)
  have key1 : MapIs P k e w' b (n + 1) f' := by
    refine ⟨_, r1, fun u ul hul => ?_⟩
    by_cases hu : u = key
    · subst hu
      have : ul = kl := by rw [hkey] at hul; exact (Option.some.inj hul).symm
      subst this
      refine ⟨?_, fun y hy => ?_⟩
      · rw [has_put_same h1.isMap (K.key hkey), hf1]; rfl
      · rw [hf1] at hy
        cases hy
        exact atKey_put_same h1.isMap (K.key hkey) _ _
    · have hne : ul ≠ kl := fun h => hu (K.inj (h ▸ hul) hkey)
      rw [has_put_other hne, atKey_put_other hne, hf2 u hu]
      exact h2 u ul hul
  have key2 : w'.heap.size = w.heap.size := by
    obtain ⟨es, clock, es', clock', hb, rfl⟩ := r2
    simp [Go.ChangeMaps.setBlock]
  have key3 := hK w' key1 r2.grown key2
  unfold Oper.wp
  rcases hop with hop | hop <;> simp [execOp, hop, hm, hx, hv, hrun, Result.andThen] <;> exact hK' _ _ key3

theorem wpList_mapUpdate_is {P : Program} (w : World) {ops : Array Oper} {rest : List Oper} {o : Oper} {a : Act} {Q : Exit → Act → World → Prop}
    (hg : o.guard = none) (m x v : Operand) (t : TypeId) (hop : o.op = Op.mapUpdate t m x v)
    (k e : TypeId) (K : Keyed P k) (ht : P.underlying t = some (.map k e)) (he : P.underlying e = some (.int .i64)) (b n : Nat) (f : Value → Option Int)
    (hm : a.eval m = .map (some b)) (hown : MapIs P k e w b n f) (hn : n < maxLen) (key : Value) (val : Int) (kl : Lit) (hx : a.eval x = key) (hv : a.eval v = .int .i64 val) (hwf : (Lit.int .i64 val).wf = true) (hkey : keyOf P k key = some kl)
    (f' : Value → Option Int) (hf1 : f' key = some val) (hf2 : ∀ u, u ≠ key → f' u = f u)
    (hK : ∀ w', MapIs P k e w' b (n + 1) f' → w.grownBy w' (some b) → w'.heap.size = w.heap.size → wpList P ops Q rest (a.put o.dst undef) w') :
    wpList P ops Q (o :: rest) a w :=
  wpList_mapUpdate_or w hg m x v t (.inl hop) k e K ht he b n f hm hown hn key val kl hx hv hwf hkey f' hf1 hf2 hK

theorem wpList_insert_is {P : Program} (w : World) {ops : Array Oper} {rest : List Oper} {o : Oper} {a : Act} {Q : Exit → Act → World → Prop}
    (hg : o.guard = none) (m x v : Operand) (t : TypeId) (hop : o.op = Op.insert t m x v)
    (k e : TypeId) (K : Keyed P k) (ht : P.underlying t = some (.map k e)) (he : P.underlying e = some (.int .i64)) (b n : Nat) (f : Value → Option Int)
    (hm : a.eval m = .map (some b)) (hown : MapIs P k e w b n f) (hn : n < maxLen) (key : Value) (val : Int) (kl : Lit) (hx : a.eval x = key) (hv : a.eval v = .int .i64 val) (hwf : (Lit.int .i64 val).wf = true) (hkey : keyOf P k key = some kl)
    (f' : Value → Option Int) (hf1 : f' key = some val) (hf2 : ∀ u, u ≠ key → f' u = f u)
    (hK : ∀ w', MapIs P k e w' b (n + 1) f' → w.grownBy w' (some b) → w'.heap.size = w.heap.size → wpList P ops Q rest (a.put o.dst undef) w') :
    wpList P ops Q (o :: rest) a w :=
  wpList_mapUpdate_or w hg m x v t (.inr hop) k e K ht he b n f hm hown hn key val kl hx hv hwf hkey f' hf1 hf2 hK

/-! ### which blocks have turned -/
/-- From w to w' only blocks in S have turned, and new ones have come. -/
structure Chg (S : Nat → Prop) (w w' : World) : Prop where
  os : w'.os = w.os
  tape : w'.tape = w.tape
  output : w'.output = w.output
  size : w.heap.size ≤ w'.heap.size
  block : ∀ k, k < w.heap.size → ¬ S k → w'.heap[k]? = w.heap[k]?

theorem Chg.refl (S : Nat → Prop) (w : World) : Chg S w w := ⟨rfl, rfl, rfl, Nat.le_refl _, fun _ _ _ => rfl⟩
theorem Chg.trans {S S' : Nat → Prop} {a b c : World} (h : Chg S a b) (k : Chg S' b c) (hs : ∀ i, i < a.heap.size → S' i → S i) : Chg S a c :=
  ⟨k.os.trans h.os, k.tape.trans h.tape, k.output.trans h.output, Nat.le_trans h.size k.size, fun i hi hn => (k.block i (Nat.lt_of_lt_of_le hi h.size) (fun h' => hn (hs i hi h'))).trans (h.block i hi hn)⟩
theorem Chg.mono {S S' : Nat → Prop} {a b : World} (h : Chg S a b) (hs : ∀ i, i < a.heap.size → S i → S' i) : Chg S' a b :=
  ⟨h.os, h.tape, h.output, h.size, fun i hi hn => h.block i hi (fun h' => hn (hs i hi h'))⟩
theorem Chg.drew {S : Nat → Prop} {a b : World} (h : Chg S a b) : Chg S a b.drew := ⟨h.os, h.tape, h.output, h.size, h.block⟩
theorem Chg.drewN {S : Nat → Prop} {a b : World} (h : Chg S a b) (n : Nat) : Chg S a (b.drewN n) := ⟨h.os, h.tape, h.output, h.size, h.block⟩
theorem Chg.alloc {S : Nat → Prop} {a b : World} (h : Chg S a b) (o : Obj) : Chg S a (b.alloc o) :=
  h.trans (S' := fun _ => False) ⟨rfl, rfl, rfl, by simp, fun k hk _ => Below.heap_alloc _ _ _ hk⟩ (fun _ _ h => h.elim)
theorem Chg.setCell {S : Nat → Prop} {a b : World} (h : Chg S a b) (p : Addr) (hp : p.block < a.heap.size → S p.block) (u : Value) : Chg S a (b.setCell p u) :=
  h.trans (S' := fun k => k = p.block) ⟨rfl, rfl, rfl, by simp [World.setCell], fun k _ hk => Below.heap_setCell _ _ _ _ hk⟩ (fun i hi e => by subst e; exact hp hi)
theorem Chg.grown {S : Nat → Prop} {a b c : World} {row : Option Nat} (h : Chg S a b) (hg : b.grownBy c row) (hr : ∀ k, row = some k → k < a.heap.size → S k) : Chg S a c :=
  h.trans (S' := fun k => some k = row) ⟨hg.os, hg.tape, hg.output, hg.size, fun k hk hn => hg.block k hk hn⟩ (fun i hi e => hr i e.symm hi)
theorem Chg.below {S : Nat → Prop} {a b : World} (h : Chg S a b) {B : Nat} (hB : B ≤ a.heap.size) (hS : ∀ k, S k → B ≤ k) : Below B a b :=
  ⟨h.os, h.tape, h.output, h.size, fun k hk => h.block k (by omega) (fun hs => by have := hS k hs; omega)⟩
theorem Chg.of_below {B : Nat} {a b : World} (h : Below B a b) : Chg (fun k => B ≤ k) a b :=
  ⟨h.os, h.tape, h.output, h.size, fun k _ hn => h.block k (by omega)⟩

/-- An owned row stays while its block does. -/
theorem ownsRow_block {w w' : World} {base : Nat} {e : TypeId} {size : Nat} {v : Value} {n : Nat} {xs : List Value} (h : w.ownsRow base e size v n xs) (hb : ∀ g, v.ownBlock = some g → w'.heap[g]? = w.heap[g]?) : w'.ownsRow base e size v n xs := by
  refine ⟨h.1, ?_⟩
  rcases h.2 with hn | ⟨g, cap, cur, rfl, hbg, hgg, rest⟩
  · exact .inl hn
  · exact .inr ⟨g, cap, cur, rfl, hbg, by rw [hb g rfl]; exact hgg, rest⟩
/-- .. and it owns nothing below what its block is. -/
theorem ownsRow_base {w : World} {base base' : Nat} {e : TypeId} {size : Nat} {v : Value} {n : Nat} {xs : List Value} (h : w.ownsRow base e size v n xs) (hb : ∀ g, v.ownBlock = some g → base' ≤ g) : w.ownsRow base' e size v n xs := by
  refine ⟨h.1, ?_⟩
  rcases h.2 with hn | ⟨g, cap, cur, rfl, hbg, hgg, rest⟩
  · exact .inl hn
  · exact .inr ⟨g, cap, cur, rfl, hb g rfl, hgg, rest⟩
/-- The slice value of an owned row: its length is the row's. -/
theorem row_slice {w : World} {base : Nat} {e : TypeId} {size : Nat} {v : Value} {n : Nat} {xs : List Value} (h : w.ownsRow base e size v n xs) : ∃ a c, v = .slice a n c := by
  rcases h.2 with ⟨rfl, rfl⟩ | ⟨g, cap, cur, rfl, _⟩
  · exact ⟨none, 0, rfl⟩
  · exact ⟨_, _, rfl⟩
/-- append to an owned row, at the operation: what it leaves, the new value written out. -/
theorem op_append_row {P : Program} (w : World) {o : Oper} {a : Act} {K : Act → World → Prop} {Q : Exit → Act → World → Prop} (s x : Operand) (t : TypeId)
    (ho : o.op = .call { callee := .builtin .append, args := #[s, x], argTypes := #[t, t] })
    (e : TypeId) (z : Value) (size bytes : Nat) (ht : P.underlying t = some (.slice e)) (hinfo : (P.info? e).map (fun i => (i.zero, i.size, i.bytes)) = some (some z, size, bytes)) (hzs : z.cells.size = size) (hsz : 0 < size)
    (v : Value) (n : Nat) (xs : List Value) (hs : a.eval s = v) (hown : w.ownsRow 0 e size v n xs)
    (ad : Addr) (m c : Nat) (news : List Value) (hx : a.eval x = .slice (some ad) m c) (hl : news.length = m * size) (hnews : ∀ j u, news[j]? = some u → w.cell? (ad.add j) = some u) (h1 : ∀ u ∈ news, u.oneCell' = true)
    (h63 : n + m ≤ maxLen) (hbytes : (n + m) * bytes ≤ 140737488355328)
    (h : ∀ a' c' w', w'.ownsRow 0 e size (.slice a' (n + m) c') (n + m) (xs ++ news) → w.grownBy w' v.ownBlock → ((Value.slice a' (n + m) c').ownBlock = v.ownBlock ∨ (Value.slice a' (n + m) c').ownBlock = some w.heap.size) → K (a.put o.dst (.slice a' (n + m) c')) w') :
    o.wp P a w K Q := by
  obtain ⟨i0, hi, hz0, hz1, hz2⟩ := info_parts hinfo
  obtain ⟨v', w', hr, h2, h3, _, h5⟩ := run_append_own_at (P := P) w 0 t o.type e i0 z size bytes ht hi hz0 hz1 hz2 hzs hsz v n xs hown ad m c news hl hnews h1 h63 hbytes (Nat.zero_le _)
  obtain ⟨a', c', rfl⟩ := row_slice h2
  unfold Oper.wp execOp
  simp only [ho, resolve, invoke, builtin, Sem.run_bind, Sem.run_pure, Result.andThen_ok, List.map_toArray, List.map_cons, List.map_nil, hs, hx, hr]
  exact h a' c' w' h2 h3 h5
theorem wpList_append_row {P : Program} (w : World) {ops : Array Oper} {rest : List Oper} {o : Oper} {a : Act} {Q : Exit → Act → World → Prop} (hgd : o.guard = none) (s x : Operand) (t : TypeId)
    (ho : o.op = .call { callee := .builtin .append, args := #[s, x], argTypes := #[t, t] })
    (e : TypeId) (z : Value) (size bytes : Nat) (ht : P.underlying t = some (.slice e)) (hinfo : (P.info? e).map (fun i => (i.zero, i.size, i.bytes)) = some (some z, size, bytes)) (hzs : z.cells.size = size) (hsz : 0 < size)
    (v : Value) (n : Nat) (xs : List Value) (hs : a.eval s = v) (hown : w.ownsRow 0 e size v n xs)
    (ad : Addr) (m c : Nat) (news : List Value) (hx : a.eval x = .slice (some ad) m c) (hl : news.length = m * size) (hnews : ∀ j u, news[j]? = some u → w.cell? (ad.add j) = some u) (h1 : ∀ u ∈ news, u.oneCell' = true)
    (h63 : n + m ≤ maxLen) (hbytes : (n + m) * bytes ≤ 140737488355328)
    (h : ∀ a' c' w', w'.ownsRow 0 e size (.slice a' (n + m) c') (n + m) (xs ++ news) → w.grownBy w' v.ownBlock → ((Value.slice a' (n + m) c').ownBlock = v.ownBlock ∨ (Value.slice a' (n + m) c').ownBlock = some w.heap.size) → wpList P ops Q rest (a.put o.dst (.slice a' (n + m) c')) w') :
    wpList P ops Q (o :: rest) a w :=
  wpList_plain hgd fun _ hK => op_append_row w s x t ho e z size bytes ht hinfo hzs hsz v n xs hs hown ad m c news hx hl hnews h1 h63 hbytes fun a' c' w' h1 h2 h3 => hK _ _ (h a' c' w' h1 h2 h3)
/-- A region that draws its order, whose operations but the last ones only read: the world behind the draw under a name of its own. -/
theorem wp_still_tail {P : Program} {id : Nat} {Q : Exit → Act → World → Prop} {a : Act} {w : World} {l : List Oper} (n : Nat) (hm : P.follows .mixedOrders = true) (hB : Region.lexTailB .any l.toArray n = true)
    (h : ∀ wd, Hid (wd = w.drew) → wpStill P l.toArray wd (fun a' => wpList P l.toArray Q (l.drop n) a' wd) (l.take n) a) : (Code.region id l.toArray true).wp P Q a w :=
  wp_region_still_tail n hm hB (h _ rfl)
theorem cell_drew {w wd : World} (h : Hid (wd = w.drew)) {p : Addr} {v : Value} (hc : w.cell? p = some v) : wd.cell? p = some v := by
  have e := h.out
  subst e
  exact hc
theorem free_drew {w wd : World} (h : Hid (wd = w.drew)) {p : Addr} (hc : w.frozen? p = false) : wd.frozen? p = false := by
  have e := h.out
  subst e
  exact hc
theorem blk_drew {w wd : World} (h : Hid (wd = w.drew)) (b : Nat) : wd.heap[b]? = w.heap[b]? := by
  have e := h.out
  subst e
  rfl
theorem cell_alloc {w : World} {p : Addr} {v : Value} {o : Obj} (h : w.cell? p = some v) : (w.alloc o).cell? p = some v :=
  (World.cell?_of_block (w := w) (Below.heap_alloc _ _ _ (World.block_lt_of_cell? w _ h))).trans h
theorem free_alloc {w : World} {p : Addr} {v : Value} {o : Obj} (h : w.cell? p = some v) (f : w.frozen? p = false) : (w.alloc o).frozen? p = false :=
  (World.frozen?_of_block (w := w) (Below.heap_alloc _ _ _ (World.block_lt_of_cell? w _ h))).trans f
theorem cell_grown {w w' : World} {p : Addr} {v : Value} {row : Option Nat} (hg : w.grownBy w' row) (h : w.cell? p = some v) (hne : row ≠ some p.block) : w'.cell? p = some v :=
  (World.cell?_of_block (w := w) (hg.block _ (World.block_lt_of_cell? w _ h) (fun e => hne e.symm))).trans h
theorem free_grown {w w' : World} {p : Addr} {v : Value} {row : Option Nat} (hg : w.grownBy w' row) (h : w.cell? p = some v) (f : w.frozen? p = false) (hne : row ≠ some p.block) : w'.frozen? p = false :=
  (World.frozen?_of_block (w := w) (hg.block _ (World.block_lt_of_cell? w _ h) (fun e => hne e.symm))).trans f
/-- The cells of a block that has just been laid. -/
theorem cells_new (w : World) (cs : List Value) (t : TypeId) : ∀ j u, cs[j]? = some u → (w.alloc (.cells cs.toArray t)).cell? ((⟨w.heap.size, 0, none⟩ : Addr).add j) = some u := by
  intro j u hu
  have e : (⟨w.heap.size, 0, none⟩ : Addr).add j = ⟨w.heap.size, j, none⟩ := by
    unfold Addr.add
    split
    · rename_i h; subst h; rfl
    · simp
  rw [e]
  have := heap_alloc_new w (.cells cs.toArray t)
  unfold World.cell?
  simp only [this]
  simpa using hu
end Go.Proofs.YtieahneoofdneaaDoor
