/-
  Adding a package: the runs at the map, the rows' elements. Helper text; the conditions are those typed.
-/
import Derived.Test.YtbdankpkdhhlmaaGreatAddB
namespace Go.Proofs.YtbdankpkdhhlmaaGreat
set_option linter.unusedVariables false
set_option linter.unusedSimpArgs false
open Go.RowKit Go.Maps

theorem keyed9 : Keyed Tryz.prog 9 := string_keyed Tryz.underlying9
theorem key9 {s : ByteArray} (h : s.size ≤ maxLen) : keyOf Tryz.prog 9 (.string s) = some (.string s.data.toList) := WideMaps.keyOf_string_mk Tryz.underlying9 h
theorem info3 : (Tryz.prog.info? 3).map (fun i => (i.zero, i.size, i.bytes)) = some (some (.int .i64 0), 1, 8) := by kernel_rfl
theorem info34 : (Tryz.prog.info? 40).map (fun i => (i.zero, i.size, i.bytes)) = some (some (.agg #[.string ⟨#[]⟩, .int .i64 0, .bool false, .slice none 0 0]), 4, 56) := by kernel_rfl
theorem info62 : (Tryz.prog.info? 101).map (fun i => (i.zero, i.size, i.bytes)) = some (some (.agg #[.string ⟨#[]⟩, .string ⟨#[]⟩, .string ⟨#[]⟩, .string ⟨#[]⟩, .slice none 0 0, .slice none 0 0, .slice none 0 0, .slice none 0 0, .slice none 0 0, .slice none 0 0, .slice none 0 0, .slice none 0 0, .int .i64 0]), 13, 264) := by kernel_rfl

/-- The list of a name, a slice that is nil where there is none. -/
def curL (ns : List ByteArray) (lv : ByteArray → Value) (s : ByteArray) : Value := if idsOf ns s = [] then .slice none 0 0 else lv s

section
variable {w w' : World} {B : Nat} {role : Nat → Role} {P M : Nat} {vr va : Value} {lv : ByteArray → Value} {kd : Int} {rs : List RepoH} {ks : List KeptT} {ns : List ByteArray}
theorem PoolIn.cur (h : PoolIn w B role P M vr va lv kd rs ks ns) (s : ByteArray) : ∃ al cl, curL ns lv s = .slice al (idsOf ns s).length cl ∧ w.ownsRow B 3 1 (.slice al (idsOf ns s).length cl) (idsOf ns s).length (intsL (idsOf ns s)) := by
  unfold curL
  by_cases h0 : idsOf ns s = []
  · rw [if_pos h0, h0]
    exact ⟨none, 0, rfl, World.ownsRow_nil _ _ _ _⟩
  · rw [if_neg h0]
    have := h.lists s h0
    rcases ownsRow_form this with ⟨e, h1⟩ | ⟨g, c, e, _⟩
    · exact absurd (List.eq_nil_of_length_eq_zero h1) h0
    · exact ⟨_, c, e, e ▸ this⟩
theorem PoolIn.look (h : PoolIn w B role P M vr va lv kd rs ks ns) {s : ByteArray} (hs : s.size ≤ maxLen) : (Instr.lookup 96 (.map (some M)) (.string s) false).run Tryz.prog w = .ok (curL ns lv s) w := by
  rw [h.named.run_look keyed9 Tryz.underlying96 (Tryz.zeroValue91 w) (key9 hs)]
  unfold namedF curL
  by_cases h0 : idsOf ns s = []
  · simp [h0]
  · simp [h0]
open Classical in
theorem PoolIn.store (h : MapAt Tryz.prog 9 w M ns.length (namedF ns lv)) (hn : ns.length < maxLen) {s : ByteArray} (hs : s.size ≤ maxLen) (x : Value) : ∃ w', (Instr.mapUpdate 96 (.map (some M)) (.string s) x).run Tryz.prog w = .ok () w' ∧
    MapAt Tryz.prog 9 w' M (ns.length + 1) (fun u => if u = .string s then some x else namedF ns lv u) ∧ w.grownBy w' (some M) ∧ w'.heap.size = w.heap.size :=
  h.run_store keyed9 Tryz.underlying96 hn (key9 hs) _ (by simp) (fun u hu => by simp [hu])

theorem PoolIn.arow_form (h : PoolIn w B role P M vr va lv kd rs ks ns) : ∃ a c, va = .slice a ks.length c := by
  obtain ⟨xs, ha, _⟩ := h.arow
  rcases ownsRow_form ha with ⟨e, h0⟩ | ⟨g, c, e, _⟩
  · exact ⟨none, 0, by rw [e, h0]⟩
  · exact ⟨_, c, e⟩
theorem PoolIn.rrow_form (h : PoolIn w B role P M vr va lv kd rs ks ns) : ∃ a c, vr = .slice a rs.length c := by
  rcases ownsRow_form h.rrow with ⟨e, h0⟩ | ⟨g, c, e, _⟩
  · exact ⟨none, 0, by rw [e, h0]⟩
  · exact ⟨_, c, e⟩
theorem ownsRow_grown {B : Nat} {e : TypeId} {k n : Nat} {v : Value} {xs : List Value} {row : Option Nat} (h : w.ownsRow B e k v n xs) (hg : w.grownBy w' row) (hne : v.ownBlock = none ∨ v.ownBlock ≠ row) : w'.ownsRow B e k v n xs := h.kept hg hne
theorem ownsRow_below {B : Nat} {e : TypeId} {k n : Nat} {v : Value} {xs : List Value} (h : w.ownsRow B e k v n xs) (hb : Below w.heap.size w w') : w'.ownsRow B e k v n xs :=
  ownsRow_to h fun g hg => hb.block g (h.lt g hg).2
theorem grown_below {row : Option Nat} {w1 w2 : World} (hb : Below w.heap.size w w1) (hg : w1.grownBy w2 row) {b : Nat} (h : b < w.heap.size) (hne : some b ≠ row) : w2.heap[b]? = w.heap[b]? := by
  rw [hg.block b (Nat.lt_of_lt_of_le h hb.size) hne, hb.block b h]
theorem PoolIn.cur_ne (h : PoolIn w B role P M vr va lv kd rs ks ns) (s : ByteArray) {b : Nat} (hr : role b ≠ .list s) : some b ≠ (curL ns lv s).ownBlock := by
  intro e
  unfold curL at e
  by_cases h0 : idsOf ns s = []
  · rw [if_pos h0] at e; cases e
  · rw [if_neg h0] at e
    exact hr (h.rL s b h0 e.symm)
theorem Moved.set {role' : Nat → Role} (h : Moved role w role' w') {b : Nat} (hb : w.heap.size ≤ b) (o : Nat) (x : Value) : Moved role w role' (w'.setCell ⟨b, o, none⟩ x) := by
  have k : Below w.heap.size w' (w'.setCell ⟨b, o, none⟩ x) := below_sc (Below.refl _ _) hb _ _
  exact ⟨k.os.trans h.os, k.tape.trans h.tape, k.output.trans h.output, Nat.le_trans h.size k.size, fun c hc hr => ⟨(k.block c hc).trans (h.block c hc hr).1, (h.block c hc hr).2⟩⟩
end
end Go.Proofs.YtbdankpkdhhlmaaGreat
