/-
  Dependencies in memory: what a slice of them reads as; what came in; what stays. Helper text; the conditions are those typed.
-/
import Derived.Test.YtjcefgjgjhdbpaaDoorDepRd
import Derived.SizedLaws
import Derived.OpenShut
namespace Go.Proofs.YtjcefgjgjhdbpaaDoor
set_option linter.unusedVariables false
set_option linter.unusedSimpArgs false
open Go.ChangeShapes Go.WideShapes Go.RowKit

/-- Cells one behind the other. -/
def CellsAt (w : World) (b o : Nat) (cs : List Value) : Prop := ∀ j v, cs[j]? = some v → w.cell? ⟨b, o + j, none⟩ = some v

/-- The five cells read as the dependency; its lists lie in blocks of S. -/
def DepC (w : World) (S : Nat → Prop) : DepT → List Value → Prop
  | .mk k nm op ev n args, cs => ∃ a c, cs = [.int .i64 k, .string nm, .int .i64 op, .string ev, .slice a n c] ∧ (Lit.int .i64 k).wf = true ∧ nm.size ≤ maxLen ∧ ev.size ≤ maxLen ∧ n * 72 ≤ 140737488355328 ∧
      (n ≠ 0 → ∃ b off, a = some ⟨b, off, none⟩ ∧ S b ∧ ∀ i : Fin n, ∃ cs', DepC w S (args i) cs' ∧ CellsAt w b (off + i * 5) cs')
/-- The slice value reads as these dependencies. -/
def DepsV (w : World) (S : Nat → Prop) (n : Nat) (args : Fin n → DepT) (v : Value) : Prop := ∃ a c, v = .slice a n c ∧ n * 72 ≤ 140737488355328 ∧
      (n ≠ 0 → ∃ b off, a = some ⟨b, off, none⟩ ∧ S b ∧ ∀ i : Fin n, ∃ cs', DepC w S (args i) cs' ∧ CellsAt w b (off + i * 5) cs')
theorem depC_iff {w : World} {S : Nat → Prop} {k : Int} {nm : ByteArray} {op : Int} {ev : ByteArray} {n : Nat} {args : Fin n → DepT} {cs : List Value} :
    DepC w S (.mk k nm op ev n args) cs ↔ ∃ v, cs = [.int .i64 k, .string nm, .int .i64 op, .string ev, v] ∧ (Lit.int .i64 k).wf = true ∧ nm.size ≤ maxLen ∧ ev.size ≤ maxLen ∧ DepsV w S n args v := by
  constructor
  · rintro ⟨a, c, h1, hk, h2, h3, h4, h5⟩
    exact ⟨_, h1, hk, h2, h3, a, c, rfl, h4, h5⟩
  · rintro ⟨v, h1, hk, h2, h3, a, c, rfl, h4, h5⟩
    exact ⟨a, c, h1, hk, h2, h3, h4, h5⟩

theorem CellsAt.keep {w w' : World} {b o : Nat} {cs : List Value} (h : CellsAt w b o cs) (hb : w'.heap[b]? = w.heap[b]?) : CellsAt w' b o cs := by
  intro j v hj
  have := h j v hj
  unfold World.cell? at *
  simp only [hb]
  exact this

/-- What lies in blocks that stay, stays. -/
theorem DepC.keep {w w' : World} {S S' : Nat → Prop} (hS : ∀ b, S b → S' b) (hk : ∀ b, S b → b < w.heap.size → w'.heap[b]? = w.heap[b]?) : ∀ {d : DepT} {cs : List Value}, (∀ u ∈ cs, True) → DepC w S d cs → DepC w' S' d cs
  | .mk k nm op ev n args, cs, _, h => by
    obtain ⟨a, c, h1, hw, h2, h3, h4, h5⟩ := h
    refine ⟨a, c, h1, hw, h2, h3, h4, fun hn => ?_⟩
    obtain ⟨b, off, e, hs, hi⟩ := h5 hn
    have hb : w'.heap[b]? = w.heap[b]? := by
      refine hk b hs ?_
      obtain ⟨cs', hc, ha⟩ := hi ⟨0, Nat.pos_of_ne_zero hn⟩
      generalize args ⟨0, Nat.pos_of_ne_zero hn⟩ = d at hc
      cases d with
      | mk k nm op ev n args =>
        obtain ⟨a, c, rfl, _⟩ := hc
        exact World.block_lt_of_cell? w _ (ha 0 _ rfl)
    refine ⟨b, off, e, hS b hs, fun i => ?_⟩
    obtain ⟨cs', hc, ha⟩ := hi i
    exact ⟨cs', DepC.keep hS hk (fun _ _ => trivial) hc, ha.keep hb⟩
theorem DepC.len {w : World} {S : Nat → Prop} {d : DepT} {cs : List Value} (h : DepC w S d cs) : cs.length = 5 := by
  cases d with
  | mk k nm op ev n args =>
    obtain ⟨a, c, rfl, _⟩ := h
    rfl
theorem DepsV.keep {w w' : World} {S S' : Nat → Prop} (hS : ∀ b, S b → S' b) (hk : ∀ b, S b → b < w.heap.size → w'.heap[b]? = w.heap[b]?) {n : Nat} {args : Fin n → DepT} {v : Value} (h : DepsV w S n args v) : DepsV w' S' n args v := by
  have h' : DepC w S (.mk 0 ⟨#[]⟩ 0 ⟨#[]⟩ n args) [.int .i64 0, .string ⟨#[]⟩, .int .i64 0, .string ⟨#[]⟩, v] := depC_iff.2 ⟨v, rfl, by decide, by decide, by decide, h⟩
  obtain ⟨v', e, _, _, _, r⟩ := depC_iff.1 (h'.keep hS hk (fun _ _ => trivial))
  simp only [List.cons.injEq, true_and, and_true] at e
  subst e
  exact r

theorem spot_none {w : World} {a : Addr} {v : Value} {i : Nat} (h : w.cell? (a.add i) = some v) (hi : i = 0) : ∃ b off, a = ⟨b, off, none⟩ ∧ b < w.heap.size := by
  subst hi
  obtain ⟨b, off, spot⟩ := a
  have hspot : spot = none := by simpa [Addr.add] using World.cell?_spot h
  subst hspot
  have hb : b < w.heap.size := by
    have := World.block_lt_of_cell? w _ h
    simpa [Addr.add] using this
  exact ⟨b, off, rfl, hb⟩
theorem addr_add {b off i : Nat} : (⟨b, off, none⟩ : Addr).add i = ⟨b, off + i, none⟩ := by
  unfold Addr.add
  split
  · rename_i h; subst h; rfl
  · rfl

/-- The weights of one of many. -/
theorem weights_all {H : Type} {P : Program} {e : TypeId} : ∀ {ds : List (DataW H)} {d : DataW H}, d ∈ ds → ∀ n ∈ d.weights P e, n ∈ DataW.weightsAll P e ds
  | d0 :: ds, d, hd, n, hn => by
    rw [DataW.weightsAll, List.mem_append]
    rcases List.mem_cons.1 hd with rfl | h
    · exact .inl hn
    · exact .inr (weights_all h n hn)

section
variable {H : Type} {enc : TypeId × Value → H} {w : World} {sp : Nat → Bool} {held : Bool}
theorem five {α : Type} {l : List α} (h : l.length = 5) : ∃ a b c d e, l = [a, b, c, d, e] := by
  match l, h with
  | [a, b, c, d, e], _ => exact ⟨a, b, c, d, e, rfl⟩
theorem cells85 : Tryd.prog.cellsOf 63 = 5 := by kernel_rfl
theorem bytes85 : Tryd.prog.bytesOf 63 = 72 := by kernel_rfl
theorem cells3 : Tryd.prog.cellsOf 3 = 1 := by kernel_rfl
theorem cells9 : Tryd.prog.cellsOf 9 = 1 := by kernel_rfl
theorem cells23 : Tryd.prog.cellsOf 32 = 1 := by kernel_rfl

/-- A slice of dependencies that came in. -/
theorem open_deps : ∀ (fuel : Nat) (v : Value) (x : DataW H × List MemPlace), DataW.trod enc Tryd.prog w 0 sp held fuel 32 [v] = some x → (∀ z ∈ x.1.weights Tryd.prog 32, z ≤ reachBytes) →
    ∃ n args, DepsV w (· < w.heap.size) n args v := by
  intro fuel
  induction fuel using Nat.strongRecOn with
  | ind fuel IH =>
    intro v x h hz
    rcases DataW.trod_slice Tryd.underlying32 h with ⟨e, _⟩ | ⟨a, len, cap, elems, rest, m, hf, hcs, hx, _, hl, hm, hle, he, _, _⟩
    · simp only [List.cons.injEq, and_true] at e
      subst e
      exact ⟨0, fun i => i.elim0, none, 0, rfl, by omega, fun h => absurd rfl h⟩
    · simp only [List.cons.injEq, and_true] at hcs
      subst hcs
      subst hf
      have hw1 : (elems.length + rest.length) * 72 ≤ reachBytes := by
        have := hz ((elems.length + rest.length) * Tryd.prog.bytesOf 63) (by rw [hx]; simp [DataW.weights, Tryd.underlying32])
        rwa [bytes85] at this
      have hbulk : len * 72 ≤ 140737488355328 := by
        have : reachBytes = 140737488351232 := rfl
        omega
      have hone : ∀ i, i < len → ∃ d cs, DepC w (· < w.heap.size) d cs ∧ ∀ j u, cs[j]? = some u → w.cell? (a.add (i * 5 + j)) = some u := by
        intro i hi
        have h1 := he i hi
        rw [cells85] at h1
        have hel : i < elems.length := by omega
        rw [List.getElem?_eq_getElem hel] at h1
        cases hc : w.cells? 0 (a.add (i * 5)) 5 with
        | none => rw [hc] at h1; cases h1
        | some cs =>
          rw [hc] at h1
          replace h1 : DataW.trod enc Tryd.prog w 0 sp held m 63 cs = some elems[i] := h1
          obtain ⟨_, hlen, hcell⟩ := World.cells?_some hc
          obtain ⟨xs, m', hm', hx', hcl, hxl, hfs⟩ := DataW.trod_struct Tryd.underlying63 h1
          obtain ⟨c0, c1, c2, c3, c4, rfl⟩ := five hlen
          obtain ⟨x0, x1, x2, x3, x4, rfl⟩ := five (hxl.trans rfl)
          have f0 : DataW.trod enc Tryd.prog w 0 sp held m' 3 ((([c0, c1, c2, c3, c4] : List Value).drop 0).take (Tryd.prog.cellsOf 3)) = some x0 := hfs 0 _ rfl
          rw [cells3] at f0
          replace f0 : DataW.trod enc Tryd.prog w 0 sp held m' 3 [c0] = some x0 := f0
          have f1 : DataW.trod enc Tryd.prog w 0 sp held m' 9 ((([c0, c1, c2, c3, c4] : List Value).drop 1).take (Tryd.prog.cellsOf 9)) = some x1 := hfs 1 _ rfl
          rw [cells9] at f1
          replace f1 : DataW.trod enc Tryd.prog w 0 sp held m' 9 [c1] = some x1 := f1
          have f2 : DataW.trod enc Tryd.prog w 0 sp held m' 3 ((([c0, c1, c2, c3, c4] : List Value).drop 2).take (Tryd.prog.cellsOf 3)) = some x2 := hfs 2 _ rfl
          rw [cells3] at f2
          replace f2 : DataW.trod enc Tryd.prog w 0 sp held m' 3 [c2] = some x2 := f2
          have f3 : DataW.trod enc Tryd.prog w 0 sp held m' 9 ((([c0, c1, c2, c3, c4] : List Value).drop 3).take (Tryd.prog.cellsOf 9)) = some x3 := hfs 3 _ rfl
          rw [cells9] at f3
          replace f3 : DataW.trod enc Tryd.prog w 0 sp held m' 9 [c3] = some x3 := f3
          have f4 : DataW.trod enc Tryd.prog w 0 sp held m' 32 ((([c0, c1, c2, c3, c4] : List Value).drop 4).take (Tryd.prog.cellsOf 32)) = some x4 := hfs 4 _ rfl
          rw [cells23] at f4
          replace f4 : DataW.trod enc Tryd.prog w 0 sp held m' 32 [c4] = some x4 := f4
          obtain ⟨k, e0, _, wk⟩ := DataW.trod_int Tryd.underlying3 f0
          obtain ⟨nm, e1, _, s1⟩ := DataW.trod_string Tryd.underlying9 f1
          obtain ⟨op, e2, _, _⟩ := DataW.trod_int Tryd.underlying3 f2
          obtain ⟨ev, e3, _, s3⟩ := DataW.trod_string Tryd.underlying9 f3
          simp only [List.cons.injEq, and_true] at e0 e1 e2 e3
          subst e0 e1 e2 e3
          have hz4 : ∀ z ∈ x4.1.weights Tryd.prog 32, z ≤ reachBytes := by
            intro z hz4
            refine hz z ?_
            rw [hx]
            simp only [DataW.weights, Tryd.underlying32, List.mem_cons, List.mem_append]
            right; left
            have hin : elems[i].1 ∈ elems.map (·.1) := List.mem_map_of_mem (List.getElem_mem hel)
            refine weights_all hin z ?_
            rw [hx']
            simp only [DataW.weights, Tryd.underlying63]
            refine DataW.weights_mem_each (j := 4) (t := 32) (d := x4.1) ?_ ?_ z hz4
            · rfl
            · rfl
          obtain ⟨n', args', hd⟩ := IH m' (by omega) _ _ f4 hz4
          refine ⟨.mk k nm op ev n' args', _, depC_iff.2 ⟨c4, rfl, wk, s1, s3, hd⟩, fun j u hj => ?_⟩
          have hj5 : j < 5 := by
            have := (List.getElem?_eq_some_iff.1 hj).1
            simpa using this
          have := hcell j hj5
          rw [hj] at this
          rw [← this, Addr.add_add]
      by_cases h0 : len = 0
      · subst h0
        exact ⟨0, fun i => i.elim0, some a, cap, rfl, by omega, fun h => absurd rfl h⟩
      · have hex : ∀ i : Fin len, ∃ d, ∃ cs, DepC w (· < w.heap.size) d cs ∧ ∀ j u, cs[j]? = some u → w.cell? (a.add (i * 5 + j)) = some u := fun i => hone i i.2
        obtain ⟨b, off, ea, hb⟩ : ∃ b off, a = ⟨b, off, none⟩ ∧ b < w.heap.size := by
          obtain ⟨d, cs, hd, hc⟩ := hone 0 (by omega)
          have hl5 := hd.len
          match cs, hl5 with
          | c0 :: cs, _ => exact spot_none (hc 0 c0 rfl) (by omega)
        subst ea
        refine ⟨len, fun i => Classical.choose (hex i), some ⟨b, off, none⟩, cap, rfl, hbulk, fun _ => ⟨b, off, rfl, hb, fun i => ?_⟩⟩
        obtain ⟨cs, hd, hc⟩ := Classical.choose_spec (hex i)
        refine ⟨cs, hd, fun j u hj => ?_⟩
        have := hc j u hj
        rw [addr_add] at this
        rwa [Nat.add_assoc]
end
end Go.Proofs.YtjcefgjgjhdbpaaDoor
