/-
  Calls (of a script) that came in. Helper text; the conditions are those typed.
-/
import Derived.Test.YtnplmembdfklcaaGreatDoorArgs
namespace Go.Proofs.YtnplmembdfklcaaGreatDoor
set_option linter.unusedVariables false
set_option linter.unusedSimpArgs false
open Go.ChangeShapes Go.WideShapes Go.RowKit Go.Maps

theorem cells3 : Tryz.prog.cellsOf 3 = 1 := by kernel_rfl
theorem cells25 : Tryz.prog.cellsOf 29 = 1 := by kernel_rfl
theorem cells37 : Tryz.prog.cellsOf 31 = 4 := by kernel_rfl
theorem cells39 : Tryz.prog.cellsOf 33 = 9 := by kernel_rfl
theorem nine {α : Type} {l : List α} (h : l.length = 9) : ∃ c0 c1 c2 c3 c4 c5 c6 c7 c8, l = [c0, c1, c2, c3, c4, c5, c6, c7, c8] := by
  match l, h with
  | [c0, c1, c2, c3, c4, c5, c6, c7, c8], _ => exact ⟨c0, c1, c2, c3, c4, c5, c6, c7, c8, rfl⟩
theorem six {α : Type} {l : List α} (h : l.length = 6) : ∃ c0 c1 c2 c3 c4 c5, l = [c0, c1, c2, c3, c4, c5] := by
  match l, h with
  | [c0, c1, c2, c3, c4, c5], _ => exact ⟨c0, c1, c2, c3, c4, c5, rfl⟩
theorem four {α : Type} {l : List α} (h : l.length = 4) : ∃ c0 c1 c2 c3, l = [c0, c1, c2, c3] := by
  match l, h with
  | [c0, c1, c2, c3], _ => exact ⟨c0, c1, c2, c3, rfl⟩

theorem weights_all {H : Type} {P : Program} {e : TypeId} : ∀ {ds : List (DataW H)} {d : DataW H}, d ∈ ds → ∀ n ∈ d.weights P e, n ∈ DataW.weightsAll P e ds
  | d0 :: ds, d, hd, n, hn => by
    rw [DataW.weightsAll, List.mem_append]
    rcases List.mem_cons.1 hd with rfl | h
    · exact .inl hn
    · exact .inr (weights_all h n hn)
/-- A call. -/
structure OpT where
  kind : Int
  id : Int
  key : ByteArray
  v : ValT
  how : Int
  text : ByteArray
def valCells (v : ValT) (vl : Value) : List Value := [.int .i64 v.kind, .int .i64 v.num, .string v.text, vl]
def opCells (o : OpT) (vl : Value) : List Value := [.int .i64 o.kind, .int .i64 o.id, .string o.key, .int .i64 o.v.kind, .int .i64 o.v.num, .string o.v.text, vl, .int .i64 o.how, .string o.text]
structure OpV (w : World) (S : Nat → Prop) (o : OpT) (vl : Value) : Prop where
  key : o.key.size ≤ maxLen
  text : o.text.size ≤ maxLen
  idw : (Lit.int .i64 o.id).wf = true
  numw : (Lit.int .i64 o.v.num).wf = true
  vtext : o.v.text.size ≤ maxLen
  list : StrsV w S o.v.list vl

section
variable {H : Type} {enc : TypeId × Value → H} {w : World} {sp : Nat → Bool} {held : Bool}
theorem open_val {fuel : Nat} {cs : List Value} {x : DataW H × List MemPlace} (h : DataW.trod enc Tryz.prog w 0 sp held fuel 31 cs = some x) (hz : ∀ z ∈ x.1.weights Tryz.prog 31, z ≤ reachBytes) :
    ∃ v vl, cs = valCells v vl ∧ StrsV w (· < w.heap.size) v.list vl ∧ (Lit.int .i64 v.num).wf = true ∧ v.text.size ≤ maxLen := by
  obtain ⟨xs, m', hm', hx', hcl, hxl, hfs⟩ := DataW.trod_struct Tryz.underlying31 h
  rw [cells37] at hcl
  obtain ⟨c0, c1, c2, c3, rfl⟩ := four hcl
  obtain ⟨x0, x1, x2, x3, rfl⟩ := four (hxl.trans rfl)
  have f0 : DataW.trod enc Tryz.prog w 0 sp held m' 3 ((([c0, c1, c2, c3] : List Value).drop 0).take (Tryz.prog.cellsOf 3)) = some x0 := hfs 0 _ rfl
  rw [cells3] at f0
  have z0 : ∀ z ∈ x0.1.weights Tryz.prog 3, z ≤ reachBytes := fun z hz' => hz z (by
    rw [hx']
    simp only [DataW.weights, Tryz.underlying31]
    exact DataW.weights_mem_each (j := 0) (t := 3) (d := x0.1) rfl rfl z hz')
  obtain ⟨n0, e0, _, w0⟩ := DataW.trod_int Tryz.underlying3 f0
  replace e0 : c0 = .int .i64 n0 := by simpa using e0
  have f1 : DataW.trod enc Tryz.prog w 0 sp held m' 3 ((([c0, c1, c2, c3] : List Value).drop 1).take (Tryz.prog.cellsOf 3)) = some x1 := hfs 1 _ rfl
  rw [cells3] at f1
  have z1 : ∀ z ∈ x1.1.weights Tryz.prog 3, z ≤ reachBytes := fun z hz' => hz z (by
    rw [hx']
    simp only [DataW.weights, Tryz.underlying31]
    exact DataW.weights_mem_each (j := 1) (t := 3) (d := x1.1) rfl rfl z hz')
  obtain ⟨n1, e1, _, w1⟩ := DataW.trod_int Tryz.underlying3 f1
  replace e1 : c1 = .int .i64 n1 := by simpa using e1
  have f2 : DataW.trod enc Tryz.prog w 0 sp held m' 9 ((([c0, c1, c2, c3] : List Value).drop 2).take (Tryz.prog.cellsOf 9)) = some x2 := hfs 2 _ rfl
  rw [cells9] at f2
  have z2 : ∀ z ∈ x2.1.weights Tryz.prog 9, z ≤ reachBytes := fun z hz' => hz z (by
    rw [hx']
    simp only [DataW.weights, Tryz.underlying31]
    exact DataW.weights_mem_each (j := 2) (t := 9) (d := x2.1) rfl rfl z hz')
  obtain ⟨s2, e2, _, w2⟩ := DataW.trod_string Tryz.underlying9 f2
  replace e2 : c2 = .string s2 := by simpa using e2
  have f3 : DataW.trod enc Tryz.prog w 0 sp held m' 29 ((([c0, c1, c2, c3] : List Value).drop 3).take (Tryz.prog.cellsOf 29)) = some x3 := hfs 3 _ rfl
  rw [cells25] at f3
  have z3 : ∀ z ∈ x3.1.weights Tryz.prog 29, z ≤ reachBytes := fun z hz' => hz z (by
    rw [hx']
    simp only [DataW.weights, Tryz.underlying31]
    exact DataW.weights_mem_each (j := 3) (t := 29) (d := x3.1) rfl rfl z hz')
  replace f3 : DataW.trod enc Tryz.prog w 0 sp held m' 29 [c3] = some x3 := f3
  obtain ⟨l, hl⟩ := open_texts f3 z3
  exact ⟨⟨n0, n1, s2, l⟩, c3, by rw [e0, e1, e2]; rfl, hl, w1, w2⟩
theorem open_op {fuel : Nat} {cs : List Value} {x : DataW H × List MemPlace} (h : DataW.trod enc Tryz.prog w 0 sp held fuel 33 cs = some x) (hz : ∀ z ∈ x.1.weights Tryz.prog 33, z ≤ reachBytes) :
    ∃ o vl, cs = opCells o vl ∧ OpV w (· < w.heap.size) o vl := by
  obtain ⟨xs, m', hm', hx', hcl, hxl, hfs⟩ := DataW.trod_struct Tryz.underlying33 h
  rw [cells39] at hcl
  obtain ⟨c0, c1, c2, c3, c4, c5, c6, c7, c8, rfl⟩ := nine hcl
  obtain ⟨x0, x1, x2, x3, x4, x5, rfl⟩ := six (hxl.trans rfl)
  have f0 : DataW.trod enc Tryz.prog w 0 sp held m' 3 ((([c0, c1, c2, c3, c4, c5, c6, c7, c8] : List Value).drop 0).take (Tryz.prog.cellsOf 3)) = some x0 := hfs 0 _ rfl
  rw [cells3] at f0
  have z0 : ∀ z ∈ x0.1.weights Tryz.prog 3, z ≤ reachBytes := fun z hz' => hz z (by
    rw [hx']
    simp only [DataW.weights, Tryz.underlying33]
    exact DataW.weights_mem_each (j := 0) (t := 3) (d := x0.1) rfl rfl z hz')
  obtain ⟨n0, e0, _, w0⟩ := DataW.trod_int Tryz.underlying3 f0
  replace e0 : c0 = .int .i64 n0 := by simpa using e0
  have f1 : DataW.trod enc Tryz.prog w 0 sp held m' 3 ((([c0, c1, c2, c3, c4, c5, c6, c7, c8] : List Value).drop 1).take (Tryz.prog.cellsOf 3)) = some x1 := hfs 1 _ rfl
  rw [cells3] at f1
  have z1 : ∀ z ∈ x1.1.weights Tryz.prog 3, z ≤ reachBytes := fun z hz' => hz z (by
    rw [hx']
    simp only [DataW.weights, Tryz.underlying33]
    exact DataW.weights_mem_each (j := 1) (t := 3) (d := x1.1) rfl rfl z hz')
  obtain ⟨n1, e1, _, w1⟩ := DataW.trod_int Tryz.underlying3 f1
  replace e1 : c1 = .int .i64 n1 := by simpa using e1
  have f2 : DataW.trod enc Tryz.prog w 0 sp held m' 9 ((([c0, c1, c2, c3, c4, c5, c6, c7, c8] : List Value).drop 2).take (Tryz.prog.cellsOf 9)) = some x2 := hfs 2 _ rfl
  rw [cells9] at f2
  have z2 : ∀ z ∈ x2.1.weights Tryz.prog 9, z ≤ reachBytes := fun z hz' => hz z (by
    rw [hx']
    simp only [DataW.weights, Tryz.underlying33]
    exact DataW.weights_mem_each (j := 2) (t := 9) (d := x2.1) rfl rfl z hz')
  obtain ⟨s2, e2, _, w2⟩ := DataW.trod_string Tryz.underlying9 f2
  replace e2 : c2 = .string s2 := by simpa using e2
  have f3 : DataW.trod enc Tryz.prog w 0 sp held m' 31 ((([c0, c1, c2, c3, c4, c5, c6, c7, c8] : List Value).drop 3).take (Tryz.prog.cellsOf 31)) = some x3 := hfs 3 _ rfl
  rw [cells37] at f3
  have z3 : ∀ z ∈ x3.1.weights Tryz.prog 31, z ≤ reachBytes := fun z hz' => hz z (by
    rw [hx']
    simp only [DataW.weights, Tryz.underlying33]
    exact DataW.weights_mem_each (j := 3) (t := 31) (d := x3.1) rfl rfl z hz')
  replace f3 : DataW.trod enc Tryz.prog w 0 sp held m' 31 [c3, c4, c5, c6] = some x3 := f3
  obtain ⟨v, vl, e3, hv, hv1, hv2⟩ := open_val f3 z3
  unfold valCells at e3
  simp only [List.cons.injEq, and_true] at e3
  obtain ⟨e31, e32, e33, e34⟩ := e3
  have f4 : DataW.trod enc Tryz.prog w 0 sp held m' 3 ((([c0, c1, c2, c3, c4, c5, c6, c7, c8] : List Value).drop 7).take (Tryz.prog.cellsOf 3)) = some x4 := hfs 4 _ rfl
  rw [cells3] at f4
  have z4 : ∀ z ∈ x4.1.weights Tryz.prog 3, z ≤ reachBytes := fun z hz' => hz z (by
    rw [hx']
    simp only [DataW.weights, Tryz.underlying33]
    exact DataW.weights_mem_each (j := 4) (t := 3) (d := x4.1) rfl rfl z hz')
  obtain ⟨n4, e4, _, w4⟩ := DataW.trod_int Tryz.underlying3 f4
  replace e4 : c7 = .int .i64 n4 := by simpa using e4
  have f5 : DataW.trod enc Tryz.prog w 0 sp held m' 9 ((([c0, c1, c2, c3, c4, c5, c6, c7, c8] : List Value).drop 8).take (Tryz.prog.cellsOf 9)) = some x5 := hfs 5 _ rfl
  rw [cells9] at f5
  have z5 : ∀ z ∈ x5.1.weights Tryz.prog 9, z ≤ reachBytes := fun z hz' => hz z (by
    rw [hx']
    simp only [DataW.weights, Tryz.underlying33]
    exact DataW.weights_mem_each (j := 5) (t := 9) (d := x5.1) rfl rfl z hz')
  obtain ⟨s5, e5, _, w5⟩ := DataW.trod_string Tryz.underlying9 f5
  replace e5 : c8 = .string s5 := by simpa using e5
  refine ⟨⟨n0, n1, s2, v, n4, s5⟩, vl, by rw [e0, e1, e2, e31, e32, e33, e34, e4, e5]; rfl, w2, w5, w1, hv1, hv2, hv⟩
theorem OpV.mono {S S' : Nat → Prop} {o : OpT} {vl : Value} (h : OpV w S o vl) (hS : ∀ b, S b → S' b) : OpV w S' o vl := ⟨h.key, h.text, h.idw, h.numw, h.vtext, h.list.keep hS (fun _ _ _ => rfl)⟩
/-- Calls in memory. -/
def OpsV (w : World) (S : Nat → Prop) (l : List OpT) (v : Value) : Prop := ∃ a c, v = .slice a l.length c ∧ l.length * 112 ≤ 140737488355328 ∧
  (l ≠ [] → ∃ b off, a = some ⟨b, off, none⟩ ∧ S b ∧ ∀ i (h : i < l.length), ∃ vl, OpV w S l[i] vl ∧ ∀ j u, (opCells l[i] vl)[j]? = some u → w.cell? ⟨b, off + i * 9 + j, none⟩ = some u)
theorem bytes39 : Tryz.prog.bytesOf 33 = 112 := by kernel_rfl
set_option maxRecDepth 100000 in
theorem open_ops {fuel : Nat} {c : Value} {x : DataW H × List MemPlace} (h : DataW.trod enc Tryz.prog w 0 sp held fuel 22 [c] = some x) (hz : ∀ z ∈ x.1.weights Tryz.prog 22, z ≤ reachBytes) : ∃ l, OpsV w (· < w.heap.size) l c := by
  rcases DataW.trod_slice Tryz.underlying22 h with ⟨e, _⟩ | ⟨a, len, cap, elems, rest, m, hf, hcs, hx, _, hl, hm, hle, he, _, _⟩
  · simp only [List.cons.injEq, and_true] at e
    subst e
    exact ⟨[], none, 0, rfl, by simp, fun h => absurd rfl h⟩
  · simp only [List.cons.injEq, and_true] at hcs
    subst hcs
    have hw1 : (elems.length + rest.length) * 112 ≤ reachBytes := by
      have := hz ((elems.length + rest.length) * Tryz.prog.bytesOf 33) (by rw [hx]; simp only [DataW.weights, Tryz.underlying22]; rw [List.length_map, List.length_map]; exact List.mem_cons_self)
      generalize (elems.length + rest.length) = n at this ⊢
      rw [bytes39] at this
      exact this
    have hbulk : len * 112 ≤ 140737488355328 := by
      have : reachBytes = 140737488351232 := rfl
      omega
    have hone : ∀ i, i < len → ∃ o vl, OpV w (· < w.heap.size) o vl ∧ ∀ j u, (opCells o vl)[j]? = some u → w.cell? (a.add (i * 9 + j)) = some u := by
      intro i hi
      have h1 := he i hi
      rw [cells39] at h1
      have hel : i < elems.length := by omega
      rw [List.getElem?_eq_getElem hel] at h1
      cases hc : w.cells? 0 (a.add (i * 9)) 9 with
      | none => rw [hc] at h1; cases h1
      | some cs =>
        rw [hc] at h1
        replace h1 : DataW.trod enc Tryz.prog w 0 sp held m 33 cs = some elems[i] := h1
        obtain ⟨_, hlen, hcell⟩ := World.cells?_some hc
        obtain ⟨o, vl, rfl, ho⟩ := open_op h1 (fun z hz' => hz z (by
          rw [hx]
          simp only [DataW.weights, Tryz.underlying22, List.mem_cons, List.mem_append]
          right; left
          exact weights_all (List.mem_map_of_mem (List.getElem_mem hel)) z hz'))
        refine ⟨o, vl, ho, fun j u hj => ?_⟩
        have hj12 : j < 9 := (List.getElem?_eq_some_iff.1 hj).1
        have := hcell (i := j) hj12
        rw [hj] at this
        rw [← this, Addr.add_add]
    by_cases h0 : len = 0
    · subst h0
      exact ⟨[], some a, cap, rfl, by simp, fun h => absurd rfl h⟩
    · obtain ⟨b, off, ea, hb⟩ : ∃ b off, a = ⟨b, off, none⟩ ∧ b < w.heap.size := by
        obtain ⟨o, vl, _, hc⟩ := hone 0 (by omega)
        exact spot_none (hc 0 _ rfl) rfl
      subst ea
      have hone' : ∀ i, i < len → ∃ o, ∃ vl, OpV w (· < w.heap.size) o vl ∧ ∀ j u, (opCells o vl)[j]? = some u → w.cell? ⟨b, off + i * 9 + j, none⟩ = some u := fun i hi => by
        obtain ⟨o, vl, h1, h2⟩ := hone i hi
        refine ⟨o, vl, h1, fun j u hj => ?_⟩
        have := h2 j u hj
        rw [addr_add] at this
        rwa [Nat.add_assoc]
      refine ⟨(List.finRange len).map (fun i : Fin len => (hone' i.val i.2).choose), some ⟨b, off, none⟩, cap, by simp, by simpa using hbulk, fun _ => ⟨b, off, rfl, hb, fun i hi => ?_⟩⟩
      have hi' : i < len := by simpa using hi
      have := (hone' i hi').choose_spec
      simpa using this
end
end Go.Proofs.YtnplmembdfklcaaGreatDoor
