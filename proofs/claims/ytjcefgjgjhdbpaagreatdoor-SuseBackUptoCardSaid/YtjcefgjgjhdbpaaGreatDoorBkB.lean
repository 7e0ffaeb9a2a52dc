/-
  Packages that came in: what they read as; how many names there are in them. Helper text (printed by gen_bkB.py); the conditions are those typed.
-/
import Derived.Test.YtjcefgjgjhdbpaaGreatDoorBkA
import Derived.SizedLaws
import Derived.OpenShut
import Derived.JoinedCond
namespace Go.Proofs.YtjcefgjgjhdbpaaGreatDoor
set_option linter.unusedVariables false
set_option linter.unusedSimpArgs false
open Go.ChangeShapes Go.WideShapes Go.RowKit Go.Maps

theorem twelve {α : Type} {l : List α} (h : l.length = 12) : ∃ c0 c1 c2 c3 c4 c5 c6 c7 c8 c9 c10 c11, l = [c0, c1, c2, c3, c4, c5, c6, c7, c8, c9, c10, c11] := by
  match l, h with
  | [c0, c1, c2, c3, c4, c5, c6, c7, c8, c9, c10, c11], _ => exact ⟨c0, c1, c2, c3, c4, c5, c6, c7, c8, c9, c10, c11, rfl⟩
theorem cells24 : Tryz.prog.cellsOf 34 = 1 := by kernel_rfl
theorem cells26 : Tryz.prog.cellsOf 36 = 12 := by kernel_rfl
theorem bytes9 : Tryz.prog.bytesOf 9 = 16 := by kernel_rfl
theorem bytes26 : Tryz.prog.bytesOf 36 = 256 := by kernel_rfl

section
variable {H : Type} {enc : TypeId × Value → H} {w : World} {sp : Nat → Bool} {held : Bool}
theorem open_text {fuel : Nat} {c : Value} {x : DataW H × List MemPlace} (h : DataW.trod enc Tryz.prog w 0 sp held fuel 9 [c] = some x) (hz : ∀ z ∈ x.1.weights Tryz.prog 9, z ≤ reachBytes) : ∃ s : ByteArray, c = .string s ∧ s.size ≤ maxLen ∧ s.size ≤ reachBytes := by
  obtain ⟨s, e, hx, h1⟩ := DataW.trod_string Tryz.underlying9 h
  simp only [List.cons.injEq, and_true] at e
  subst e
  refine ⟨s, rfl, h1, hz _ ?_⟩
  rw [hx]
  simp [DataW.weights]
theorem open_texts {fuel : Nat} {c : Value} {x : DataW H × List MemPlace} (h : DataW.trod enc Tryz.prog w 0 sp held fuel 34 [c] = some x) (hz : ∀ z ∈ x.1.weights Tryz.prog 34, z ≤ reachBytes) : ∃ l, StrsV w (· < w.heap.size) l c := by
  rcases DataW.trod_slice Tryz.underlying34 h with ⟨e, _⟩ | ⟨a, len, cap, elems, rest, m, hf, hcs, hx, _, hl, hm, hle, he, _, _⟩
  · simp only [List.cons.injEq, and_true] at e
    subst e
    exact ⟨[], none, 0, rfl, by simp, by decide, fun h => absurd rfl h⟩
  · simp only [List.cons.injEq, and_true] at hcs
    subst hcs
    have hw1 : (elems.length + rest.length) * 16 ≤ reachBytes := by
      have := hz ((elems.length + rest.length) * Tryz.prog.bytesOf 9) (by rw [hx]; simp [DataW.weights, Tryz.underlying34])
      rwa [bytes9] at this
    have hbulk : len * 16 ≤ 140737488355328 := by
      have : reachBytes = 140737488351232 := rfl
      omega
    have hone : ∀ i, i < len → ∃ s : ByteArray, s.size ≤ maxLen ∧ w.cell? (a.add i) = some (.string s) := by
      intro i hi
      have h1 := he i hi
      rw [cells9] at h1
      have hel : i < elems.length := by omega
      rw [List.getElem?_eq_getElem hel, Nat.mul_one] at h1
      cases hc : w.cells? 0 (a.add i) 1 with
      | none => rw [hc] at h1; cases h1
      | some cs =>
        rw [hc] at h1
        replace h1 : DataW.trod enc Tryz.prog w 0 sp held m 9 cs = some elems[i] := h1
        obtain ⟨_, hlen, hcell⟩ := World.cells?_some hc
        obtain ⟨s, e, _, h3⟩ := DataW.trod_string Tryz.underlying9 h1
        subst e
        refine ⟨s, h3, ?_⟩
        have := hcell (i := 0) (by omega)
        rw [Addr.add_add] at this
        exact this
    by_cases h0 : len = 0
    · subst h0
      exact ⟨[], some a, cap, rfl, by simp, by decide, fun h => absurd rfl h⟩
    · obtain ⟨b, off, ea, hb⟩ : ∃ b off, a = ⟨b, off, none⟩ ∧ b < w.heap.size := by
        obtain ⟨s, _, hc⟩ := hone 0 (by omega)
        exact spot_none hc rfl
      subst ea
      have hone' : ∀ i, i < len → ∃ s : ByteArray, s.size ≤ maxLen ∧ w.cell? ⟨b, off + i, none⟩ = some (.string s) := fun i hi => by
        obtain ⟨s, h1, h2⟩ := hone i hi
        exact ⟨s, h1, by rwa [addr_add] at h2⟩
      refine ⟨(List.finRange len).map (fun i : Fin len => (hone' i.val i.2).choose), some ⟨b, off, none⟩, cap, by simp, ?_, by simpa using hbulk, fun _ => ⟨b, off, rfl, hb, fun i hi => ?_⟩⟩
      · intro s hs
        obtain ⟨i, _, rfl⟩ := List.mem_map.1 hs
        exact (hone' i.val i.2).choose_spec.1
      · have hi' : i < len := by simpa using hi
        have := (hone' i hi').choose_spec.2
        simpa using this
theorem open_pkg {fuel : Nat} {cs : List Value} {x : DataW H × List MemPlace} (h : DataW.trod enc Tryz.prog w 0 sp held fuel 36 cs = some x) (hz : ∀ z ∈ x.1.weights Tryz.prog 36, z ≤ reachBytes) :
    ∃ p v vf, cs = pkgCells p.name p.evr p.arch p.vendor v vf ∧ PkgV w (· < w.heap.size) p v vf ∧ p.name.size ≤ reachBytes ∧ p.evr.size ≤ reachBytes ∧ p.arch.size ≤ reachBytes := by
  obtain ⟨xs, m', hm', hx', hcl, hxl, hfs⟩ := DataW.trod_struct Tryz.underlying36 h
  rw [cells26] at hcl
  obtain ⟨c0, c1, c2, c3, c4, c5, c6, c7, c8, c9, c10, c11, rfl⟩ := twelve hcl
  obtain ⟨x0, x1, x2, x3, x4, x5, x6, x7, x8, x9, x10, x11, rfl⟩ := twelve (hxl.trans rfl)
  have f0 : DataW.trod enc Tryz.prog w 0 sp held m' 9 ((([c0, c1, c2, c3, c4, c5, c6, c7, c8, c9, c10, c11] : List Value).drop 0).take (Tryz.prog.cellsOf 9)) = some x0 := hfs 0 _ rfl
  rw [cells9] at f0
  replace f0 : DataW.trod enc Tryz.prog w 0 sp held m' 9 [c0] = some x0 := f0
  have z0 : ∀ z ∈ x0.1.weights Tryz.prog 9, z ≤ reachBytes := fun z hz' => hz z (by
    rw [hx']
    simp only [DataW.weights, Tryz.underlying36]
    exact DataW.weights_mem_each (j := 0) (t := 9) (d := x0.1) rfl rfl z hz')
  have f1 : DataW.trod enc Tryz.prog w 0 sp held m' 9 ((([c0, c1, c2, c3, c4, c5, c6, c7, c8, c9, c10, c11] : List Value).drop 1).take (Tryz.prog.cellsOf 9)) = some x1 := hfs 1 _ rfl
  rw [cells9] at f1
  replace f1 : DataW.trod enc Tryz.prog w 0 sp held m' 9 [c1] = some x1 := f1
  have z1 : ∀ z ∈ x1.1.weights Tryz.prog 9, z ≤ reachBytes := fun z hz' => hz z (by
    rw [hx']
    simp only [DataW.weights, Tryz.underlying36]
    exact DataW.weights_mem_each (j := 1) (t := 9) (d := x1.1) rfl rfl z hz')
  have f2 : DataW.trod enc Tryz.prog w 0 sp held m' 9 ((([c0, c1, c2, c3, c4, c5, c6, c7, c8, c9, c10, c11] : List Value).drop 2).take (Tryz.prog.cellsOf 9)) = some x2 := hfs 2 _ rfl
  rw [cells9] at f2
  replace f2 : DataW.trod enc Tryz.prog w 0 sp held m' 9 [c2] = some x2 := f2
  have z2 : ∀ z ∈ x2.1.weights Tryz.prog 9, z ≤ reachBytes := fun z hz' => hz z (by
    rw [hx']
    simp only [DataW.weights, Tryz.underlying36]
    exact DataW.weights_mem_each (j := 2) (t := 9) (d := x2.1) rfl rfl z hz')
  have f3 : DataW.trod enc Tryz.prog w 0 sp held m' 9 ((([c0, c1, c2, c3, c4, c5, c6, c7, c8, c9, c10, c11] : List Value).drop 3).take (Tryz.prog.cellsOf 9)) = some x3 := hfs 3 _ rfl
  rw [cells9] at f3
  replace f3 : DataW.trod enc Tryz.prog w 0 sp held m' 9 [c3] = some x3 := f3
  have z3 : ∀ z ∈ x3.1.weights Tryz.prog 9, z ≤ reachBytes := fun z hz' => hz z (by
    rw [hx']
    simp only [DataW.weights, Tryz.underlying36]
    exact DataW.weights_mem_each (j := 3) (t := 9) (d := x3.1) rfl rfl z hz')
  have f4 : DataW.trod enc Tryz.prog w 0 sp held m' 33 ((([c0, c1, c2, c3, c4, c5, c6, c7, c8, c9, c10, c11] : List Value).drop 4).take (Tryz.prog.cellsOf 33)) = some x4 := hfs 4 _ rfl
  rw [cells23] at f4
  replace f4 : DataW.trod enc Tryz.prog w 0 sp held m' 33 [c4] = some x4 := f4
  have z4 : ∀ z ∈ x4.1.weights Tryz.prog 33, z ≤ reachBytes := fun z hz' => hz z (by
    rw [hx']
    simp only [DataW.weights, Tryz.underlying36]
    exact DataW.weights_mem_each (j := 4) (t := 33) (d := x4.1) rfl rfl z hz')
  have f5 : DataW.trod enc Tryz.prog w 0 sp held m' 33 ((([c0, c1, c2, c3, c4, c5, c6, c7, c8, c9, c10, c11] : List Value).drop 5).take (Tryz.prog.cellsOf 33)) = some x5 := hfs 5 _ rfl
  rw [cells23] at f5
  replace f5 : DataW.trod enc Tryz.prog w 0 sp held m' 33 [c5] = some x5 := f5
  have z5 : ∀ z ∈ x5.1.weights Tryz.prog 33, z ≤ reachBytes := fun z hz' => hz z (by
    rw [hx']
    simp only [DataW.weights, Tryz.underlying36]
    exact DataW.weights_mem_each (j := 5) (t := 33) (d := x5.1) rfl rfl z hz')
  have f6 : DataW.trod enc Tryz.prog w 0 sp held m' 33 ((([c0, c1, c2, c3, c4, c5, c6, c7, c8, c9, c10, c11] : List Value).drop 6).take (Tryz.prog.cellsOf 33)) = some x6 := hfs 6 _ rfl
  rw [cells23] at f6
  replace f6 : DataW.trod enc Tryz.prog w 0 sp held m' 33 [c6] = some x6 := f6
  have z6 : ∀ z ∈ x6.1.weights Tryz.prog 33, z ≤ reachBytes := fun z hz' => hz z (by
    rw [hx']
    simp only [DataW.weights, Tryz.underlying36]
    exact DataW.weights_mem_each (j := 6) (t := 33) (d := x6.1) rfl rfl z hz')
  have f7 : DataW.trod enc Tryz.prog w 0 sp held m' 33 ((([c0, c1, c2, c3, c4, c5, c6, c7, c8, c9, c10, c11] : List Value).drop 7).take (Tryz.prog.cellsOf 33)) = some x7 := hfs 7 _ rfl
  rw [cells23] at f7
  replace f7 : DataW.trod enc Tryz.prog w 0 sp held m' 33 [c7] = some x7 := f7
  have z7 : ∀ z ∈ x7.1.weights Tryz.prog 33, z ≤ reachBytes := fun z hz' => hz z (by
    rw [hx']
    simp only [DataW.weights, Tryz.underlying36]
    exact DataW.weights_mem_each (j := 7) (t := 33) (d := x7.1) rfl rfl z hz')
  have f8 : DataW.trod enc Tryz.prog w 0 sp held m' 33 ((([c0, c1, c2, c3, c4, c5, c6, c7, c8, c9, c10, c11] : List Value).drop 8).take (Tryz.prog.cellsOf 33)) = some x8 := hfs 8 _ rfl
  rw [cells23] at f8
  replace f8 : DataW.trod enc Tryz.prog w 0 sp held m' 33 [c8] = some x8 := f8
  have z8 : ∀ z ∈ x8.1.weights Tryz.prog 33, z ≤ reachBytes := fun z hz' => hz z (by
    rw [hx']
    simp only [DataW.weights, Tryz.underlying36]
    exact DataW.weights_mem_each (j := 8) (t := 33) (d := x8.1) rfl rfl z hz')
  have f9 : DataW.trod enc Tryz.prog w 0 sp held m' 33 ((([c0, c1, c2, c3, c4, c5, c6, c7, c8, c9, c10, c11] : List Value).drop 9).take (Tryz.prog.cellsOf 33)) = some x9 := hfs 9 _ rfl
  rw [cells23] at f9
  replace f9 : DataW.trod enc Tryz.prog w 0 sp held m' 33 [c9] = some x9 := f9
  have z9 : ∀ z ∈ x9.1.weights Tryz.prog 33, z ≤ reachBytes := fun z hz' => hz z (by
    rw [hx']
    simp only [DataW.weights, Tryz.underlying36]
    exact DataW.weights_mem_each (j := 9) (t := 33) (d := x9.1) rfl rfl z hz')
  have f10 : DataW.trod enc Tryz.prog w 0 sp held m' 33 ((([c0, c1, c2, c3, c4, c5, c6, c7, c8, c9, c10, c11] : List Value).drop 10).take (Tryz.prog.cellsOf 33)) = some x10 := hfs 10 _ rfl
  rw [cells23] at f10
  replace f10 : DataW.trod enc Tryz.prog w 0 sp held m' 33 [c10] = some x10 := f10
  have z10 : ∀ z ∈ x10.1.weights Tryz.prog 33, z ≤ reachBytes := fun z hz' => hz z (by
    rw [hx']
    simp only [DataW.weights, Tryz.underlying36]
    exact DataW.weights_mem_each (j := 10) (t := 33) (d := x10.1) rfl rfl z hz')
  have f11 : DataW.trod enc Tryz.prog w 0 sp held m' 34 ((([c0, c1, c2, c3, c4, c5, c6, c7, c8, c9, c10, c11] : List Value).drop 11).take (Tryz.prog.cellsOf 34)) = some x11 := hfs 11 _ rfl
  rw [cells24] at f11
  replace f11 : DataW.trod enc Tryz.prog w 0 sp held m' 34 [c11] = some x11 := f11
  have z11 : ∀ z ∈ x11.1.weights Tryz.prog 34, z ≤ reachBytes := fun z hz' => hz z (by
    rw [hx']
    simp only [DataW.weights, Tryz.underlying36]
    exact DataW.weights_mem_each (j := 11) (t := 34) (d := x11.1) rfl rfl z hz')
  obtain ⟨nm, rfl, n1, n2⟩ := open_text f0 z0
  obtain ⟨ev, rfl, e1, e2⟩ := open_text f1 z1
  obtain ⟨ar, rfl, a1, a2⟩ := open_text f2 z2
  obtain ⟨ve, rfl, v1, v2⟩ := open_text f3 z3
  obtain ⟨fs, hfs'⟩ := open_texts f11 z11
  have hd : ∀ i : Fin 7, ∃ n args, DepsV w (· < w.heap.size) n args (([c4, c5, c6, c7, c8, c9, c10] : List Value)[i]) := by
    intro i
    match i with
    | 0 => exact open_deps _ _ _ f4 z4
    | 1 => exact open_deps _ _ _ f5 z5
    | 2 => exact open_deps _ _ _ f6 z6
    | 3 => exact open_deps _ _ _ f7 z7
    | 4 => exact open_deps _ _ _ f8 z8
    | 5 => exact open_deps _ _ _ f9 z9
    | 6 => exact open_deps _ _ _ f10 z10
  exact ⟨⟨nm, ev, ar, ve, fun i => (hd i).choose, fun i => (hd i).choose_spec.choose, fs⟩, fun i => ([c4, c5, c6, c7, c8, c9, c10] : List Value)[i], c11, rfl, ⟨n1, e1, a1, v1, fun i => (hd i).choose_spec.choose_spec, hfs'⟩, n2, e2, a2⟩
end
theorem cells32 : Tryz.prog.cellsOf 23 = 1 := by kernel_rfl
/-- A package's texts are no longer than memory. -/
def Fits (p : PkgT) : Prop := p.name.size ≤ reachBytes ∧ p.evr.size ≤ reachBytes ∧ p.arch.size ≤ reachBytes
section
variable {H : Type} {enc : TypeId × Value → H} {w : World} {sp : Nat → Bool} {held : Bool}
set_option maxRecDepth 100000 in
theorem open_pkgs {fuel : Nat} {c : Value} {x : DataW H × List MemPlace} (h : DataW.trod enc Tryz.prog w 0 sp held fuel 23 [c] = some x) (hz : ∀ z ∈ x.1.weights Tryz.prog 23, z ≤ reachBytes) : ∃ l, PkgsV w (· < w.heap.size) l c ∧ ∀ p ∈ l, Fits p := by
  rcases DataW.trod_slice Tryz.underlying23 h with ⟨e, _⟩ | ⟨a, len, cap, elems, rest, m, hf, hcs, hx, _, hl, hm, hle, he, _, _⟩
  · simp only [List.cons.injEq, and_true] at e
    subst e
    exact ⟨[], ⟨none, 0, rfl, by simp, fun h => absurd rfl h⟩, fun p hp => by cases hp⟩
  · simp only [List.cons.injEq, and_true] at hcs
    subst hcs
    have hw1 : (elems.length + rest.length) * 256 ≤ reachBytes := by
      have := hz ((elems.length + rest.length) * Tryz.prog.bytesOf 36) (by rw [hx]; simp only [DataW.weights, Tryz.underlying23]; rw [List.length_map, List.length_map]; exact List.mem_cons_self)
      generalize (elems.length + rest.length) = n at this ⊢
      rw [bytes26] at this
      exact this
    have hbulk : len * 256 ≤ 140737488355328 := by
      have : reachBytes = 140737488351232 := rfl
      omega
    have hone : ∀ i, i < len → ∃ p v vf, PkgV w (· < w.heap.size) p v vf ∧ Fits p ∧ ∀ j u, (pkgCells p.name p.evr p.arch p.vendor v vf)[j]? = some u → w.cell? (a.add (i * 12 + j)) = some u := by
      intro i hi
      have h1 := he i hi
      rw [cells26] at h1
      have hel : i < elems.length := by omega
      rw [List.getElem?_eq_getElem hel] at h1
      cases hc : w.cells? 0 (a.add (i * 12)) 12 with
      | none => rw [hc] at h1; cases h1
      | some cs =>
        rw [hc] at h1
        replace h1 : DataW.trod enc Tryz.prog w 0 sp held m 36 cs = some elems[i] := h1
        obtain ⟨_, hlen, hcell⟩ := World.cells?_some hc
        obtain ⟨p, v, vf, rfl, hp, s1, s2, s3⟩ := open_pkg h1 (fun z hz' => hz z (by
          rw [hx]
          simp only [DataW.weights, Tryz.underlying23, List.mem_cons, List.mem_append]
          right; left
          exact weights_all (List.mem_map_of_mem (List.getElem_mem hel)) z hz'))
        refine ⟨p, v, vf, hp, ⟨s1, s2, s3⟩, fun j u hj => ?_⟩
        have hj12 : j < 12 := (List.getElem?_eq_some_iff.1 hj).1
        have := hcell (i := j) hj12
        rw [hj] at this
        rw [← this, Addr.add_add]
    by_cases h0 : len = 0
    · subst h0
      exact ⟨[], ⟨some a, cap, rfl, by simp, fun h => absurd rfl h⟩, fun p hp => by cases hp⟩
    · obtain ⟨b, off, ea, hb⟩ : ∃ b off, a = ⟨b, off, none⟩ ∧ b < w.heap.size := by
        obtain ⟨p, v, vf, _, _, hc⟩ := hone 0 (by omega)
        exact spot_none (hc 0 _ rfl) rfl
      subst ea
      have hone' : ∀ i, i < len → ∃ p, (∃ v vf, PkgV w (· < w.heap.size) p v vf ∧ CellsAt w b (off + i * 12) (pkgCells p.name p.evr p.arch p.vendor v vf)) ∧ Fits p := fun i hi => by
        obtain ⟨p, v, vf, h1, h2, h3⟩ := hone i hi
        refine ⟨p, ⟨v, vf, h1, fun j u hj => ?_⟩, h2⟩
        have := h3 j u hj
        rw [addr_add] at this
        rwa [Nat.add_assoc]
      refine ⟨(List.finRange len).map (fun i : Fin len => (hone' i.val i.2).choose), ⟨some ⟨b, off, none⟩, cap, by simp, by simpa using hbulk, fun _ => ⟨b, off, rfl, hb, fun i hi => ?_⟩⟩, fun p hp => ?_⟩
      · have hi' : i < len := by simpa using hi
        have := (hone' i hi').choose_spec.1
        simpa using this
      · obtain ⟨i, _, rfl⟩ := List.mem_map.1 hp
        exact (hone' i.val i.2).choose_spec.2
end
theorem bulk_one {H : Type} (d : DataW H) : 1 ≤ Rows.uptoBulk d := by
  cases d with
  | lit l => cases l <;> simp [Rows.uptoBulk]
  | nil => simp [Rows.uptoBulk]
  | ptr d => simp [Rows.uptoBulk]
  | slice elems spare => simp [Rows.uptoBulk]
  | agg parts => simp [Rows.uptoBulk]
  | iface t d => simp [Rows.uptoBulk]
  | map entries => simp [Rows.uptoBulk]
  | held h => simp [Rows.uptoBulk]
theorem bulk_append {H : Type} (l r : List (DataW H)) : Rows.uptoBulkAll (l ++ r) = Rows.uptoBulkAll l + Rows.uptoBulkAll r := by
  induction l with
  | nil => simp [Rows.uptoBulkAll]
  | cons x l ih => simp only [List.cons_append, Rows.uptoBulkAll, ih]; omega
theorem bulk_length {H : Type} (l : List (DataW H)) : l.length ≤ Rows.uptoBulkAll l := by
  induction l with
  | nil => simp [Rows.uptoBulkAll]
  | cons x r ih => have := bulk_one x; simp only [Rows.uptoBulkAll, List.length_cons]; omega
theorem bulk_slice {H : Type} (elems spare : List (DataW H)) : Rows.uptoBulkAll elems + 1 ≤ Rows.uptoBulk (.slice elems spare) := by
  simp only [Rows.uptoBulk]
  omega
theorem upto_all {H : Type} (g : Nat → Nat) (l : List (DataW H)) (h : ∀ i (hi : i < l.length), g i ≤ Rows.uptoBulk l[i]) : upto g l.length ≤ Rows.uptoBulkAll l := by
  have h1 : ∀ k, k ≤ l.length → upto g k ≤ Rows.uptoBulkAll (l.take k) := by
    intro k
    induction k with
    | zero => intro _; exact Nat.zero_le _
    | succ k ih =>
      intro hk
      have hk2 : k < l.length := by omega
      rw [List.take_add_one, List.getElem?_eq_getElem hk2, Option.toList_some, bulk_append]
      have h2 := ih (by omega)
      have h3 := h k hk2
      have h4 : Rows.uptoBulkAll [l[k]] = Rows.uptoBulk l[k] := by simp [Rows.uptoBulkAll]
      unfold upto
      omega
  have h2 := h1 l.length (Nat.le_refl _)
  rwa [List.take_length] at h2
section
variable {H : Type} {enc : TypeId × Value → H} {w : World} {sp : Nat → Bool} {held : Bool}
theorem slice_bulk {t e : TypeId} (ht : Tryz.prog.underlying t = some (.slice e)) {N : Nat} (hN : Tryz.prog.cellsOf e = N) {fuel : Nat} {a : Option Addr} {n c : Nat} {x : DataW H × List MemPlace} (h : DataW.trod enc Tryz.prog w 0 sp held fuel t [.slice a n c] = some x) (g : Nat → Nat)
    (hg : ∀ i, i < n → ∀ b, a = some b → ∀ m, m < fuel → ∀ cs y, w.cells? 0 (b.add (i * N)) N = some cs → DataW.trod enc Tryz.prog w 0 sp held m e cs = some y → g i ≤ Rows.uptoBulk y.1) : upto g n + 1 ≤ Rows.uptoBulk x.1 := by
  rcases DataW.trod_slice ht h with ⟨e, _⟩ | ⟨a', len, cap, elems, rest, m, hf, hcs, hx, _, hl, hm, hle, he, _, _⟩
  · simp only [List.cons.injEq, and_true] at e
    injection e with _ e2 _
    subst e2
    have := bulk_one x.1
    show 0 + 1 ≤ _
    omega
  · simp only [List.cons.injEq, and_true] at hcs
    injection hcs with e1 e2 e3
    subst e1 e2
    rw [hx]
    have h2 := bulk_slice (elems.map (·.1)) (rest.map (·.1))
    have h3 := upto_all g (elems.map (·.1)) (fun i hi => by
      rw [List.length_map] at hi
      have h1 := he i (by omega)
      rw [hN] at h1
      rw [List.getElem?_eq_getElem hi] at h1
      cases hc : w.cells? 0 (a'.add (i * N)) N with
      | none => rw [hc] at h1; cases h1
      | some cs =>
        rw [hc] at h1
        replace h1 : DataW.trod enc Tryz.prog w 0 sp held m e cs = some elems[i] := h1
        rw [List.getElem_map]
        exact hg i (by omega) a' rfl m (by omega) cs elems[i] hc h1)
    rw [List.length_map] at h3
    have : elems.length = n := by omega
    rw [this] at h3
    show _ ≤ Rows.uptoBulk (.slice (elems.map (·.1)) (rest.map (·.1)))
    omega
/-- Cells that are read twice are the same. -/
theorem cells_same {b off k N : Nat} {cs cs' : List Value} (h : w.cells? 0 ((⟨b, off, none⟩ : Addr).add k) N = some cs) (hc : CellsAt w b (off + k) cs') (hl : cs'.length = N) : cs = cs' := by
  obtain ⟨_, hlen, hcell⟩ := World.cells?_some h
  refine List.ext_getElem? fun j => ?_
  by_cases hj : j < N
  · have h1 := hcell (i := j) (by omega)
    rw [Addr.add_add, addr_add] at h1
    have hj' : j < cs'.length := by omega
    have h2 := hc j cs'[j] (List.getElem?_eq_getElem hj')
    rw [← Nat.add_assoc] at h1
    rw [h1] at h2
    rw [List.getElem?_eq_getElem hj', ← h2]
  · rw [List.getElem?_eq_none (by omega), List.getElem?_eq_none (by omega)]
theorem upto_at (f : Nat → Nat) : ∀ (n i : Nat), i < n → f i ≤ upto f n
  | 0, i, h => absurd h (Nat.not_lt_zero _)
  | n + 1, i, h => by
    unfold upto
    rcases Nat.lt_or_ge i n with h1 | h1
    · have := upto_at f n i h1
      omega
    · obtain rfl : i = n := by omega
      omega
set_option maxRecDepth 100000 in
theorem deps_num (S : Nat → Prop) : ∀ (fuel : Nat) (v : Value) (x : DataW H × List MemPlace), DataW.trod enc Tryz.prog w 0 sp held fuel 33 [v] = some x → ∀ n args, DepsV w S n args v → upto (fun j => if h : j < n then nparts (args ⟨j, h⟩) else 0) n + 1 ≤ Rows.uptoBulk x.1 := by
  intro fuel
  induction fuel using Nat.strongRecOn with
  | ind fuel IH =>
  intro v x h n args hv
  obtain ⟨a, c, rfl, _, hin⟩ := hv
  exact slice_bulk Tryz.underlying33 cells85 h (fun i => if hi : i < n then nparts (args ⟨i, hi⟩) else 0) (fun i hi b hb m hm cs y hc hy => by
    simp only [dif_pos hi]
    obtain ⟨b2, off, e, _, hq⟩ := hin (by omega)
    rw [hb] at e
    injection e with e
    subst e
    obtain ⟨cs', hd, hca⟩ := hq ⟨i, hi⟩
    have hcc := cells_same hc hca hd.len
    subst hcc
    generalize args ⟨i, hi⟩ = d at hd ⊢
    cases d with
    | mk k nm op ev n2 args2 =>
    obtain ⟨v2, rfl, _, _, _, hv2⟩ := depC_iff.1 hd
    obtain ⟨xs, m', hm', hx', hcl, hxl, hfs⟩ := DataW.trod_struct Tryz.underlying73 hy
    obtain ⟨x0, x1, x2, x3, x4, rfl⟩ := five (hxl.trans rfl)
    have f4 : DataW.trod enc Tryz.prog w 0 sp held m' 33 ((([.int .i64 k, .string nm, .int .i64 op, .string ev, v2] : List Value).drop 4).take (Tryz.prog.cellsOf 33)) = some x4 := hfs 4 _ rfl
    rw [cells23] at f4
    replace f4 : DataW.trod enc Tryz.prog w 0 sp held m' 33 [v2] = some x4 := f4
    have h4 := IH m' (by omega) v2 x4 f4 n2 args2 hv2
    rw [hx']
    have b0 := bulk_one x0.1
    have b1 := bulk_one x1.1
    have b2 := bulk_one x2.1
    have b3 := bulk_one x3.1
    rw [nparts]
    simp only [List.map_cons, List.map_nil, Rows.uptoBulk, Rows.uptoBulkAll]
    split <;> omega)
theorem deps_each {S : Nat → Prop} {fuel : Nat} {v : Value} {x : DataW H × List MemPlace} (h : DataW.trod enc Tryz.prog w 0 sp held fuel 33 [v] = some x) {n : Nat} {args : Fin n → DepT} (hv : DepsV w S n args v) (i : Fin n) : nparts (args i) ≤ Rows.uptoBulk x.1 := by
  have h1 := deps_num S fuel v x h n args hv
  have h2 := upto_at (fun j => if h : j < n then nparts (args ⟨j, h⟩) else 0) n i.val i.isLt
  have h3 : (if h : i.val < n then nparts (args ⟨i.val, h⟩) else 0) = nparts (args i) := dif_pos i.isLt
  have h4 : nparts (args i) ≤ upto (fun j => if h : j < n then nparts (args ⟨j, h⟩) else 0) n := by rw [← h3]; exact h2
  omega
set_option maxRecDepth 100000 in
theorem pkg_num {S : Nat → Prop} {fuel : Nat} {p : PkgT} {v : Fin 7 → Value} {vf : Value} {x : DataW H × List MemPlace} (h : DataW.trod enc Tryz.prog w 0 sp held fuel 36 (pkgCells p.name p.evr p.arch p.vendor v vf) = some x) (hv : PkgV w S p v vf) : ∀ i, ∀ d ∈ depsL p i, nparts d ≤ Rows.uptoBulk x.1 := by
  obtain ⟨xs, m', hm', hx', hcl, hxl, hfs⟩ := DataW.trod_struct Tryz.underlying36 h
  obtain ⟨x0, x1, x2, x3, x4, x5, x6, x7, x8, x9, x10, x11, rfl⟩ := twelve (hxl.trans rfl)
  have f0 : DataW.trod enc Tryz.prog w 0 sp held m' 33 ((([.string p.name, .string p.evr, .string p.arch, .string p.vendor, v 0, v 1, v 2, v 3, v 4, v 5, v 6, vf] : List Value).drop 4).take (Tryz.prog.cellsOf 33)) = some x4 := hfs 4 _ rfl
  rw [cells23] at f0
  replace f0 : DataW.trod enc Tryz.prog w 0 sp held m' 33 [v 0] = some x4 := f0
  have f1 : DataW.trod enc Tryz.prog w 0 sp held m' 33 ((([.string p.name, .string p.evr, .string p.arch, .string p.vendor, v 0, v 1, v 2, v 3, v 4, v 5, v 6, vf] : List Value).drop 5).take (Tryz.prog.cellsOf 33)) = some x5 := hfs 5 _ rfl
  rw [cells23] at f1
  replace f1 : DataW.trod enc Tryz.prog w 0 sp held m' 33 [v 1] = some x5 := f1
  have f2 : DataW.trod enc Tryz.prog w 0 sp held m' 33 ((([.string p.name, .string p.evr, .string p.arch, .string p.vendor, v 0, v 1, v 2, v 3, v 4, v 5, v 6, vf] : List Value).drop 6).take (Tryz.prog.cellsOf 33)) = some x6 := hfs 6 _ rfl
  rw [cells23] at f2
  replace f2 : DataW.trod enc Tryz.prog w 0 sp held m' 33 [v 2] = some x6 := f2
  have f3 : DataW.trod enc Tryz.prog w 0 sp held m' 33 ((([.string p.name, .string p.evr, .string p.arch, .string p.vendor, v 0, v 1, v 2, v 3, v 4, v 5, v 6, vf] : List Value).drop 7).take (Tryz.prog.cellsOf 33)) = some x7 := hfs 7 _ rfl
  rw [cells23] at f3
  replace f3 : DataW.trod enc Tryz.prog w 0 sp held m' 33 [v 3] = some x7 := f3
  have f4 : DataW.trod enc Tryz.prog w 0 sp held m' 33 ((([.string p.name, .string p.evr, .string p.arch, .string p.vendor, v 0, v 1, v 2, v 3, v 4, v 5, v 6, vf] : List Value).drop 8).take (Tryz.prog.cellsOf 33)) = some x8 := hfs 8 _ rfl
  rw [cells23] at f4
  replace f4 : DataW.trod enc Tryz.prog w 0 sp held m' 33 [v 4] = some x8 := f4
  have f5 : DataW.trod enc Tryz.prog w 0 sp held m' 33 ((([.string p.name, .string p.evr, .string p.arch, .string p.vendor, v 0, v 1, v 2, v 3, v 4, v 5, v 6, vf] : List Value).drop 9).take (Tryz.prog.cellsOf 33)) = some x9 := hfs 9 _ rfl
  rw [cells23] at f5
  replace f5 : DataW.trod enc Tryz.prog w 0 sp held m' 33 [v 5] = some x9 := f5
  have f6 : DataW.trod enc Tryz.prog w 0 sp held m' 33 ((([.string p.name, .string p.evr, .string p.arch, .string p.vendor, v 0, v 1, v 2, v 3, v 4, v 5, v 6, vf] : List Value).drop 10).take (Tryz.prog.cellsOf 33)) = some x10 := hfs 10 _ rfl
  rw [cells23] at f6
  replace f6 : DataW.trod enc Tryz.prog w 0 sp held m' 33 [v 6] = some x10 := f6
  have key : ∀ (i : Fin 7) (y : DataW H × List MemPlace), DataW.trod enc Tryz.prog w 0 sp held m' 33 [v i] = some y → Rows.uptoBulk y.1 ≤ Rows.uptoBulk x.1 → ∀ d ∈ depsL p i, nparts d ≤ Rows.uptoBulk x.1 := fun i y hy hle d hd => by
    unfold depsL at hd
    obtain ⟨j, _, rfl⟩ := List.mem_map.1 hd
    exact Nat.le_trans (deps_each hy (hv.deps i) j) hle
  have hb : ∀ y ∈ [x4, x5, x6, x7, x8, x9, x10], Rows.uptoBulk y.1 ≤ Rows.uptoBulk x.1 := by
    intro y hy
    rw [hx']
    simp only [List.map_cons, List.map_nil, Rows.uptoBulk, Rows.uptoBulkAll]
    simp only [List.mem_cons, List.not_mem_nil, or_false] at hy
    rcases hy with rfl | rfl | rfl | rfl | rfl | rfl | rfl <;> omega
  intro i
  match i with
  | 0 => exact key 0 x4 f0 (hb _ (by simp))
  | 1 => exact key 1 x5 f1 (hb _ (by simp))
  | 2 => exact key 2 x6 f2 (hb _ (by simp))
  | 3 => exact key 3 x7 f3 (hb _ (by simp))
  | 4 => exact key 4 x8 f4 (hb _ (by simp))
  | 5 => exact key 5 x9 f5 (hb _ (by simp))
  | 6 => exact key 6 x10 f6 (hb _ (by simp))
theorem pkgs_num {S : Nat → Prop} {fuel : Nat} {v : Value} {x : DataW H × List MemPlace} (h : DataW.trod enc Tryz.prog w 0 sp held fuel 23 [v] = some x) {ps : List PkgT} (hv : PkgsV w S ps v) : ∀ p ∈ ps, ∀ i, ∀ d ∈ depsL p i, nparts d ≤ Rows.uptoBulk x.1 := by
  obtain ⟨a, c, rfl, _, hin⟩ := hv
  intro p hp i d hd
  obtain ⟨k, hk, rfl⟩ := List.getElem_of_mem hp
  have hne : ps ≠ [] := fun e => by rw [e] at hk; exact absurd hk (Nat.not_lt_zero _)
  have hS := slice_bulk Tryz.underlying23 cells26 h (fun j => if j = k then nparts d else 0) (fun j hj b hb m hm cs y hc hy => by
    by_cases e : j = k
    · subst e
      rw [if_pos rfl]
      obtain ⟨b2, off, e2, _, hq⟩ := hin hne
      rw [hb] at e2
      injection e2 with e2
      subst e2
      obtain ⟨v2, vf2, hpv, hca⟩ := hq j hj
      have hcc := cells_same hc hca rfl
      subst hcc
      exact pkg_num hy hpv i d hd
    · rw [if_neg e]
      exact Nat.zero_le _)
  have h2 := upto_at (fun j => if j = k then nparts d else 0) ps.length k hk
  have h3 : (if k = k then nparts d else 0) = nparts d := if_pos rfl
  have h4 : nparts d ≤ upto (fun j => if j = k then nparts d else 0) ps.length := Nat.le_trans (Nat.le_of_eq h3.symm) h2
  omega
end
/-- The types of a program: those of a type are among them, none is large. -/
structure TypesOk (P : Program) (N : Nat) : Prop where
  bytes : ∀ t, t < N → P.bytesOf t ≤ 65536
  slice : ∀ t e, t < N → P.underlying t = some (.slice e) → e < N
  ptr : ∀ t e, t < N → P.underlying t = some (.pointer e) → e < N
  arr : ∀ t n e, t < N → P.underlying t = some (.array n e) → e < N
  map : ∀ t k e, t < N → P.underlying t = some (.map k e) → k < N ∧ e < N
  struct : ∀ t fs, t < N → P.underlying t = some (.struct fs) → ∀ x ∈ fs.toList.map (·.type), x < N
def typeOkB (P : Program) (N t : Nat) : Bool := decide (P.bytesOf t ≤ 65536) && match P.underlying t with
  | some (.slice e) => decide (e < N)
  | some (.pointer e) => decide (e < N)
  | some (.array _ e) => decide (e < N)
  | some (.map k e) => decide (k < N) && decide (e < N)
  | some (.struct fs) => (fs.toList.map (·.type)).all fun x => decide (x < N)
  | _ => true
theorem typesOk_of {P : Program} {N : Nat} (h : (List.range N).all (typeOkB P N) = true) : TypesOk P N := by
  have h1 : ∀ t, t < N → typeOkB P N t = true := fun t ht => List.all_eq_true.1 h t (List.mem_range.2 ht)
  unfold typeOkB at h1
  refine ⟨fun t ht => ?_, fun t e ht hu => ?_, fun t e ht hu => ?_, fun t n e ht hu => ?_, fun t k e ht hu => ?_, fun t fs ht hu x hx => ?_⟩
  · have := h1 t ht
    rw [Bool.and_eq_true] at this
    simpa using this.1
  all_goals
    have := h1 t ht
    rw [hu] at this
    simp only [Bool.and_eq_true, decide_eq_true_eq, List.all_eq_true] at this
  · exact this.2
  · exact this.2
  · exact this.2
  · exact this.2
  · exact this.2 x hx
set_option maxRecDepth 100000 in
theorem types_ok : TypesOk Tryz.prog Tryz.prog.types.size := typesOk_of (by kernel_rfl)
mutual
theorem w_small {H : Type} {P : Program} {N : Nat} (hP : TypesOk P N) : ∀ (d : DataW H) (t : TypeId), t < N → ∀ z ∈ d.weights P t, z ≤ 131072 * Rows.uptoBulk d
  | .lit (.string bytes), t, ht, z, hz => by
    simp only [DataW.weights, List.mem_singleton] at hz
    simp only [Rows.uptoBulk]
    omega
  | .lit (.bool b), t, ht, z, hz => by simp [DataW.weights] at hz
  | .lit (.int k n), t, ht, z, hz => by simp [DataW.weights] at hz
  | .lit .nil, t, ht, z, hz => by simp [DataW.weights] at hz
  | .lit (.float k n), t, ht, z, hz => by simp [DataW.weights] at hz
  | .nil, t, ht, z, hz => by simp [DataW.weights] at hz
  | .held _, t, ht, z, hz => by simp [DataW.weights] at hz
  | .iface _ _, t, ht, z, hz => by simp [DataW.weights] at hz
  | .ptr d, t, ht, z, hz => by
    simp only [DataW.weights] at hz
    simp only [Rows.uptoBulk]
    split at hz
    · rename_i e he
      have := w_small hP d _ (hP.ptr t e ht he) z hz
      omega
    · cases hz
  | .slice elems spare, t, ht, z, hz => by
    simp only [DataW.weights] at hz
    simp only [Rows.uptoBulk]
    split at hz
    · rename_i e he
      have hee := hP.slice t e ht he
      rcases List.mem_cons.1 hz with rfl | hz
      · have h1 := bulk_length elems
        have h2 := bulk_length spare
        have h3 := hP.bytes e hee
        have h4 := Nat.mul_le_mul_left (elems.length + spare.length) h3
        generalize (elems.length + spare.length) * P.bytesOf e = y at h4 ⊢
        omega
      · rcases List.mem_append.1 hz with hz | hz
        · have := w_all hP elems e hee z hz
          omega
        · have := w_all hP spare e hee z hz
          omega
    · cases hz
  | .agg parts, t, ht, z, hz => by
    simp only [DataW.weights] at hz
    simp only [Rows.uptoBulk]
    split at hz
    · rename_i fs he
      have := w_each hP _ parts (hP.struct t fs ht he) z hz
      omega
    · rename_i n e he
      have := w_all hP parts _ (hP.arr t n e ht he) z hz
      omega
    · cases hz
  | .map entries, t, ht, z, hz => by
    simp only [DataW.weights] at hz
    simp only [Rows.uptoBulk]
    split at hz
    · rename_i k e he
      obtain ⟨hkk, hee⟩ := hP.map t k e ht he
      rcases List.mem_cons.1 hz with rfl | hz
      · have h1 := w_count entries
        have h3 := hP.bytes e hee
        have h5 := hP.bytes k hkk
        have h6 : P.bytesOf k + P.bytesOf e ≤ 131072 := by
          generalize P.bytesOf k = y1 at h5 ⊢
          generalize P.bytesOf e = y2 at h3 ⊢
          omega
        have h4 := Nat.mul_le_mul_left entries.length h6
        generalize entries.length * (P.bytesOf k + P.bytesOf e) = y at h4 ⊢
        clear h3 h5 h6
        omega
      · have := w_entries hP entries e hee z hz
        omega
    · cases hz
theorem w_all {H : Type} {P : Program} {N : Nat} (hP : TypesOk P N) : ∀ (l : List (DataW H)) (e : TypeId), e < N → ∀ z ∈ DataW.weightsAll P e l, z ≤ 131072 * Rows.uptoBulkAll l
  | [], e, ht, z, hz => by simp [DataW.weightsAll] at hz
  | d :: r, e, ht, z, hz => by
    simp only [DataW.weightsAll, List.mem_append] at hz
    simp only [Rows.uptoBulkAll]
    rcases hz with hz | hz
    · have := w_small hP d e ht z hz
      omega
    · have := w_all hP r e ht z hz
      omega
theorem w_each {H : Type} {P : Program} {N : Nat} (hP : TypesOk P N) : ∀ (ts : List TypeId) (l : List (DataW H)), (∀ x ∈ ts, x < N) → ∀ z ∈ DataW.weightsEach P ts l, z ≤ 131072 * Rows.uptoBulkAll l
  | [], l, ht, z, hz => by simp [DataW.weightsEach] at hz
  | t :: ts, [], ht, z, hz => by simp [DataW.weightsEach] at hz
  | t :: ts, d :: r, ht, z, hz => by
    simp only [DataW.weightsEach, List.mem_append] at hz
    simp only [Rows.uptoBulkAll]
    rcases hz with hz | hz
    · have := w_small hP d t (ht t (by simp)) z hz
      omega
    · have := w_each hP ts r (fun x hx => ht x (List.mem_cons_of_mem _ hx)) z hz
      omega
theorem w_count {H : Type} : ∀ (l : List (Lit × DataW H)), l.length ≤ Rows.uptoBulkEntries l
  | [] => by simp
  | x :: r => by
    have := w_count r
    have h2 : 1 ≤ Rows.uptoBulkEntry x := by
      obtain ⟨k, d⟩ := x
      cases k <;> simp [Rows.uptoBulkEntry]
    simp only [Rows.uptoBulkEntries, List.length_cons]
    omega
theorem w_entries {H : Type} {P : Program} {N : Nat} (hP : TypesOk P N) : ∀ (l : List (Lit × DataW H)) (e : TypeId), e < N → ∀ z ∈ DataW.weightsEntries P e l, z ≤ 131072 * Rows.uptoBulkEntries l
  | [], e, ht, z, hz => by simp [DataW.weightsEntries] at hz
  | (k, d) :: r, e, ht, z, hz => by
    simp only [DataW.weightsEntries, List.mem_append] at hz
    simp only [Rows.uptoBulkEntries]
    rcases hz with hz | hz
    · have h1 := w_small hP d e ht
      cases k with
      | string bytes =>
        simp only [DataW.weightsEntry, List.mem_cons] at hz
        simp only [Rows.uptoBulkEntry]
        rcases hz with rfl | hz
        · omega
        · have := h1 z hz
          omega
      | _ =>
        simp only [DataW.weightsEntry] at hz
        simp only [Rows.uptoBulkEntry]
        have := h1 z hz
        omega
    · have := w_entries hP r e ht z hz
      omega
end
/-- What is of bulk at most 2^20 takes no more than can be reached. -/
theorem weights_reach {H : Type} {d : DataW H} {t : TypeId} (h : Rows.uptoBulk d ≤ 1048576) (ht : t < Tryz.prog.types.size) : ∀ z ∈ d.weights Tryz.prog t, z ≤ reachBytes := fun z hz => by
  have h1 := w_small types_ok d t ht z hz
  have : reachBytes = 140737488351232 := rfl
  omega
end Go.Proofs.YtjcefgjgjhdbpaaGreatDoor
