/-
  A package that came in. Helper text; the conditions are those typed.
  Repositories that came in. Helper text; the conditions are those typed.
-/
import Derived.Test.YtbdankpkdhhlmaaGreatAddB
import Derived.SizedLaws
import Derived.OpenShut
namespace Go.Proofs.YtbdankpkdhhlmaaGreat
set_option linter.unusedVariables false
set_option linter.unusedSimpArgs false
open Go.ChangeShapes Go.WideShapes Go.RowKit Go.Maps

theorem twelve {α : Type} {l : List α} (h : l.length = 12) : ∃ c0 c1 c2 c3 c4 c5 c6 c7 c8 c9 c10 c11, l = [c0, c1, c2, c3, c4, c5, c6, c7, c8, c9, c10, c11] := by
  match l, h with
  | [c0, c1, c2, c3, c4, c5, c6, c7, c8, c9, c10, c11], _ => exact ⟨c0, c1, c2, c3, c4, c5, c6, c7, c8, c9, c10, c11, rfl⟩
theorem cells24 : Tryz.prog.cellsOf 43 = 1 := by kernel_rfl
theorem cells26 : Tryz.prog.cellsOf 45 = 12 := by kernel_rfl
theorem bytes9 : Tryz.prog.bytesOf 9 = 16 := by kernel_rfl
theorem bytes26 : Tryz.prog.bytesOf 45 = 256 := by kernel_rfl

section
variable {H : Type} {enc : TypeId × Value → H} {w : World} {sp : Nat → Bool} {held : Bool}
theorem open_text {fuel : Nat} {c : Value} {x : DataW H × List MemPlace} (h : DataW.trod enc Tryz.prog w 0 sp held fuel 9 [c] = some x) (hz : ∀ z ∈ x.1.weights Tryz.prog 9, z ≤ reachBytes) : ∃ s : ByteArray, c = .string s ∧ s.size ≤ maxLen ∧ s.size ≤ reachBytes := by
  obtain ⟨s, e, hx, h1⟩ := DataW.trod_string Tryz.underlying9 h
  simp only [List.cons.injEq, and_true] at e
  subst e
  refine ⟨s, rfl, h1, hz _ ?_⟩
  rw [hx]
  simp [DataW.weights]
theorem open_texts {fuel : Nat} {c : Value} {x : DataW H × List MemPlace} (h : DataW.trod enc Tryz.prog w 0 sp held fuel 43 [c] = some x) (hz : ∀ z ∈ x.1.weights Tryz.prog 43, z ≤ reachBytes) : ∃ l, StrsV w (· < w.heap.size) l c := by
  rcases DataW.trod_slice Tryz.underlying43 h with ⟨e, _⟩ | ⟨a, len, cap, elems, rest, m, hf, hcs, hx, _, hl, hm, hle, he, _, _⟩
  · simp only [List.cons.injEq, and_true] at e
    subst e
    exact ⟨[], none, 0, rfl, by simp, by decide, fun h => absurd rfl h⟩
  · simp only [List.cons.injEq, and_true] at hcs
    subst hcs
    have hw1 : (elems.length + rest.length) * 16 ≤ reachBytes := by
      have := hz ((elems.length + rest.length) * Tryz.prog.bytesOf 9) (by rw [hx]; simp [DataW.weights, Tryz.underlying43])
      rwa [bytes9] at this
    have hbulk : len * 16 ≤ 140737488355328 := by
      have : reachBytes = 140737488351232 := rfl
      omega
    have hone : ∀ i, i < len → ∃ s : ByteArray, s.size ≤ maxLen ∧ w.cell? (a.add i) = some (.string s) := by
      intro i hi
      have h1 := he i hi
      rw [cells9] at h1
      have hel : i < elems.length := by omega
      rw [List.getElem?_eq_getElem hel, Nat.mul_one] at h1
      cases hc : w.cells? 0 (a.add i) 1 with
      | none => rw [hc] at h1; cases h1
      | some cs =>
        rw [hc] at h1
        replace h1 : DataW.trod enc Tryz.prog w 0 sp held m 9 cs = some elems[i] := h1
        obtain ⟨_, hlen, hcell⟩ := World.cells?_some hc
        obtain ⟨s, e, _, h3⟩ := DataW.trod_string Tryz.underlying9 h1
        subst e
        refine ⟨s, h3, ?_⟩
        have := hcell (i := 0) (by omega)
        rw [Addr.add_add] at this
        exact this
    by_cases h0 : len = 0
    · subst h0
      exact ⟨[], some a, cap, rfl, by simp, by decide, fun h => absurd rfl h⟩
    · obtain ⟨b, off, ea, hb⟩ : ∃ b off, a = ⟨b, off, none⟩ ∧ b < w.heap.size := by
        obtain ⟨s, _, hc⟩ := hone 0 (by omega)
        exact spot_none hc rfl
      subst ea
      have hone' : ∀ i, i < len → ∃ s : ByteArray, s.size ≤ maxLen ∧ w.cell? ⟨b, off + i, none⟩ = some (.string s) := fun i hi => by
        obtain ⟨s, h1, h2⟩ := hone i hi
        exact ⟨s, h1, by rwa [addr_add] at h2⟩
      refine ⟨(List.finRange len).map (fun i : Fin len => (hone' i.val i.2).choose), some ⟨b, off, none⟩, cap, by simp, ?_, by simpa using hbulk, fun _ => ⟨b, off, rfl, hb, fun i hi => ?_⟩⟩
      · intro s hs
        obtain ⟨i, _, rfl⟩ := List.mem_map.1 hs
        exact (hone' i.val i.2).choose_spec.1
      · have hi' : i < len := by simpa using hi
        have := (hone' i hi').choose_spec.2
        simpa using this
theorem open_pkg {fuel : Nat} {cs : List Value} {x : DataW H × List MemPlace} (h : DataW.trod enc Tryz.prog w 0 sp held fuel 45 cs = some x) (hz : ∀ z ∈ x.1.weights Tryz.prog 45, z ≤ reachBytes) :
    ∃ p v vf, cs = pkgCells p.name p.evr p.arch p.vendor v vf ∧ PkgV w (· < w.heap.size) p v vf ∧ p.name.size ≤ reachBytes ∧ p.evr.size ≤ reachBytes ∧ p.arch.size ≤ reachBytes := by
  obtain ⟨xs, m', hm', hx', hcl, hxl, hfs⟩ := DataW.trod_struct Tryz.underlying45 h
  rw [cells26] at hcl
  obtain ⟨c0, c1, c2, c3, c4, c5, c6, c7, c8, c9, c10, c11, rfl⟩ := twelve hcl
  obtain ⟨x0, x1, x2, x3, x4, x5, x6, x7, x8, x9, x10, x11, rfl⟩ := twelve (hxl.trans rfl)
  have f0 : DataW.trod enc Tryz.prog w 0 sp held m' 9 ((([c0, c1, c2, c3, c4, c5, c6, c7, c8, c9, c10, c11] : List Value).drop 0).take (Tryz.prog.cellsOf 9)) = some x0 := hfs 0 _ rfl
  rw [cells9] at f0
  replace f0 : DataW.trod enc Tryz.prog w 0 sp held m' 9 [c0] = some x0 := f0
  have z0 : ∀ z ∈ x0.1.weights Tryz.prog 9, z ≤ reachBytes := fun z hz' => hz z (by
    rw [hx']
    simp only [DataW.weights, Tryz.underlying45]
    exact DataW.weights_mem_each (j := 0) (t := 9) (d := x0.1) rfl rfl z hz')
  have f1 : DataW.trod enc Tryz.prog w 0 sp held m' 9 ((([c0, c1, c2, c3, c4, c5, c6, c7, c8, c9, c10, c11] : List Value).drop 1).take (Tryz.prog.cellsOf 9)) = some x1 := hfs 1 _ rfl
  rw [cells9] at f1
  replace f1 : DataW.trod enc Tryz.prog w 0 sp held m' 9 [c1] = some x1 := f1
  have z1 : ∀ z ∈ x1.1.weights Tryz.prog 9, z ≤ reachBytes := fun z hz' => hz z (by
    rw [hx']
    simp only [DataW.weights, Tryz.underlying45]
    exact DataW.weights_mem_each (j := 1) (t := 9) (d := x1.1) rfl rfl z hz')
  have f2 : DataW.trod enc Tryz.prog w 0 sp held m' 9 ((([c0, c1, c2, c3, c4, c5, c6, c7, c8, c9, c10, c11] : List Value).drop 2).take (Tryz.prog.cellsOf 9)) = some x2 := hfs 2 _ rfl
  rw [cells9] at f2
  replace f2 : DataW.trod enc Tryz.prog w 0 sp held m' 9 [c2] = some x2 := f2
  have z2 : ∀ z ∈ x2.1.weights Tryz.prog 9, z ≤ reachBytes := fun z hz' => hz z (by
    rw [hx']
    simp only [DataW.weights, Tryz.underlying45]
    exact DataW.weights_mem_each (j := 2) (t := 9) (d := x2.1) rfl rfl z hz')
  have f3 : DataW.trod enc Tryz.prog w 0 sp held m' 9 ((([c0, c1, c2, c3, c4, c5, c6, c7, c8, c9, c10, c11] : List Value).drop 3).take (Tryz.prog.cellsOf 9)) = some x3 := hfs 3 _ rfl
  rw [cells9] at f3
  replace f3 : DataW.trod enc Tryz.prog w 0 sp held m' 9 [c3] = some x3 := f3
  have z3 : ∀ z ∈ x3.1.weights Tryz.prog 9, z ≤ reachBytes := fun z hz' => hz z (by
    rw [hx']
    simp only [DataW.weights, Tryz.underlying45]
    exact DataW.weights_mem_each (j := 3) (t := 9) (d := x3.1) rfl rfl z hz')
  have f4 : DataW.trod enc Tryz.prog w 0 sp held m' 42 ((([c0, c1, c2, c3, c4, c5, c6, c7, c8, c9, c10, c11] : List Value).drop 4).take (Tryz.prog.cellsOf 42)) = some x4 := hfs 4 _ rfl
  rw [cells23] at f4
  replace f4 : DataW.trod enc Tryz.prog w 0 sp held m' 42 [c4] = some x4 := f4
  have z4 : ∀ z ∈ x4.1.weights Tryz.prog 42, z ≤ reachBytes := fun z hz' => hz z (by
    rw [hx']
    simp only [DataW.weights, Tryz.underlying45]
    exact DataW.weights_mem_each (j := 4) (t := 42) (d := x4.1) rfl rfl z hz')
  have f5 : DataW.trod enc Tryz.prog w 0 sp held m' 42 ((([c0, c1, c2, c3, c4, c5, c6, c7, c8, c9, c10, c11] : List Value).drop 5).take (Tryz.prog.cellsOf 42)) = some x5 := hfs 5 _ rfl
  rw [cells23] at f5
  replace f5 : DataW.trod enc Tryz.prog w 0 sp held m' 42 [c5] = some x5 := f5
  have z5 : ∀ z ∈ x5.1.weights Tryz.prog 42, z ≤ reachBytes := fun z hz' => hz z (by
    rw [hx']
    simp only [DataW.weights, Tryz.underlying45]
    exact DataW.weights_mem_each (j := 5) (t := 42) (d := x5.1) rfl rfl z hz')
  have f6 : DataW.trod enc Tryz.prog w 0 sp held m' 42 ((([c0, c1, c2, c3, c4, c5, c6, c7, c8, c9, c10, c11] : List Value).drop 6).take (Tryz.prog.cellsOf 42)) = some x6 := hfs 6 _ rfl
  rw [cells23] at f6
  replace f6 : DataW.trod enc Tryz.prog w 0 sp held m' 42 [c6] = some x6 := f6
  have z6 : ∀ z ∈ x6.1.weights Tryz.prog 42, z ≤ reachBytes := fun z hz' => hz z (by
    rw [hx']
    simp only [DataW.weights, Tryz.underlying45]
    exact DataW.weights_mem_each (j := 6) (t := 42) (d := x6.1) rfl rfl z hz')
  have f7 : DataW.trod enc Tryz.prog w 0 sp held m' 42 ((([c0, c1, c2, c3, c4, c5, c6, c7, c8, c9, c10, c11] : List Value).drop 7).take (Tryz.prog.cellsOf 42)) = some x7 := hfs 7 _ rfl
  rw [cells23] at f7
  replace f7 : DataW.trod enc Tryz.prog w 0 sp held m' 42 [c7] = some x7 := f7
  have z7 : ∀ z ∈ x7.1.weights Tryz.prog 42, z ≤ reachBytes := fun z hz' => hz z (by
    rw [hx']
    simp only [DataW.weights, Tryz.underlying45]
    exact DataW.weights_mem_each (j := 7) (t := 42) (d := x7.1) rfl rfl z hz')
  have f8 : DataW.trod enc Tryz.prog w 0 sp held m' 42 ((([c0, c1, c2, c3, c4, c5, c6, c7, c8, c9, c10, c11] : List Value).drop 8).take (Tryz.prog.cellsOf 42)) = some x8 := hfs 8 _ rfl
  rw [cells23] at f8
  replace f8 : DataW.trod enc Tryz.prog w 0 sp held m' 42 [c8] = some x8 := f8
  have z8 : ∀ z ∈ x8.1.weights Tryz.prog 42, z ≤ reachBytes := fun z hz' => hz z (by
    rw [hx']
    simp only [DataW.weights, Tryz.underlying45]
    exact DataW.weights_mem_each (j := 8) (t := 42) (d := x8.1) rfl rfl z hz')
  have f9 : DataW.trod enc Tryz.prog w 0 sp held m' 42 ((([c0, c1, c2, c3, c4, c5, c6, c7, c8, c9, c10, c11] : List Value).drop 9).take (Tryz.prog.cellsOf 42)) = some x9 := hfs 9 _ rfl
  rw [cells23] at f9
  replace f9 : DataW.trod enc Tryz.prog w 0 sp held m' 42 [c9] = some x9 := f9
  have z9 : ∀ z ∈ x9.1.weights Tryz.prog 42, z ≤ reachBytes := fun z hz' => hz z (by
    rw [hx']
    simp only [DataW.weights, Tryz.underlying45]
    exact DataW.weights_mem_each (j := 9) (t := 42) (d := x9.1) rfl rfl z hz')
  have f10 : DataW.trod enc Tryz.prog w 0 sp held m' 42 ((([c0, c1, c2, c3, c4, c5, c6, c7, c8, c9, c10, c11] : List Value).drop 10).take (Tryz.prog.cellsOf 42)) = some x10 := hfs 10 _ rfl
  rw [cells23] at f10
  replace f10 : DataW.trod enc Tryz.prog w 0 sp held m' 42 [c10] = some x10 := f10
  have z10 : ∀ z ∈ x10.1.weights Tryz.prog 42, z ≤ reachBytes := fun z hz' => hz z (by
    rw [hx']
    simp only [DataW.weights, Tryz.underlying45]
    exact DataW.weights_mem_each (j := 10) (t := 42) (d := x10.1) rfl rfl z hz')
  have f11 : DataW.trod enc Tryz.prog w 0 sp held m' 43 ((([c0, c1, c2, c3, c4, c5, c6, c7, c8, c9, c10, c11] : List Value).drop 11).take (Tryz.prog.cellsOf 43)) = some x11 := hfs 11 _ rfl
  rw [cells24] at f11
  replace f11 : DataW.trod enc Tryz.prog w 0 sp held m' 43 [c11] = some x11 := f11
  have z11 : ∀ z ∈ x11.1.weights Tryz.prog 43, z ≤ reachBytes := fun z hz' => hz z (by
    rw [hx']
    simp only [DataW.weights, Tryz.underlying45]
    exact DataW.weights_mem_each (j := 11) (t := 43) (d := x11.1) rfl rfl z hz')
  obtain ⟨nm, rfl, n1, n2⟩ := open_text f0 z0
  obtain ⟨ev, rfl, e1, e2⟩ := open_text f1 z1
  obtain ⟨ar, rfl, a1, a2⟩ := open_text f2 z2
  obtain ⟨ve, rfl, v1, v2⟩ := open_text f3 z3
  obtain ⟨fs, hfs'⟩ := open_texts f11 z11
  have hd : ∀ i : Fin 7, ∃ n args, DepsV w (· < w.heap.size) n args (([c4, c5, c6, c7, c8, c9, c10] : List Value)[i]) := by
    intro i
    match i with
    | 0 => exact open_deps _ _ _ f4 z4
    | 1 => exact open_deps _ _ _ f5 z5
    | 2 => exact open_deps _ _ _ f6 z6
    | 3 => exact open_deps _ _ _ f7 z7
    | 4 => exact open_deps _ _ _ f8 z8
    | 5 => exact open_deps _ _ _ f9 z9
    | 6 => exact open_deps _ _ _ f10 z10
  exact ⟨⟨nm, ev, ar, ve, fun i => (hd i).choose, fun i => (hd i).choose_spec.choose, fs⟩, fun i => ([c4, c5, c6, c7, c8, c9, c10] : List Value)[i], c11, rfl, ⟨n1, e1, a1, v1, fun i => (hd i).choose_spec.choose_spec, hfs'⟩, n2, e2, a2⟩
end
end Go.Proofs.YtbdankpkdhhlmaaGreat
namespace Go.Proofs.YtbdankpkdhhlmaaGreat
set_option linter.unusedVariables false
set_option linter.unusedSimpArgs false
open Go.ChangeShapes Go.WideShapes Go.RowKit Go.Maps

theorem cells32 : Tryz.prog.cellsOf 38 = 1 := by kernel_rfl
theorem cells4 : Tryz.prog.cellsOf 4 = 1 := by kernel_rfl
theorem cells34 : Tryz.prog.cellsOf 40 = 4 := by kernel_rfl
theorem bytes34 : Tryz.prog.bytesOf 40 = 56 := by kernel_rfl
theorem four {α : Type} {l : List α} (h : l.length = 4) : ∃ a b c d, l = [a, b, c, d] := by
  match l, h with
  | [a, b, c, d], _ => exact ⟨a, b, c, d, rfl⟩

/-- A package's texts are no longer than memory. -/
def Fits (p : PkgT) : Prop := p.name.size ≤ reachBytes ∧ p.evr.size ≤ reachBytes ∧ p.arch.size ≤ reachBytes
section
variable {H : Type} {enc : TypeId × Value → H} {w : World} {sp : Nat → Bool} {held : Bool}
set_option maxRecDepth 100000 in
theorem open_pkgs {fuel : Nat} {c : Value} {x : DataW H × List MemPlace} (h : DataW.trod enc Tryz.prog w 0 sp held fuel 38 [c] = some x) (hz : ∀ z ∈ x.1.weights Tryz.prog 38, z ≤ reachBytes) : ∃ l, PkgsV w (· < w.heap.size) l c ∧ ∀ p ∈ l, Fits p := by
  rcases DataW.trod_slice Tryz.underlying38 h with ⟨e, _⟩ | ⟨a, len, cap, elems, rest, m, hf, hcs, hx, _, hl, hm, hle, he, _, _⟩
  · simp only [List.cons.injEq, and_true] at e
    subst e
    exact ⟨[], ⟨none, 0, rfl, by simp, fun h => absurd rfl h⟩, fun p hp => by cases hp⟩
  · simp only [List.cons.injEq, and_true] at hcs
    subst hcs
    have hw1 : (elems.length + rest.length) * 256 ≤ reachBytes := by
      have := hz ((elems.length + rest.length) * Tryz.prog.bytesOf 45) (by rw [hx]; simp only [DataW.weights, Tryz.underlying38]; rw [List.length_map, List.length_map]; exact List.mem_cons_self)
      generalize (elems.length + rest.length) = n at this ⊢
      rw [bytes26] at this
      exact this
    have hbulk : len * 256 ≤ 140737488355328 := by
      have : reachBytes = 140737488351232 := rfl
      omega
    have hone : ∀ i, i < len → ∃ p v vf, PkgV w (· < w.heap.size) p v vf ∧ Fits p ∧ ∀ j u, (pkgCells p.name p.evr p.arch p.vendor v vf)[j]? = some u → w.cell? (a.add (i * 12 + j)) = some u := by
      intro i hi
      have h1 := he i hi
      rw [cells26] at h1
      have hel : i < elems.length := by omega
      rw [List.getElem?_eq_getElem hel] at h1
      cases hc : w.cells? 0 (a.add (i * 12)) 12 with
      | none => rw [hc] at h1; cases h1
      | some cs =>
        rw [hc] at h1
        replace h1 : DataW.trod enc Tryz.prog w 0 sp held m 45 cs = some elems[i] := h1
        obtain ⟨_, hlen, hcell⟩ := World.cells?_some hc
        obtain ⟨p, v, vf, rfl, hp, s1, s2, s3⟩ := open_pkg h1 (fun z hz' => hz z (by
          rw [hx]
          simp only [DataW.weights, Tryz.underlying38, List.mem_cons, List.mem_append]
          right; left
          exact weights_all (List.mem_map_of_mem (List.getElem_mem hel)) z hz'))
        refine ⟨p, v, vf, hp, ⟨s1, s2, s3⟩, fun j u hj => ?_⟩
        have hj12 : j < 12 := (List.getElem?_eq_some_iff.1 hj).1
        have := hcell (i := j) hj12
        rw [hj] at this
        rw [← this, Addr.add_add]
    by_cases h0 : len = 0
    · subst h0
      exact ⟨[], ⟨some a, cap, rfl, by simp, fun h => absurd rfl h⟩, fun p hp => by cases hp⟩
    · obtain ⟨b, off, ea, hb⟩ : ∃ b off, a = ⟨b, off, none⟩ ∧ b < w.heap.size := by
        obtain ⟨p, v, vf, _, _, hc⟩ := hone 0 (by omega)
        exact spot_none (hc 0 _ rfl) rfl
      subst ea
      have hone' : ∀ i, i < len → ∃ p, (∃ v vf, PkgV w (· < w.heap.size) p v vf ∧ CellsAt w b (off + i * 12) (pkgCells p.name p.evr p.arch p.vendor v vf)) ∧ Fits p := fun i hi => by
        obtain ⟨p, v, vf, h1, h2, h3⟩ := hone i hi
        refine ⟨p, ⟨v, vf, h1, fun j u hj => ?_⟩, h2⟩
        have := h3 j u hj
        rw [addr_add] at this
        rwa [Nat.add_assoc]
      refine ⟨(List.finRange len).map (fun i : Fin len => (hone' i.val i.2).choose), ⟨some ⟨b, off, none⟩, cap, by simp, by simpa using hbulk, fun _ => ⟨b, off, rfl, hb, fun i hi => ?_⟩⟩, fun p hp => ?_⟩
      · have hi' : i < len := by simpa using hi
        have := (hone' i hi').choose_spec.1
        simpa using this
      · obtain ⟨i, _, rfl⟩ := List.mem_map.1 hp
        exact (hone' i.val i.2).choose_spec.2
theorem open_repo {fuel : Nat} {cs : List Value} {x : DataW H × List MemPlace} (h : DataW.trod enc Tryz.prog w 0 sp held fuel 40 cs = some x) (hz : ∀ z ∈ x.1.weights Tryz.prog 40, z ≤ reachBytes) :
    ∃ (r : RepoT) (a : Option Addr) (n c : Nat), cs = [.string r.name, .int .i64 r.prio, .bool r.inst, .slice a n c] ∧ PkgsV w (· < w.heap.size) r.pkgs (.slice a n c) ∧ (∀ p ∈ r.pkgs, Fits p) ∧ r.name.size ≤ maxLen := by
  obtain ⟨xs, m', hm', hx', hcl, hxl, hfs⟩ := DataW.trod_struct Tryz.underlying40 h
  rw [cells34] at hcl
  obtain ⟨c0, c1, c2, c3, rfl⟩ := four hcl
  obtain ⟨x0, x1, x2, x3, rfl⟩ := four (hxl.trans rfl)
  have f0 : DataW.trod enc Tryz.prog w 0 sp held m' 9 ((([c0, c1, c2, c3] : List Value).drop 0).take (Tryz.prog.cellsOf 9)) = some x0 := hfs 0 _ rfl
  rw [cells9] at f0
  replace f0 : DataW.trod enc Tryz.prog w 0 sp held m' 9 [c0] = some x0 := f0
  have f1 : DataW.trod enc Tryz.prog w 0 sp held m' 3 ((([c0, c1, c2, c3] : List Value).drop 1).take (Tryz.prog.cellsOf 3)) = some x1 := hfs 1 _ rfl
  rw [cells3] at f1
  replace f1 : DataW.trod enc Tryz.prog w 0 sp held m' 3 [c1] = some x1 := f1
  have f2 : DataW.trod enc Tryz.prog w 0 sp held m' 4 ((([c0, c1, c2, c3] : List Value).drop 2).take (Tryz.prog.cellsOf 4)) = some x2 := hfs 2 _ rfl
  rw [cells4] at f2
  replace f2 : DataW.trod enc Tryz.prog w 0 sp held m' 4 [c2] = some x2 := f2
  have f3 : DataW.trod enc Tryz.prog w 0 sp held m' 38 ((([c0, c1, c2, c3] : List Value).drop 3).take (Tryz.prog.cellsOf 38)) = some x3 := hfs 3 _ rfl
  rw [cells32] at f3
  replace f3 : DataW.trod enc Tryz.prog w 0 sp held m' 38 [c3] = some x3 := f3
  obtain ⟨nm, e0, _, s0⟩ := DataW.trod_string Tryz.underlying9 f0
  obtain ⟨pr, e1, _, _⟩ := DataW.trod_int Tryz.underlying3 f1
  obtain ⟨ins, e2, _⟩ := DataW.trod_bool Tryz.underlying4 f2
  simp only [List.cons.injEq, and_true] at e0 e1 e2
  subst e0 e1 e2
  obtain ⟨l, hl, hfit⟩ := open_pkgs f3 (fun z hz' => hz z (by
    rw [hx']
    simp only [DataW.weights, Tryz.underlying40]
    exact DataW.weights_mem_each (j := 3) (t := 38) (d := x3.1) rfl rfl z hz'))
  have hl' := hl
  obtain ⟨a, c, rfl, _⟩ := hl'
  exact ⟨⟨nm, pr, ins, l⟩, a, _, c, rfl, hl, hfit, s0⟩
end
end Go.Proofs.YtbdankpkdhhlmaaGreat
