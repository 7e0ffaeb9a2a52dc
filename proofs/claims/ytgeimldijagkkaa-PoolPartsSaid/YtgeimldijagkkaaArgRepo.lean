/-
  Repositories that came in. Helper text; the conditions are those typed.
-/
import Derived.Test.YtgeimldijagkkaaArgPkg
namespace Go.Proofs.Ytgeimldijagkkaa
set_option linter.unusedVariables false
set_option linter.unusedSimpArgs false
open Go.ChangeShapes Go.WideShapes Go.RowKit Go.Maps

theorem cells32 : Try.prog.cellsOf 32 = 1 := by kernel_rfl
theorem cells4 : Try.prog.cellsOf 4 = 1 := by kernel_rfl
theorem cells34 : Try.prog.cellsOf 34 = 4 := by kernel_rfl
theorem bytes34 : Try.prog.bytesOf 34 = 56 := by kernel_rfl
theorem four {α : Type} {l : List α} (h : l.length = 4) : ∃ a b c d, l = [a, b, c, d] := by
  match l, h with
  | [a, b, c, d], _ => exact ⟨a, b, c, d, rfl⟩

/-- A package's texts are no longer than memory. -/
def Fits (p : PkgT) : Prop := p.name.size ≤ reachBytes ∧ p.evr.size ≤ reachBytes ∧ p.arch.size ≤ reachBytes
section
variable {H : Type} {enc : TypeId × Value → H} {w : World} {sp : Nat → Bool} {held : Bool}
set_option maxRecDepth 100000 in
theorem open_pkgs {fuel : Nat} {c : Value} {x : DataW H × List MemPlace} (h : DataW.trod enc Try.prog w 0 sp held fuel 32 [c] = some x) (hz : ∀ z ∈ x.1.weights Try.prog 32, z ≤ reachBytes) : ∃ l, PkgsV w (· < w.heap.size) l c ∧ ∀ p ∈ l, Fits p := by
  rcases DataW.trod_slice Try.underlying32 h with ⟨e, _⟩ | ⟨a, len, cap, elems, rest, m, hf, hcs, hx, _, hl, hm, hle, he, _, _⟩
  · simp only [List.cons.injEq, and_true] at e
    subst e
    exact ⟨[], ⟨none, 0, rfl, by simp, fun h => absurd rfl h⟩, fun p hp => by cases hp⟩
  · simp only [List.cons.injEq, and_true] at hcs
    subst hcs
    have hw1 : (elems.length + rest.length) * 256 ≤ reachBytes := by
      have := hz ((elems.length + rest.length) * Try.prog.bytesOf 26) (by rw [hx]; simp only [DataW.weights, Try.underlying32]; rw [List.length_map, List.length_map]; exact List.mem_cons_self)
      generalize (elems.length + rest.length) = n at this ⊢
      rw [bytes26] at this
      exact this
    have hbulk : len * 256 ≤ 140737488355328 := by
      have : reachBytes = 140737488351232 := rfl
      omega
    have hone : ∀ i, i < len → ∃ p v vf, PkgV w (· < w.heap.size) p v vf ∧ Fits p ∧ ∀ j u, (pkgCells p.name p.evr p.arch p.vendor v vf)[j]? = some u → w.cell? (a.add (i * 12 + j)) = some u := by
      intro i hi
      have h1 := he i hi
      rw [cells26] at h1
      have hel : i < elems.length := by omega
      rw [List.getElem?_eq_getElem hel] at h1
      cases hc : w.cells? 0 (a.add (i * 12)) 12 with
      | none => rw [hc] at h1; cases h1
      | some cs =>
        rw [hc] at h1
        replace h1 : DataW.trod enc Try.prog w 0 sp held m 26 cs = some elems[i] := h1
        obtain ⟨_, hlen, hcell⟩ := World.cells?_some hc
        obtain ⟨p, v, vf, rfl, hp, s1, s2, s3⟩ := open_pkg h1 (fun z hz' => hz z (by
          rw [hx]
          simp only [DataW.weights, Try.underlying32, List.mem_cons, List.mem_append]
          right; left
          exact weights_all (List.mem_map_of_mem (List.getElem_mem hel)) z hz'))
        refine ⟨p, v, vf, hp, ⟨s1, s2, s3⟩, fun j u hj => ?_⟩
        have hj12 : j < 12 := (List.getElem?_eq_some_iff.1 hj).1
        have := hcell (i := j) hj12
        rw [hj] at this
        rw [← this, Addr.add_add]
    by_cases h0 : len = 0
    · subst h0
      exact ⟨[], ⟨some a, cap, rfl, by simp, fun h => absurd rfl h⟩, fun p hp => by cases hp⟩
    · obtain ⟨b, off, ea, hb⟩ : ∃ b off, a = ⟨b, off, none⟩ ∧ b < w.heap.size := by
        obtain ⟨p, v, vf, _, _, hc⟩ := hone 0 (by omega)
        exact spot_none (hc 0 _ rfl) rfl
      subst ea
      have hone' : ∀ i, i < len → ∃ p, (∃ v vf, PkgV w (· < w.heap.size) p v vf ∧ CellsAt w b (off + i * 12) (pkgCells p.name p.evr p.arch p.vendor v vf)) ∧ Fits p := fun i hi => by
        obtain ⟨p, v, vf, h1, h2, h3⟩ := hone i hi
        refine ⟨p, ⟨v, vf, h1, fun j u hj => ?_⟩, h2⟩
        have := h3 j u hj
        rw [addr_add] at this
        rwa [Nat.add_assoc]
      refine ⟨(List.finRange len).map (fun i : Fin len => (hone' i.val i.2).choose), ⟨some ⟨b, off, none⟩, cap, by simp, by simpa using hbulk, fun _ => ⟨b, off, rfl, hb, fun i hi => ?_⟩⟩, fun p hp => ?_⟩
      · have hi' : i < len := by simpa using hi
        have := (hone' i hi').choose_spec.1
        simpa using this
      · obtain ⟨i, _, rfl⟩ := List.mem_map.1 hp
        exact (hone' i.val i.2).choose_spec.2
theorem open_repo {fuel : Nat} {cs : List Value} {x : DataW H × List MemPlace} (h : DataW.trod enc Try.prog w 0 sp held fuel 34 cs = some x) (hz : ∀ z ∈ x.1.weights Try.prog 34, z ≤ reachBytes) :
    ∃ (r : RepoT) (a : Option Addr) (n c : Nat), cs = [.string r.name, .int .i64 r.prio, .bool r.inst, .slice a n c] ∧ PkgsV w (· < w.heap.size) r.pkgs (.slice a n c) ∧ (∀ p ∈ r.pkgs, Fits p) ∧ r.name.size ≤ maxLen := by
  obtain ⟨xs, m', hm', hx', hcl, hxl, hfs⟩ := DataW.trod_struct Try.underlying34 h
  rw [cells34] at hcl
  obtain ⟨c0, c1, c2, c3, rfl⟩ := four hcl
  obtain ⟨x0, x1, x2, x3, rfl⟩ := four (hxl.trans rfl)
  have f0 : DataW.trod enc Try.prog w 0 sp held m' 9 ((([c0, c1, c2, c3] : List Value).drop 0).take (Try.prog.cellsOf 9)) = some x0 := hfs 0 _ rfl
  rw [cells9] at f0
  replace f0 : DataW.trod enc Try.prog w 0 sp held m' 9 [c0] = some x0 := f0
  have f1 : DataW.trod enc Try.prog w 0 sp held m' 3 ((([c0, c1, c2, c3] : List Value).drop 1).take (Try.prog.cellsOf 3)) = some x1 := hfs 1 _ rfl
  rw [cells3] at f1
  replace f1 : DataW.trod enc Try.prog w 0 sp held m' 3 [c1] = some x1 := f1
  have f2 : DataW.trod enc Try.prog w 0 sp held m' 4 ((([c0, c1, c2, c3] : List Value).drop 2).take (Try.prog.cellsOf 4)) = some x2 := hfs 2 _ rfl
  rw [cells4] at f2
  replace f2 : DataW.trod enc Try.prog w 0 sp held m' 4 [c2] = some x2 := f2
  have f3 : DataW.trod enc Try.prog w 0 sp held m' 32 ((([c0, c1, c2, c3] : List Value).drop 3).take (Try.prog.cellsOf 32)) = some x3 := hfs 3 _ rfl
  rw [cells32] at f3
  replace f3 : DataW.trod enc Try.prog w 0 sp held m' 32 [c3] = some x3 := f3
  obtain ⟨nm, e0, _, s0⟩ := DataW.trod_string Try.underlying9 f0
  obtain ⟨pr, e1, _, _⟩ := DataW.trod_int Try.underlying3 f1
  obtain ⟨ins, e2, _⟩ := DataW.trod_bool Try.underlying4 f2
  simp only [List.cons.injEq, and_true] at e0 e1 e2
  subst e0 e1 e2
  obtain ⟨l, hl, hfit⟩ := open_pkgs f3 (fun z hz' => hz z (by
    rw [hx']
    simp only [DataW.weights, Try.underlying34]
    exact DataW.weights_mem_each (j := 3) (t := 32) (d := x3.1) rfl rfl z hz'))
  have hl' := hl
  obtain ⟨a, c, rfl, _⟩ := hl'
  exact ⟨⟨nm, pr, ins, l⟩, a, _, c, rfl, hl, hfit, s0⟩
end
end Go.Proofs.Ytgeimldijagkkaa
