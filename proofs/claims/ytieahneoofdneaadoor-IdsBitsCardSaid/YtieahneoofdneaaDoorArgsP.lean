/-
  Pairs of a number and a bool that came in; the library's table. Helper text; the conditions are those typed.
-/
import Derived.Test.YtieahneoofdneaaDoorBitsE
import Derived.Test.YtieahneoofdneaaDoorRows
import Derived.SizedLaws
import Derived.OpenShut
import Derived.Lib.LaidTab
import Derived.MakeChecks
import Derived.SevenTiedAt
import Derived.Stop.Joined
namespace Go.Proofs.YtieahneoofdneaaDoor
set_option linter.unusedVariables false
set_option linter.unusedSimpArgs false
open Go.ChangeShapes Go.WideShapes Go.RowKit Go.Maps

theorem spot_none {w : World} {a : Addr} {v : Value} {i : Nat} (h : w.cell? (a.add i) = some v) (hi : i = 0) : ∃ b off, a = ⟨b, off, none⟩ ∧ b < w.heap.size := by
  subst hi
  obtain ⟨b, off, spot⟩ := a
  have hspot : spot = none := by simpa [Addr.add] using World.cell?_spot h
  subst hspot
  have hb : b < w.heap.size := by
    have := World.block_lt_of_cell? w _ h
    simpa [Addr.add] using this
  exact ⟨b, off, rfl, hb⟩
theorem addr_add {b off i : Nat} : (⟨b, off, none⟩ : Addr).add i = ⟨b, off + i, none⟩ := by
  unfold Addr.add
  split
  · rename_i h; subst h; rfl
  · rfl
theorem weights_all {H : Type} {P : Program} {e : TypeId} : ∀ {ds : List (DataW H)} {d : DataW H}, d ∈ ds → ∀ n ∈ d.weights P e, n ∈ DataW.weightsAll P e ds
  | d0 :: ds, d, hd, n, hn => by
    rw [DataW.weightsAll, List.mem_append]
    rcases List.mem_cons.1 hd with rfl | h
    · exact .inl hn
    · exact .inr (weights_all h n hn)
theorem cells3 : Tryd.prog.cellsOf 3 = 1 := by kernel_rfl
theorem cells4 : Tryd.prog.cellsOf 4 = 1 := by kernel_rfl
theorem cells30 : Tryd.prog.cellsOf 30 = 2 := by kernel_rfl
theorem bytes30 : Tryd.prog.bytesOf 30 = 16 := by kernel_rfl
theorem two {α : Type} {l : List α} (h : l.length = 2) : ∃ c0 c1, l = [c0, c1] := by
  match l, h with
  | [c0, c1], _ => exact ⟨c0, c1, rfl⟩

section
variable {H : Type} {enc : TypeId × Value → H} {w : World} {sp : Nat → Bool} {held : Bool}
theorem open_pair {fuel : Nat} {cs : List Value} {x : DataW H × List MemPlace} (h : DataW.trod enc Tryd.prog w 0 sp held fuel 30 cs = some x) : ∃ p : Int × Bool, cs = [.int .i64 p.1, .bool p.2] ∧ (Lit.int .i64 p.1).wf = true := by
  obtain ⟨xs, m', hm', hx', hcl, hxl, hfs⟩ := DataW.trod_struct Tryd.underlying30 h
  rw [cells30] at hcl
  obtain ⟨c0, c1, rfl⟩ := two hcl
  obtain ⟨x0, x1, rfl⟩ := two (hxl.trans rfl)
  have f0 : DataW.trod enc Tryd.prog w 0 sp held m' 3 ((([c0, c1] : List Value).drop 0).take (Tryd.prog.cellsOf 3)) = some x0 := hfs 0 _ rfl
  rw [cells3] at f0
  replace f0 : DataW.trod enc Tryd.prog w 0 sp held m' 3 [c0] = some x0 := f0
  have f1 : DataW.trod enc Tryd.prog w 0 sp held m' 4 ((([c0, c1] : List Value).drop 1).take (Tryd.prog.cellsOf 4)) = some x1 := hfs 1 _ rfl
  rw [cells4] at f1
  replace f1 : DataW.trod enc Tryd.prog w 0 sp held m' 4 [c1] = some x1 := f1
  obtain ⟨n, e0, _, w0⟩ := DataW.trod_int Tryd.underlying3 f0
  obtain ⟨bb, e1, _⟩ := DataW.trod_bool Tryd.underlying4 f1
  simp only [List.cons.injEq, and_true] at e0 e1
  subst e0 e1
  exact ⟨(n, bb), rfl, w0⟩
set_option maxRecDepth 100000 in
theorem open_pairs {fuel : Nat} {c : Value} {x : DataW H × List MemPlace} (h : DataW.trod enc Tryd.prog w 0 sp held fuel 22 [c] = some x) (hz : ∀ z ∈ x.1.weights Tryd.prog 22, z ≤ reachBytes) : ∃ l, PairsV w l c := by
  rcases DataW.trod_slice Tryd.underlying22 h with ⟨e, _⟩ | ⟨a, len, cap, elems, rest, m, hf, hcs, hx, _, hl, hm, hle, he, _, _⟩
  · simp only [List.cons.injEq, and_true] at e
    subst e
    exact ⟨[], none, 0, rfl, by simp, by simp, fun h => absurd rfl h⟩
  · simp only [List.cons.injEq, and_true] at hcs
    subst hcs
    have hw1 : (elems.length + rest.length) * 16 ≤ reachBytes := by
      have := hz ((elems.length + rest.length) * Tryd.prog.bytesOf 30) (by rw [hx]; simp only [DataW.weights, Tryd.underlying22]; rw [List.length_map, List.length_map]; exact List.mem_cons_self)
      generalize (elems.length + rest.length) = n at this ⊢
      rw [bytes30] at this
      exact this
    have hbulk : len * 16 ≤ 140737488355328 := by
      have : reachBytes = 140737488351232 := rfl
      omega
    have hone : ∀ i, i < len → ∃ o : Int × Bool, (Lit.int .i64 o.1).wf = true ∧ ∀ j u, ([.int .i64 o.1, .bool o.2] : List Value)[j]? = some u → w.cell? (a.add (i * 2 + j)) = some u := by
      intro i hi
      have h1 := he i hi
      rw [cells30] at h1
      have hel : i < elems.length := by omega
      rw [List.getElem?_eq_getElem hel] at h1
      cases hc : w.cells? 0 (a.add (i * 2)) 2 with
      | none => rw [hc] at h1; cases h1
      | some cs =>
        rw [hc] at h1
        replace h1 : DataW.trod enc Tryd.prog w 0 sp held m 30 cs = some elems[i] := h1
        obtain ⟨_, hlen, hcell⟩ := World.cells?_some hc
        obtain ⟨o, rfl, ho⟩ := open_pair h1
        refine ⟨o, ho, fun j u hj => ?_⟩
        have hj12 : j < 2 := (List.getElem?_eq_some_iff.1 hj).1
        have := hcell (i := j) hj12
        rw [hj] at this
        rw [← this, Addr.add_add]
    by_cases h0 : len = 0
    · subst h0
      exact ⟨[], some a, cap, rfl, by simp, by simp, fun h => absurd rfl h⟩
    · obtain ⟨b, off, ea, hb⟩ : ∃ b off, a = ⟨b, off, none⟩ ∧ b < w.heap.size := by
        obtain ⟨o, _, hc⟩ := hone 0 (by omega)
        exact spot_none (hc 0 _ rfl) rfl
      subst ea
      have hone' : ∀ i, i < len → ∃ o : Int × Bool, (Lit.int .i64 o.1).wf = true ∧ w.cell? ⟨b, off + i * 2, none⟩ = some (.int .i64 o.1) ∧ w.cell? ⟨b, off + i * 2 + 1, none⟩ = some (.bool o.2) := fun i hi => by
        obtain ⟨o, h1, h2⟩ := hone i hi
        have q0 := h2 0 _ rfl
        have q1 := h2 1 _ rfl
        rw [addr_add] at q0 q1
        exact ⟨o, h1, q0, by rw [Nat.add_assoc]; exact q1⟩
      refine ⟨(List.finRange len).map (fun i : Fin len => (hone' i.val i.2).choose), some ⟨b, off, none⟩, cap, by simp, by simpa using hbulk, fun p hp => ?_, fun _ => ⟨b, off, rfl, hb, fun i hi => ?_⟩⟩
      · obtain ⟨i, _, rfl⟩ := List.mem_map.1 hp
        exact (hone' i.val i.2).choose_spec.1
      · have hi' : i < len := by simpa using hi
        have := (hone' i hi').choose_spec.2
        simpa using this
end

theorem tz_of_laid {W : World} (h : laidMetH Tryd.prog Rows.idsBitsRow.laid W) : Tz W := by
  rw [MakeChecks.laidMetH_plain _ _ _ (by kernel_rfl)] at h
  have h2 : laidMet Tryd.prog (("math/bits.deBruijn64tab", Lib.tabData .u8 (Lib.deBruijn64tab.map fun (n : Nat) => (n : Int))) :: []) W := h
  have h3 := Lib.tabIs_of_head (g := 0) (t := 54) (e := 5) (n := 64) (by kernel_rfl) (by kernel_rfl) Tryd.underlying54 Tryd.underlying5 (by kernel_rfl) (by kernel_rfl) h2
  intro j hj
  have h4 := h3.cell (g := 0) (by kernel_rfl) j (by rw [List.length_map]; exact hj)
  have hg : Tryd.layTZ_ren.g 1 = 0 := rfl
  rw [hg, h4, List.getD_eq_getElem?_getD, List.getD_eq_getElem?_getD, List.getElem?_map, List.getElem?_eq_getElem hj]
  rfl
end Go.Proofs.YtieahneoofdneaaDoor
