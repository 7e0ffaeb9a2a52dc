/-
  All, Count: the walks. Helper text; the conditions are those typed.
-/
import Derived.Test.YtieahneoofdneaaDoorBitsB
import Derived.Deep.WholeRow
namespace Go.Proofs.YtieahneoofdneaaDoor
set_option linter.unusedVariables false
set_option linter.unusedSimpArgs false
open Go.RowKit Go.Maps Go.Shelf
attribute [local go_sem] Oper.semAt_some

theorem wp_load_agg {P : Program} {o : Oper} {a : Act} {w : World} {K : Act → World → Prop} {Q : Exit → Act → World → Prop} (ty : TypeId) (x : Operand) (ho : o.op = .load ty x) (p : Addr) (hx : a.eval x = .pointer (some p)) (v : Value)
    (hl : (loadVar ty p).run P w = .ok v w) (h : K (a.put o.dst v) w) : o.wp P a w K Q := by
  unfold Oper.wp execOp
  simp only [ho, hx, Instr.loadAt, Instr.sureAddr, Sem.run_bind, Sem.run_pure, Result.andThen_ok, hl]
  exact h

theorem zinfo25 : (Tryd.prog.info? 25).map (fun i => (i.zero, i.size)) = some (some (.agg (Array.replicate 1024 (.int .u64 0))), 1024) := by kernel_rfl
theorem zinfo27 : (Tryd.prog.info? 27).map (fun i => (i.zero, i.size)) = some (some (.agg (Array.replicate 1024 (.int .u64 0))), 1024) := by kernel_rfl
theorem zero_run {t : TypeId} {v : Value} {n : Nat} (h : (Tryd.prog.info? t).map (fun i => (i.zero, i.size)) = some (some v, n)) (w : World) : (zeroValue t).run Tryd.prog w = .ok v w := by
  cases hi : Tryd.prog.info? t with
  | none => rw [hi] at h; cases h
  | some i =>
    rw [hi] at h
    simp only [Option.map_some, Option.some.injEq, Prod.mk.injEq] at h
    simp [zeroValue, typeInfo, hi, h.1]
theorem size_of {t : TypeId} {v : Value} {n : Nat} (h : (Tryd.prog.info? t).map (fun i => (i.zero, i.size)) = some (some v, n)) : (Tryd.prog.info? t).map (·.size) = some n := by
  cases hi : Tryd.prog.info? t with
  | none => rw [hi] at h; cases h
  | some i =>
    rw [hi] at h
    simp only [Option.map_some, Option.some.injEq, Prod.mk.injEq] at h
    simp [h.2]

set_option maxRecDepth 100000 in
set_option maxHeartbeats 4000000 in
theorem all_c {w : World} {b : Nat} {W : Nat → Nat} (h : BitsAt w b W) : Calls Tryd.prog 11 #[.pointer (some ⟨b, 0, none⟩)] w fun e w' =>
    e = .returned (.func (.func 17) #[] #[.pointer (some ⟨w.heap.size, 0, none⟩)]) ∧ BoxF w' w.heap.size 1024 (fun j => .int .u64 (W j : Int)) 25 ∧ Below w.heap.size w w' := by
  obtain ⟨arr, ha1, ha2, _, hload⟩ := load_bits h.box
  obtain ⟨zs, hz1, hz⟩ : ∃ zs : Array Value, zs.size = 1024 ∧ ∀ w, (zeroValue 25).run Tryd.prog w = .ok (.agg zs) w := ⟨_, by simp, zero_run zinfo25⟩
  have hone : arr.all (·.oneCell') = true := by
    rw [Array.all_eq_true]
    intro j hj
    have := ha2 j (by omega)
    rw [Array.getElem?_eq_getElem hj] at this
    rw [Option.some.inj this]
    rfl
  have hst := run_storeAt_new (P := Tryd.prog) w 25 zs arr (by rw [ha1]; exact size_of zinfo25) (by rw [hz1, ha1]) hone
  have hst2 := run_storeCells_new (P := Tryd.prog) w 25 zs arr (by rw [ha1]; exact size_of zinfo25) (by rw [hz1, ha1]) hone
  have HF : Hid (BoxF (w.alloc (.cells arr 25)) w.heap.size 1024 (fun j => .int .u64 (W j : Int)) 25 ∧ Below w.heap.size w (w.alloc (.cells arr 25))) := ⟨⟨arr, alloc_at _ _, ha1, ha2⟩, below1 _ _⟩
  replace ha2 := Lib.hid ha2
  go_enter Tryd.func11, Tryd.ntmps11
  go_wp2_with fail
  refine wp_load_agg 25 (.tmp 8) rfl ⟨b, 0, none⟩ rfl _ hload ?_
  go_wp2_with fail
  go_ret
  exact ⟨rfl, HF.out⟩

theorem Tz.at {n₀ : Nat} {w W : World} (h : Tz w) (hn : w.heap.size ≤ n₀) (hb : Below n₀ w W) : Tz W := fun j hj => by
  have h1 := h j hj
  have h2 := World.block_lt_of_cell? w _ h1
  have h3 : (⟨Tryd.layTZ_ren.g 1, j, none⟩ : Addr).block < n₀ := Nat.lt_of_lt_of_le h2 hn
  exact (hb.cell (p := ⟨Tryd.layTZ_ren.g 1, j, none⟩) h3).trans h1

theorem Tz.low {n₀ : Nat} {w0 w W : World} (h : Tz w0) (hn : w0.heap.size ≤ n₀) (h1 : Below n₀ w0 w) (hb : Below n₀ w W) : Tz W := h.at hn (h1.trans hb)

theorem all_stops (n : Nat) (Bs n₀ : Nat) (W0 : Nat → Nat) (hw0 : ∀ j, W0 j < 18446744073709551616) (L : List Int) (hL : IsBits W0 L) (w0 w : World) (hT : Tz w0) (hn0 : w0.heap.size = n₀) (hb0 : Below n₀ w0 w) (hB : BoxF w Bs 1024 (fun j => .int .u64 (W0 j : Int)) 25) :
    SeqStopsK Fence.wide n Tryd.prog 17 #[.pointer (some ⟨Bs, 0, none⟩)] (fun x : Int => #[.int .i64 x]) (Below n₀) (fun xs => xs = L) (fun pre => pre <+: L) L.length w := by
  intro l J Jx W hW hJ hJx hY h0
  exact all2_in n l Bs n₀ W0 hw0 L hL J Jx hY W (hB.below hW) (fun W' hb => hT.low (Nat.le_of_eq hn0) (hb0.trans (below_to hW (by rw [← hn0]; exact hb0.size))) hb) h0

set_option maxRecDepth 100000 in
set_option maxHeartbeats 4000000 in
theorem count_c {w : World} {b : Nat} {W : Nat → Nat} (h : BitsAt w b W) (hT : Tz w) (L : List Int) (hL : IsBits W L) (hlen : L.length ≤ 65536) :
    Calls Tryd.prog 10 #[.pointer (some ⟨b, 0, none⟩)] w fun e w' => e = .returned (.int .i64 (L.length : Int)) ∧ Below w.heap.size w w' := by
  have HALL := Lib.hid (all_c (h.below (below1 w (.cells #[.int .i64 0] 3))))
  refine (callsIn_wide (n := 5)).1 ?_
  refine callsIn_of_wp_marks Tryd.func10 rfl trivial ?_ rfl
  simp only [Tryd.ntmps10, List.size_toArray, List.length_cons, List.length_nil, Nat.reduceAdd, Nat.reduceSub, Array.replicate_succ, Array.replicate_zero, List.push_toArray, List.append_toArray, List.nil_append, List.cons_append]
  refine wpIn_wide.2 ?_
  go_wp2_with (go_at_call 11; refine HALL.out.mono ?_; rintro e w2 ⟨rfl, hbx, hb2⟩)
  have HR2 : Hid (Below w.heap.size w w2 ∧ BoxN w2 w.heap.size [.int .i64 0] 3 ∧ w.heap.size + 1 < w2.heap.size) := by
    have h1 := boxN_alloc w [.int .i64 0] 3
    have h2 : BoxN w2 w.heap.size [.int .i64 0] 3 := h1.below hb2
    have h3 := hbx.lt
    simp only [World.size_alloc] at h3
    exact ⟨below_tr (below1 _ _) hb2, h2, h3⟩
  replace hbx := Lib.hid hbx
  simp only [World.size_alloc] at hbx
  clear hb2
  refine (wpIn_wide (n := 5)).1 ?_
  refine wpIn_rangeFunc_ownF rfl (by decide) (gf := 17) (lb := #[.pointer (some ⟨w.heap.size + 1, 0, none⟩)]) rfl trivial (enters_of Tryd.func17 (by kernel_rfl) rfl)
    (all_stops _ (w.heap.size + 1) w.heap.size W h.lt L hL w w2 hT rfl HR2.out.1 hbx.out) belowK_t (belowK_b HR2.out.1.size) (Below.refl _ _) (fun _ => rfl)
    (fun pre W' => (W'.cell? ⟨w.heap.size, 0, none⟩ = some (.int .i64 (pre.length : Int)) ∧ W'.frozen? ⟨w.heap.size, 0, none⟩ = false) ∧ Below w.heap.size w W')
    (fun _ _ _ => False)
    (OwnFrom.and (Own.from (fun s A B row hs hg hr => ⟨cell_kept hs.1 hg hr, (frozen_kept hs.1 hg hr).trans hs.2⟩) _) (ownFrom_below (Nat.le_refl _) HR2.out.1.size))
    (fun _ _ _ _ _ hs _ _ => hs)
    ⟨⟨HR2.out.2.1.cell (j := 0) rfl, HR2.out.2.1.frozen 0⟩, HR2.out.1⟩
    (fun x => { tmps := #[.pointer (some ⟨b, 0, none⟩), undef, .int .i64 0, .pointer (some ⟨w.heap.size, 0, none⟩), .pointer (some ⟨b, 0, none⟩), .func (.func 17) #[] #[.pointer (some ⟨w.heap.size + 1, 0, none⟩)], .int .i64 x, undef, undef, undef], defers := [] }) ?assign ?body ?done ?stop
  case assign =>
    intro l x W' K hK
    gi_wp2
    simpa using hK
  case body =>
    rintro l pre x W' ⟨⟨hc, hf⟩, hB⟩ hlt
    have hl2 : (pre.length : Int) < 65536 := by omega
    gi_wp2
    exact ⟨KeepsOthers.setCell _ _ _, (Below.refl w.heap.size W').setCell (p := ⟨w.heap.size, 0, none⟩) (Nat.le_refl _) _, ⟨by rw [List.length_append, List.length_singleton]; exact World.cell?_setCell_same' _ _ _ (by rw [hc]; rfl), by rw [World.frozen?_setCell]; exact hf⟩, hB.setCell (p := ⟨w.heap.size, 0, none⟩) (Nat.le_refl _) _⟩
  case done =>
    rintro D ys W' hD rfl ⟨⟨hc, _⟩, hB⟩ hK
    have hsz := HR2.out.2.2
    go_wp2
    refine ⟨by simp, .inl ⟨_, _, rfl, run_takeDeferred hK, ?_⟩⟩
    exact ⟨_, results_tmp rfl _ _ _, rfl, hB.trans (belowK_b (w := w) (Nat.le_refl _) W' D _ _ (by omega) hK rfl rfl)⟩
  case stop =>
    rintro D c pre W' _ _ h _
    exact h.elim
end Go.Proofs.YtieahneoofdneaaDoor
