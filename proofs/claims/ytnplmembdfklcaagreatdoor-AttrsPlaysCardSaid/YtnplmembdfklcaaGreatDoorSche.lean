/-
  Keys, Schema: the walks. Helper text; the conditions are those typed.
  Unset: the walk. Helper text; the conditions are those typed.
  Schemas: strings.Join of keys, a map that counts, the walk. Helper text; the conditions are those typed.
  Schemas: the walk. Helper text; the conditions are those typed.
-/
import Derived.Test.YtnplmembdfklcaaGreatDoorSearchB
import Derived.Test.YtnplmembdfklcaaGreatDoorTextsR
import Derived.Sort.MapsRangeIn
import Derived.Laws.IdiomRangeMap
import Derived.Test.YtnplmembdfklcaaGreatDoorDirLaw
namespace Go.Proofs.YtnplmembdfklcaaGreatDoor
set_option linter.unusedVariables false
set_option linter.unusedSimpArgs false
open Go.RowKit Go.Maps Go.Shelf Go.Sort

theorem mkB_bs (s : ByteArray) : mkB (bs s) = s := bs_inj (by rw [bs_mkB])
def sortT (zs : List ByteArray) : List ByteArray := ((zs.map bs).mergeSort fun x y => decide (x ≤ y)).map mkB
theorem sortT_perm (zs : List ByteArray) : (sortT zs).Perm zs := by
  unfold sortT
  have := (List.mergeSort_perm (zs.map bs) fun x y => decide (x ≤ y)).map mkB
  rw [List.map_map] at this
  rwa [show mkB ∘ bs = id from funext mkB_bs, List.map_id] at this
theorem sortT_bs (zs : List ByteArray) : (sortT zs).map bs = (zs.map bs).mergeSort fun x y => decide (x ≤ y) := by
  unfold sortT
  rw [List.map_map, show bs ∘ mkB = id from funext bs_mkB, List.map_id]
theorem sortT_rising {l : List ByteArray} (h : l.Nodup) : RisingS (sortT l) := by
  have h1 : ((l.map bs).mergeSort fun x y => decide (x ≤ y)).Pairwise (fun a b => decide (a ≤ b) = true) :=
    List.pairwise_mergeSort (fun a b c h1 h2 => by simp only [decide_eq_true_eq] at *; exact List.le_trans h1 h2) (fun a b => by simp only [Bool.or_eq_true, decide_eq_true_eq]; exact List.le_total a b) _
  rw [← sortT_bs, List.pairwise_map] at h1
  have h2 : (sortT l).Nodup := (sortT_perm l).nodup_iff.2 h
  exact (h1.and h2).imp fun {a b} h => by
    have h3 := h.1
    have h4 : a ≠ b := h.2
    simp only [decide_eq_true_eq] at h3
    rcases sl_tri (bs a) (bs b) with e | e | e
    · exact e
    · exact absurd (bs_inj e) h4
    · exact absurd e h3
theorem encs_eq (zs : List ByteArray) : (zs.map bs).map encStr = zs.map .string := by
  rw [List.map_map]
  refine List.map_congr_left fun s _ => ?_
  show Value.string (mkB (bs s)) = _
  rw [mkB_bs]
theorem sortT_in {w0 w : World} {v : Value} {zs : List ByteArray} (h : OwnS w0 v zs w) (hl : zs.length < 4611686018427387904) :
    Calls Tryz.prog 41 #[v] w fun e w' => e = .returned (.tuple #[]) ∧ OwnS w0 v (sortT zs) w' := by
  obtain ⟨ho, hb⟩ := h
  have hlen : (sortT zs).length = zs.length := (sortT_perm zs).length_eq
  have hlen2 : ((zs.map bs).mergeSort fun x y => decide (x ≤ y)).length = (zs.map bs).length := List.length_mergeSort _
  rcases ho.2 with ⟨rfl, h0⟩ | ⟨g, cap, cur, hv, hbase, hg, h1, h2, h3, h4⟩
  · have hz := List.length_eq_zero_iff.1 h0
    subst hz
    exact (Any.slices_Sort_string_none Tryz.laySortS none 0 w).mono fun e w' ⟨he, hw⟩ => ⟨he, by subst hw; rw [show sortT ([] : List ByteArray) = [] by simp [sortT]]; exact ⟨World.ownsRow_nil _ _ _ _, hb⟩⟩
  · subst hv
    rw [← encs_eq] at ho
    have hlm : (zs.map bs).length = zs.length := List.length_map ..
    rw [← hlm] at ho h1
    obtain ⟨g', cap', hv, _, hlt, _, _, _, hH⟩ := Lib.holds_of_ownsRow (enc := encStr) ho (by simp)
    simp only [Value.slice.injEq, Option.some.injEq, Addr.mk.injEq, true_and, and_true] at hv
    obtain ⟨rfl, rfl⟩ := hv
    have hc := Any.slices_Sort_string Tryz.laySortS g 0 cap (zs.map bs) w hH hlt (by rw [hlm]; exact hl)
    rw [hlm] at hc
    refine hc.mono fun e w' ⟨he, n, os, hw⟩ => ⟨he, ?_⟩
    subst hw
    have hown := ownsRow_sorted (n := n) (os := os) hlen2 hbase hg h1 h2 h3
    have hmap : ((zs.map bs).mergeSort fun x y => decide (x ≤ y)).map encStr = (sortT zs).map .string := by rw [← sortT_bs, encs_eq]
    rw [hlm, hmap] at hown
    refine ⟨by rw [hlen]; exact hown, ?_⟩
    have hgr : w.grownBy (grow (putRow encStr (Sort.ahead w n) g 0 ((zs.map bs).mergeSort fun x y => decide (x ≤ y)).toArray) os) (some g) :=
      ⟨rfl, rfl, rfl, by simp [Sort.grow, putRow, mapBlock, Sort.ahead], fun k hk hne => by
        have hne' : g ≠ k := fun e => hne (by rw [e])
        show ((putRow encStr (Sort.ahead w n) g 0 _).heap ++ os)[k]? = _
        rw [Array.getElem?_append_left (by simp [putRow, mapBlock, Sort.ahead]; exact hk)]
        simp [putRow, mapBlock, Sort.ahead, Array.getElem?_modify, hne']⟩
    exact hb.grown hgr hb.size (fun j hj => by cases hj; exact hbase)

/-- What the store's keys are. -/
structure KeysOK (st : StT) : Prop where
  len : st.keys.length ≤ 64
  name : ∀ k ∈ st.keys, nameB k = true
  of : ∀ id k v, st.val id k = some v → k ∈ st.keys
theorem nameB_size {k : ByteArray} (h : nameB k = true) : k.size ≤ 60 := by
  unfold nameB at h
  split at h
  · cases h
  · simp only [Bool.and_eq_true, decide_eq_true_eq] at h
    exact h.1.1.1
theorem nodup_sub {α : Type} [DecidableEq α] : ∀ {l m : List α}, l.Nodup → (∀ x ∈ l, x ∈ m) → l.length ≤ m.length
  | [], m, _, _ => Nat.zero_le _
  | x :: l, m, hn, h => by
    have hx := h x (by simp)
    obtain ⟨h1, h2⟩ := List.nodup_cons.1 hn
    have h3 : ∀ y ∈ l, y ∈ m.erase x := fun y hy => by
      have hyx : y ≠ x := fun e => h1 (e ▸ hy)
      exact (List.mem_erase_of_ne hyx).2 (h y (by simp [hy]))
    have h4 := nodup_sub h2 h3
    have h5 := List.length_erase_of_mem hx
    have h6 : 0 < m.length := List.length_pos_of_mem hx
    rw [List.length_cons]
    omega

section
variable {w : World} {B : Nat} {role : Nat → Role} {S K V L : Nat} {vk vd : Value} {ib : Int → Option Nat} {sl : Int → ByteArray → Value} {n : Nat} {st : StT}
theorem own_strs {w : World} {B : Nat} {v : Value} {l : List ByteArray} (h : w.ownsRow B 9 1 v l.length (l.map .string)) (hs : ∀ s ∈ l, s.size ≤ maxLen) (hl : l.length * 16 ≤ 140737488355328) : StrsV w (fun _ => True) l v := by
  rcases ownsRow_form h with ⟨rfl, h0⟩ | ⟨g, cap, rfl, h1, _⟩
  · have : l = [] := List.eq_nil_of_length_eq_zero h0
    subst this
    exact ⟨none, 0, rfl, by simp, by simp, fun h => absurd rfl h⟩
  · exact ⟨_, cap, rfl, hs, hl, fun _ => ⟨g, 0, rfl, trivial, fun i hi => by
      rw [Nat.zero_add]
      exact ownsRow_cell h (by simp [hi])⟩⟩

set_option maxHeartbeats 1000000 in
theorem keys_c (h : StoreIn w B role S K V L vk vd ib sl n st) (hk : KeysOK st) :
    Calls Tryz.prog 10 #[.pointer (some ⟨S, 0, none⟩)] w fun e w' => (∃ a c, e = .returned (.slice a st.keys.length c) ∧ StrsV w' (fun b => w.heap.size ≤ b) st.keys (.slice a st.keys.length c)) ∧ Below w.heap.size w w' := by
  have c0 := h.box.cell (j := 0) rfl
  have hkl := hk.len
  have hs := own_strs h.keys (fun s hs => by have := nameB_size (hk.name s hs); unfold maxLen; omega) (by omega)
  obtain ⟨a, c, hv⟩ := h.keys_slice
  subst hv
  have HC := Lib.hid (cloneS_c st.keys a st.keys.length c _ w hs)
  clear h hk hs
  generalize st.keys = ks at *
  generalize ks.length = kl at *
  go_enter Tryz.func10, Tryz.ntmps10
  go_wp2_with (go_at_call 30; refine HC.out.mono ?_; rintro e w2 ⟨⟨a2, c2, rfl, h2⟩, hb2⟩)
  go_ret
  exact ⟨⟨_, _, rfl, h2⟩, hb2⟩

/-- What the loop over a package's keys keeps. -/
structure TInv (w : World) (b n : Nat) (D : DataW Value) (st : StT) (id : Int) (left : Lit → Bool) (cnt : Nat) (outs : List ByteArray) (v : Value) (m : Nat) (wr : World) : Prop where
  rg : wr.ranges Tryz.prog 9 rawE b w.heap.size n D left cnt
  below : Below w.heap.size w wr
  row : wr.ownsRow (w.heap.size + 1) 9 1 v m (outs.map .string)
  len : outs.length = m
  nodup : outs.Nodup
  mem : ∀ s : ByteArray, s ∈ outs ↔ (st.val id s ≠ none ∧ left (.string s.data.toList) = false)
  sub : ∀ kl, left kl = true → has D kl = true
theorem TInv.small {w : World} {b n : Nat} {D : DataW Value} {st : StT} {id : Int} {left : Lit → Bool} {cnt : Nat} {outs : List ByteArray} {v : Value} {m : Nat} {wr : World} (h : TInv w b n D st id left cnt outs v m wr) (hk : KeysOK st) : m ≤ 64 := by
  rw [← h.len]
  refine Nat.le_trans (nodup_sub h.nodup fun x hx => ?_) hk.len
  have := ((h.mem x).1 hx).1
  cases hv : st.val id x with
  | none => exact absurd hv this
  | some v => exact hk.of id x v hv
theorem sameKey_str {a b : ByteArray} : (Lit.string a.data.toList).sameKey (Lit.string b.data.toList) = decide (a = b) := by
  have : (Lit.string a.data.toList).sameKey (Lit.string b.data.toList) = (a.data.toList == b.data.toList) := rfl
  rw [this]
  by_cases h : a = b
  · subst h; simp
  · rw [decide_eq_false h]
    have : ¬ a.data.toList = b.data.toList := fun e => h (bs_inj e)
    simpa using this
theorem TInv.row_at {w : World} {b n : Nat} {D : DataW Value} {st : StT} {id : Int} {left : Lit → Bool} {cnt : Nat} {outs : List ByteArray} {v : Value} {m : Nat} {wr w2 : World} (h : TInv w b n D st id left cnt outs v m wr)
    (hg : wr.grownBy w2 (some w.heap.size)) (hs : w2.heap.size = wr.heap.size) (o : Obj) : (w2.alloc o).ownsRow (w.heap.size + 1) 9 1 v m (outs.map .string) ∧ w.heap.size + 1 ≤ w2.heap.size := by
  have hr := h.rg.lt
  exact ⟨ownsRow_below (ownsRow_to h.row fun g hgb => hg.block g (h.row.lt g hgb).2 (fun e => by have := (h.row.lt g hgb).1; cases e; omega)) (below1 _ _), by omega⟩
theorem TInv.add {w : World} {b n : Nat} {D : DataW Value} {st : StT} {id : Int} {left : Lit → Bool} {cnt cnt1 : Nat} {outs : List ByteArray} {v : Value} {m : Nat} {wr w2 w7 : World} {s : ByteArray} (h : TInv w b n D st id left cnt outs v m wr) (hb : b < w.heap.size)
    (hrg : w2.ranges Tryz.prog 9 rawE b w.heap.size n D (fun z => left z && !z.sameKey (.string s.data.toList)) cnt1) (hg : wr.grownBy w2 (some w.heap.size)) (hs : w2.heap.size = wr.heap.size) (hl : left (.string s.data.toList) = true) (hv : st.val id s ≠ none)
    {g cap : Nat} (hown : w7.ownsRow (w.heap.size + 1) 9 1 (.slice (some ⟨g, 0, none⟩) (m + 1) cap) (m + 1) (outs.map .string ++ [.string s])) (hgr : (w2.alloc (.cells #[.string s] 9)).grownBy w7 v.ownBlock) :
    TInv w b n D st id (fun z => left z && !z.sameKey (.string s.data.toList)) cnt1 (outs ++ [s]) (.slice (some ⟨g, 0, none⟩) (m + 1) cap) (m + 1) w7 := by
  have hb2 : Below w.heap.size w w2 := h.below.grown hg h.below.size (fun k e => by cases e; exact Nat.le_refl _)
  have hb4 := below_al hb2 (Nat.le_refl _) (.cells #[.string s] 9)
  have hlo : ∀ b, v.ownBlock = some b → w.heap.size + 1 ≤ b := fun b hvb => (h.row.lt b hvb).1
  refine ⟨?_, hb4.grown hgr hb4.size (fun k e => by have := hlo k e; omega), by rw [List.map_append]; exact hown, by rw [List.length_append, h.len]; rfl, ?_, fun x => ?_, fun kl hk => h.sub kl (by rw [Bool.and_eq_true] at hk; exact hk.1)⟩
  · obtain ⟨es, clock, since, seen, c0, e1, e2, e3, e4, e5, e6⟩ := hrg
    have hr : w.heap.size < w2.heap.size := (Array.getElem?_eq_some_iff.1 e5).1
    have hk : ∀ b, b ≤ w.heap.size → w7.heap[b]? = w2.heap[b]? := fun b hb0 => by
      rw [hgr.block b (by simp; omega) (fun e => by have := hlo b e.symm; omega), (below1 w2 _).block b (by omega)]
    exact ⟨es, clock, since, seen, c0, (hk b (by omega)).trans e1, e2, e3, e4, (hk _ (Nat.le_refl _)).trans e5, e6⟩
  · rw [List.nodup_append]
    refine ⟨h.nodup, List.nodup_cons.2 ⟨by simp, List.nodup_nil⟩, fun a ha b hb' e => ?_⟩
    simp only [List.mem_singleton] at hb'
    subst hb' e
    have := ((h.mem _).1 ha).2
    rw [hl] at this
    cases this
  · rw [List.mem_append, h.mem x, sameKey_str, List.mem_singleton]
    by_cases e : x = s
    · subst e; simp [hv]
    · simp [e]
theorem info9' : (Tryz.prog.info? 9).map (fun i => (i.zero, i.size, i.bytes)) = some (some (.string ⟨#[]⟩), 1, 16) := by kernel_rfl

set_option maxHeartbeats 4000000 in
set_option maxRecDepth 100000 in
theorem schema_c (h : StoreIn w B role S K V L vk vd ib sl n st) (hk : KeysOK st) {id : Int} (hid : (Lit.int .i64 id).wf = true) :
    Calls Tryz.prog 20 #[.pointer (some ⟨S, 0, none⟩), .int .i64 id] w fun e w' => ∃ v l, e = .returned v ∧ OwnS w v l w' ∧ RisingS l ∧ (∀ k, k ∈ l ↔ st.val id k ≠ none) ∧ l.length ≤ 64 := by
  have b2 := h.box.cell (j := 2) rfl
  have hl1 := h.look_values hid
  cases hib : ib id with
  | none =>
    rw [hib] at hl1
    have hno := h.hasv id
    have hrg := run_range_nilMap (P := Tryz.prog) w 66 9 31 Tryz.underlying66
    have hnx : ∀ ty, (Instr.next (.pointer (some ⟨w.heap.size, 0, none⟩)) false ty).run Tryz.prog (w.alloc (.mapIter none 0 #[] 0)) = _ := fun ty => run_next_nilMap w ty 0 0 #[]
    have HSORT := Lib.hid (sortT_in (w0 := w) (w := w.alloc (.mapIter none 0 #[] 0)) (v := .slice none 0 0) (zs := []) ⟨World.ownsRow_nil _ _ _ _, below1 _ _⟩ (by decide))
    have HF : Hid (∀ w', OwnS w (.slice none 0 0) (sortT []) w' → ∃ v l, Ending.returned (.slice none 0 0) = .returned v ∧ OwnS w v l w' ∧ RisingS l ∧ (∀ k, k ∈ l ↔ st.val id k ≠ none) ∧ l.length ≤ 64) := fun w' ho => by
      rw [show sortT ([] : List ByteArray) = [] by simp [sortT]] at ho
      exact ⟨_, [], rfl, ho, RisingS.nil, fun k => by rw [hno k hib]; simp, by simp⟩
    clear h hk hno
    go_enter Tryz.func20, Tryz.ntmps20
    go_wp2
    refine wp_loop_rounds 1 ?_
    rw [rounds_succ]
    go_wp2_with (go_at_call 41; refine HSORT.out.mono ?_; rintro e w2 ⟨rfl, ho⟩)
    go_ret
    exact HF.out _ ho
  | some b =>
    rw [hib] at hl1
    have HV := h.inner id b hib
    have hbl : Hid (b < w.heap.size) := HV.lt
    obtain ⟨D, hD, hDf⟩ := HV
    have HDF : Hid (∀ s : ByteArray, s.size ≤ maxLen → has D (.string s.data.toList) = (st.val id s).isSome) := fun s hs => by
      rw [(hDf _ _ (key9 hs)).1]
      show ((st.val id s).map _).isSome = _
      cases st.val id s <;> rfl
    replace hDf := Lib.hid hDf
    have HK := Lib.hid hk
    clear h hk
    obtain ⟨i9, hi9, hz90, hz91, hz92⟩ := info_parts info9'
    go_enter Tryz.func20, Tryz.ntmps20
    go_wp2_with (at_range; refine wpList_range_own _ rfl _ 66 rfl 9 31 keyed9 Tryz.underlying66 rawE b n D rfl hD ?_; intro w0 hrg0 hg0 hs0)
    go_frame
    have HI0 : Hid (TInv w b n D st id (has D) (size D) [] (.slice none 0 0) 0 w0) := by
      have hb0 : Below w.heap.size w w0 := ⟨hg0.os, hg0.tape, hg0.output, hg0.size, fun b hb => hg0.block b hb (by simp)⟩
      refine ⟨hrg0, hb0, World.ownsRow_nil _ _ _ _, rfl, List.nodup_nil, fun s => ?_, fun kl h => h⟩
      constructor
      · intro h; cases h
      · rintro ⟨hh, hf⟩
        exfalso
        cases hv : st.val id s with
        | none => exact hh hv
        | some v =>
          have h1 := nameB_size (HK.out.name s (HK.out.of id s v hv))
          rw [HDF.out s (by unfold maxLen; omega), hv] at hf
          cases hf
    clear hrg0 hg0 hs0
    go_loopw [5] (fun v5 wr => ∃ left cnt outs m, Hid (TInv w b n D st id left cnt outs v5 m wr)) (fun _ wr => wr.rangeLeft b w.heap.size)
    case atStart => exact ⟨_, _, _, _, HI0⟩
    case round =>
      obtain ⟨left, cnt, outs, m, HI⟩ := hrel
      obtain ⟨ra, rc, hv5⟩ := ownsRow_slice HI.out.row
      subst hv5
      have hrg := HI.out.rg
      have hm64 := HI.out.small HK.out
      go_wp2_with (at_next; refine wpList_next_ranges _ rfl _ rfl 9 keyed9 rawE _root_.id _root_.id (fun key _ _ => ⟨key, rfl⟩) (fun v _ _ => ⟨v, rfl⟩) b w.heap.size n _ _ _ rfl hrg ?_ ?_)
      · intro hc0 hl0
        have HSORT : Hid (Calls Tryz.prog 41 #[.slice ra m rc] wr fun e w' => e = .returned (.tuple #[]) ∧ OwnS w (.slice ra m rc) (sortT outs) w') := by
          refine sortT_in ⟨?_, HI.out.below⟩ (by rw [HI.out.len]; omega)
          rw [HI.out.len]
          exact ownsRow_base HI.out.row (by omega)
        have HFIN : Hid (∀ w', OwnS w (.slice ra m rc) (sortT outs) w' → ∃ v l, Ending.returned (.slice ra m rc) = .returned v ∧ OwnS w v l w' ∧ RisingS l ∧ (∀ k, k ∈ l ↔ st.val id k ≠ none) ∧ l.length ≤ 64) := fun w' ho => by
          refine ⟨_, sortT outs, rfl, ho, sortT_rising HI.out.nodup, fun k => ?_, by rw [(sortT_perm outs).length_eq, HI.out.len]; exact hm64⟩
          rw [(sortT_perm outs).mem_iff, HI.out.mem k]
          exact ⟨fun h => h.1, fun h => ⟨h, hl0 _⟩⟩
        clear HI hrg hD hc0 hl0 HI0
        go_wp2_with (go_at_call 41; refine HSORT.out.mono ?_; rintro e w2 ⟨rfl, ho2⟩)
        go_ret
        exact HFIN.out _ ho2
      · intro x c kl yd yp w2 cnt1 hkx hlx hvc hat hrg1 hlt hg1 hs1 hen
        obtain ⟨s, rfl⟩ : ∃ s, x = .string s := keyOf_string_inv Tryz.underlying9 hkx
        have hh0 := HI.out.sub _ hlx
        have hd1 := (hDf.out _ _ hkx).1
        rw [hh0] at hd1
        obtain ⟨v, hv⟩ : ∃ v, st.val id s = some v := by
          cases hv : st.val id s with
          | some v => exact ⟨v, rfl⟩
          | none =>
            have h5 : innerF (st.val id) (sl id) (.string s) = none := by
              show (st.val id s).map _ = _
              rw [hv]; rfl
            rw [h5] at hd1
            cases hd1
        have hsz := nameB_size (HK.out.name s (HK.out.of id s v hv))
        obtain rfl : kl = .string s.data.toList := by
          have := key9 (s := s) (by unfold maxLen; omega)
          rw [hkx] at this
          exact Option.some.inj this
        have HROW := Lib.hid (HI.out.row_at hg1 hs1 (.cells #[.string s] 9))
        have HNX : Hid (∀ g cap w7, w7.ownsRow (w.heap.size + 1) 9 1 (.slice (some ⟨g, 0, none⟩) (m + 1) cap) (m + 1) (outs.map .string ++ [.string s]) → (w2.alloc (.cells #[.string s] 9)).grownBy w7 (Value.slice ra m rc).ownBlock →
            TInv w b n D st id (fun z => left z && !z.sameKey (.string s.data.toList)) cnt1 (outs ++ [s]) (.slice (some ⟨g, 0, none⟩) (m + 1) cap) (m + 1) w7) := fun g cap w7 q1 q2 => HI.out.add hbl.out hrg1 hg1 hs1 hlx (by rw [hv]; simp) q1 q2
        have hlt' := Lib.hid hlt
        clear hkx hlx hvc hat hrg1 hg1 hs1 hd1 hh0 hv hsz hlt HI0 hD hrg
        go_wp2_with (at_builtin; refine wpList_append_lies _ rfl (.tmp 20) (.tmp 22) 29 rfl (w.heap.size + 1) 9 i9 (.string ⟨#[]⟩) 1 16 Tryz.underlying29 hi9 hz90 hz91 hz92 rfl (by decide) (.slice ra m rc) m (outs.map .string) rfl HROW.out.1 ⟨w2.heap.size, 0, none⟩ 1 1 [.string s] rfl rfl (World.news_of_block (cs := #[.string s]) (t := 9) (fr := (0, 0)) (heap_alloc_new w2 _)) (by simp [Value.oneCell']) (by omega) (by unfold maxLen; omega) (by omega) (Nat.le_trans HROW.out.2 (by simp)) (w2.heap.size + 1) (by simp) ?_; intro g cap w7 hown7 hgrow7 hat7 hlt7)
        have HFIN := Lib.hid (HNX.out _ _ _ hown7 hgrow7)
        clear hown7 hgrow7 hat7 hlt7 HNX HROW
        go_roundw
        case rel => exact ⟨_, _, _, _, HFIN⟩
        case measure => rw [HFIN.out.rg.left_eq, HI.out.rg.left_eq]; exact hlt'.out
end
end Go.Proofs.YtnplmembdfklcaaGreatDoor
namespace Go.Proofs.YtnplmembdfklcaaGreatDoor
set_option linter.unusedVariables false
set_option linter.unusedSimpArgs false
open Go.RowKit Go.Maps

open Classical in
/-- The store's datum with an attribute less. -/
noncomputable def unsetSt (st : StT) (id : Int) (key : ByteArray) : StT := { st with val := fun i k => if i = id ∧ k = key then none else st.val i k }
section
variable {w w' : World} {B : Nat} {role role' : Nat → Role} {S K V L : Nat} {vk vd : Value} {ib : Int → Option Nat} {sl : Int → ByteArray → Value} {n : Nat} {st : StT}
theorem StoreIn.drop_step {w2 w3 : World} (h : StoreIn w B role S K V L vk vd ib sl n st) (hB : B ≤ w.heap.size) (hb2 : Below w.heap.size w w2) {id : Int} {key : ByteArray} {b : Nat} (hib : ib id = some b)
    {f : Value → Option Value} (hf1 : f (.string key) = none) (hf2 : ∀ u, u ≠ .string key → f u = innerF (st.val id) (sl id) u) (hm : MapAt Tryz.prog 9 w3 b n f) (hg3 : w2.grownBy w3 (some b)) :
    ∃ role', Moved role w role' w3 ∧ StoreIn w3 B role' S K V L vk vd ib sl n (unsetSt st id key) := by
  have s1 := Step.of_below h.hi hb2
  have r1 := (h.blk s1 (h.ri id b hib) (by simp) (fun h => h)).2
  have s3 := Step.of_grown s1.inn hg3
  have hs := (s1.trans s3).mono (T2 := fun r => r = .inner id) (by rintro r (e | e); exact e.elim; exact e.trans r1)
  refine ⟨_, hs.mono (by rintro r e; rw [e]; simp), h.box.to (h.blk hs h.rS (by simp) (by simp)).1, ownsRow_to h.keys fun g hg => (h.blk hs (h.rk g hg) (by simp) (by simp)).1, h.kinds.block (h.blk hs h.rK (by simp) (by simp)).1, h.values.block (h.blk hs h.rV (by simp) (by simp)).1,
    fun i c hc => ?_, fun i k hi => ?_, fun i k x hx => ?_, ownsRow_to h.dirs fun g hg => (h.blk hs (h.rd g hg) (by simp) (by simp)).1, h.places.block (h.blk hs h.rL (by simp) (by simp)).1,
    (h.blk hs h.rS (by simp) (by simp)).2, (h.blk hs h.rK (by simp) (by simp)).2, (h.blk hs h.rV (by simp) (by simp)).2, (h.blk hs h.rL (by simp) (by simp)).2, fun g hg => (h.blk hs (h.rk g hg) (by simp) (by simp)).2, fun g hg => (h.blk hs (h.rd g hg) (by simp) (by simp)).2, fun i c hc => ?_, hs.lo (h := h.lo) hB, hs.inn⟩
  · by_cases e : i = id
    · subst e
      rw [hib] at hc
      cases hc
      refine hm.congr fun u => ?_
      by_cases eu : u = .string key
      · subst eu
        rw [hf1]
        show (if i = i ∧ key = key then none else st.val i key).map _ = _
        rw [if_pos ⟨rfl, rfl⟩]
        rfl
      · rw [hf2 u eu]
        cases u with
        | string s =>
          have hne : ¬ (i = i ∧ s = key) := fun h => eu (by rw [h.2])
          show (if i = i ∧ s = key then none else st.val i s).map _ = (st.val i s).map _
          rw [if_neg hne]
        | _ => rfl
    · have hne : c ≠ b := fun e2 => by
        subst e2
        have h1 := h.ri i c hc
        rw [h.ri id c hib] at h1
        injection h1 with h1
        exact e h1.symm
      have hcb : w3.heap[c]? = w.heap[c]? := (h.blk hs (h.ri i c hc) (by simp) (by intro h1; injection h1 with h1; exact e h1)).1
      refine ((h.inner i c hc).block hcb).congr fun u => ?_
      cases u with
      | string s =>
        have hne : ¬ (i = id ∧ s = key) := fun h => e h.1
        show (if i = id ∧ s = key then none else st.val i s).map _ = (st.val i s).map _
        rw [if_neg hne]
      | _ => rfl
  · show (if i = id ∧ k = key then none else st.val i k) = none
    split
    · rfl
    · exact h.hasv i k hi
  · have hx' : (if i = id ∧ k = key then none else st.val i k) = some x := hx
    split at hx'
    · cases hx'
    · exact h.cont_to hs (by simp) (h.cont i k x hx')
  · by_cases e : i = id
    · subst e
      rw [hib] at hc
      cases hc
      obtain ⟨h1, h2⟩ := s3.dom b (by rw [r1]; simp)
      exact r1
    · exact (h.blk hs (h.ri i c hc) (by simp) (by intro h1; injection h1 with h1; exact e h1)).2

/-- What Unset answers. -/
def UnsetPost (role : Nat → Role) (w : World) (B S K V L : Nat) (vk vd : Value) (n : Nat) (st : StT) (id : Int) (key : ByteArray) (e : Ending) (w' : World) : Prop :=
  e = .returned (.int .i64 (if st.val id key = none then 84 else 0)) ∧ ∃ role' ib' sl', Moved role w role' w' ∧ StoreIn w' B role' S K V L vk vd ib' sl' n (if st.val id key = none then st else unsetSt st id key)

open Classical in
set_option maxHeartbeats 2000000 in
set_option maxRecDepth 100000 in
theorem unset_c (h : StoreIn w B role S K V L vk vd ib sl n st) (hB : B ≤ w.heap.size) {id : Int} (hid : (Lit.int .i64 id).wf = true) {key : ByteArray} (hkey : key.size ≤ maxLen) :
    Calls Tryz.prog 19 #[.pointer (some ⟨S, 0, none⟩), .int .i64 id, .string key] w (UnsetPost role w B S K V L vk vd n st id key) := by
  have HG := Lib.hid (get_c h hB hid hkey)
  have HH := Lib.hid h
  cases hv : st.val id key with
  | none =>
    have HE : Hid (∀ w', Below w.heap.size w w' → UnsetPost role w B S K V L vk vd n st id key (.returned (.int .i64 84)) w') := fun w' hb => by
      unfold UnsetPost
      rw [if_pos hv, if_pos hv]
      exact ⟨rfl, role, ib, sl, Moved.of_below HH.out.hi hb, HH.out.below hB hb⟩
    rw [hv] at HG
    generalize UnsetPost role w B S K V L vk vd n st id key = Q at HE ⊢
    clear hv h
    unfold GetPost at HG
    simp only [] at HG
    go_enter Tryz.func19, Tryz.ntmps19
    go_wp2_with (go_at_call 13; refine HG.out.mono ?_; rintro e w2 ⟨rfl, hb2⟩)
    have HF := Lib.hid (HE.out _ (below_tr hb2 (below1 w2 (.cells #[.int .i64 0, .int .i64 0, .string ⟨#[]⟩, .slice none 0 0] 31))))
    exact HF.out
  | some v =>
    have HE : Hid (∀ w' role', Moved role w role' w' → StoreIn w' B role' S K V L vk vd ib sl n (unsetSt st id key) → UnsetPost role w B S K V L vk vd n st id key (.returned (.int .i64 0)) w') := fun w' role' hm hs => by
      unfold UnsetPost
      rw [if_neg (by rw [hv]; simp), if_neg (by rw [hv]; simp)]
      exact ⟨rfl, role', ib, sl, hm, hs⟩
    obtain ⟨b, hib⟩ : ∃ b, ib id = some b := by
      cases hi : ib id with
      | some b => exact ⟨b, rfl⟩
      | none => have := h.hasv id key hi; rw [hv] at this; cases this
    rw [hv] at HG
    generalize UnsetPost role w B S K V L vk vd n st id key = Q at HE ⊢
    clear hv
    unfold GetPost at HG
    simp only [] at HG
    generalize v.list.length = vln at HG
    go_enter Tryz.func19, Tryz.ntmps19
    go_upto_region 2 with (go_at_call 13; refine HG.out.mono ?_; rintro e w2 ⟨⟨a2, c2, rfl, _⟩, hb2⟩)
    obtain ⟨w3, hw3⟩ : ∃ w3, w2.alloc (.cells #[.int .i64 v.kind, .int .i64 v.num, .string v.text, .slice a2 vln c2] 31) = w3 := ⟨_, rfl⟩
    have HB3 : Hid (Below w.heap.size w w3) := by
      rw [← hw3]
      exact below_tr hb2 (below1 _ _)
    rw [hw3]
    have HS3 := Lib.hid (h.below hB HB3.out)
    have b2 := HS3.out.box.cell (j := 2) rfl
    have hl1 : (Instr.lookup 58 (.map (some V)) (.int .i64 id) false).run Tryz.prog w3 = .ok (.map (some b)) w3 := by
      have := HS3.out.look_values hid
      rw [hib] at this
      exact this
    obtain ⟨w4, hrun, hm4, hg4, _⟩ := (HS3.out.inner id b hib).run_drop (key := .string key) (kl := .string key.data.toList) keyed9 Tryz.underlying66 (key9 hkey) (fun u => if u = .string key then none else innerF (st.val id) (sl id) u) (if_pos rfl) (fun u hu => if_neg hu) 0
    have HF : Hid (Q (.returned (.int .i64 0)) w4) := by
      obtain ⟨role', q1, q2⟩ := h.drop_step hB HB3.out hib (if_pos rfl) (fun u hu => if_neg hu) hm4 hg4
      exact HE.out _ _ q1 q2
    clear hw3 hm4 hg4 hb2 h
    go_wp2_with fail
    exact HF.out
end
end Go.Proofs.YtnplmembdfklcaaGreatDoor
namespace Go.Proofs.YtnplmembdfklcaaGreatDoor
set_option linter.unusedVariables false
set_option linter.unusedSimpArgs false
open Go.RowKit Go.Maps Go.Shelf Go.WideElems

theorem extraJoin : Builder.Extra Tryz.prog Tryz.layJoin_ren where
  sizeBuilder := by kernel_rfl
  liesBuilder := by kernel_rfl
  t5 := Tryz.underlying5
  a5 := Tryz.isAgg5
  z5 := Tryz.sizeOf5
  v5 := Tryz.zeroValue5
  infoByte := by kernel_rfl
  cellsByte := by kernel_rfl
  sizeByte := by kernel_rfl
  neB5 := by decide

def joinT (xs : List ByteArray) : ByteArray := ⟨(Lib.join (xs.map bs) [32]).toArray⟩
theorem join_split : ∀ (l : List (List UInt8)), l ≠ [] → (∀ x ∈ l, (32 : UInt8) ∉ x) → splitC 32 (Lib.join l [32]) = l
  | [], h, _ => absurd rfl h
  | [x], _, h => by rw [Lib.join_one]; exact split_end' x (h x (by simp))
  | x :: y :: r, _, h => by
    have e : Lib.join (x :: y :: r) [32] = x ++ 32 :: Lib.join (y :: r) [32] := by
      unfold Lib.join
      simp [List.intercalate]
    rw [e, split_app' x _ (h x (by simp)), join_split (y :: r) (by simp) (fun z hz => h z (by simp [hz]))]
where
  split_end' : ∀ (x : List UInt8), (32 : UInt8) ∉ x → splitC 32 x = [x]
    | [], _ => rfl
    | b :: x, h => by rw [splitC_cons, if_neg (fun e => h (by simp [e])), split_end' x (fun e => h (by simp [e]))]
  split_app' : ∀ (x y : List UInt8), (32 : UInt8) ∉ x → splitC 32 (x ++ 32 :: y) = x :: splitC 32 y
    | [], y, _ => by show splitC 32 (32 :: y) = _; rw [splitC_cons, if_pos rfl]
    | b :: x, y, h => by
      show splitC 32 (b :: (x ++ 32 :: y)) = _
      rw [splitC_cons, if_neg (fun e => h (by simp [e])), split_app' x y (fun e => h (by simp [e]))]
theorem joinT_inj {xs ys : List ByteArray} (hx : xs ≠ []) (hy : ys ≠ []) (h1 : ∀ x ∈ xs, (32 : UInt8) ∉ bs x) (h2 : ∀ x ∈ ys, (32 : UInt8) ∉ bs x) (h : joinT xs = joinT ys) : xs = ys := by
  have e : Lib.join (xs.map bs) [32] = Lib.join (ys.map bs) [32] := by
    have := congrArg bs h
    exact this
  have e1 := join_split (xs.map bs) (by simpa using hx) (fun x hxm => by obtain ⟨z, hz, rfl⟩ := List.mem_map.1 hxm; exact h1 z hz)
  have e2 := join_split (ys.map bs) (by simpa using hy) (fun x hxm => by obtain ⟨z, hz, rfl⟩ := List.mem_map.1 hxm; exact h2 z hz)
  rw [e, e2] at e1
  have := congrArg (List.map mkB) e1
  rw [List.map_map, List.map_map, show mkB ∘ bs = id from funext mkB_bs, List.map_id, List.map_id] at this
  exact this.symm
theorem join_len : ∀ (l : List (List UInt8)) (n : Nat), (∀ x ∈ l, x.length ≤ n) → (Lib.join l [32]).length ≤ l.length * (n + 1)
  | [], n, _ => by simp [Lib.join_nil]
  | [x], n, h => by rw [Lib.join_one]; have := h x (by simp); simp; omega
  | x :: y :: r, n, h => by
    have e : Lib.join (x :: y :: r) [32] = x ++ 32 :: Lib.join (y :: r) [32] := by
      unfold Lib.join
      simp [List.intercalate]
    have ih := join_len (y :: r) n (fun z hz => h z (by simp [hz]))
    have := h x (by simp)
    rw [e, List.length_append, List.length_cons, List.length_cons, Nat.add_mul]
    omega
theorem join_c {w0 w : World} {v : Value} {l : List ByteArray} (h : OwnS w0 v l w) (hl : l.length ≤ 64) (hs : ∀ s ∈ l, s.size ≤ 60) :
    Calls Tryz.prog 31 #[v, .string ⟨#[32]⟩] w fun e w' => e = .returned (.string (joinT l)) ∧ Below w.heap.size w w' := by
  have hlen : (Lib.join (l.map (·.data.toList)) [32]).length ≤ 140737488355328 := by
    have := join_len (l.map (·.data.toList)) 60 (fun x hx => by
      obtain ⟨z, hz, rfl⟩ := List.mem_map.1 hx
      have := hs z hz
      rw [← bs_len] at this
      exact this)
    rw [List.length_map] at this
    omega
  rcases h.1.2 with ⟨rfl, h0⟩ | ⟨g, cap, cur, rfl, _, hg, hnc, hcm, _⟩
  · have := List.length_eq_zero_iff.1 h0
    subst this
    exact (Any.strings_Join_none Tryz.layJoin extraJoin none 0 ⟨#[32]⟩ w).mono fun e w' ⟨he, hw⟩ => ⟨he, hw ▸ Below.refl _ _⟩
  · refine (Any.strings_Join Tryz.layJoin extraJoin g 0 cap l ⟨#[32]⟩ w (fun j x hx => ?_) (Array.getElem?_eq_some_iff.1 hg).1 (by omega) hnc hlen).mono fun e w' h => h
    rw [Nat.zero_add]
    exact ownsRow_cell h.1 (by rw [List.getElem?_map, hx]; rfl)

/-- A map, and how many keys it has. -/
def MapC (P : Program) (k : TypeId) (w : World) (b n : Nat) (f : Value → Option Value) (c : Nat) : Prop :=
  ∃ D : DataW Value, w.ownsMap P k rawE b n D ∧ (∀ v kl, keyOf P k v = some kl → has D kl = (f v).isSome ∧ ∀ x, f v = some x → ∀ z, D.atKey kl z = .held x) ∧ size D = c
theorem MapC.at_ {P : Program} {k : TypeId} {w : World} {b n : Nat} {f : Value → Option Value} {c : Nat} (h : MapC P k w b n f c) : MapAt P k w b n f := by
  obtain ⟨D, h1, h2, _⟩ := h
  exact ⟨D, h1, h2⟩
theorem MapC.made (P : Program) (k : TypeId) (w : World) : MapC P k (w.alloc (.map #[] 0)) w.heap.size 0 (fun _ => none) 0 :=
  ⟨.map [], World.ownsMap_made _ _ _ _, fun v kl _ => ⟨rfl, fun x h => by cases h⟩, rfl⟩
theorem MapC.block {P : Program} {k : TypeId} {w w' : World} {b n : Nat} {f : Value → Option Value} {c : Nat} (h : MapC P k w b n f c) (hb : w'.heap[b]? = w.heap[b]?) : MapC P k w' b n f c := by
  obtain ⟨D, ⟨es, clock, h1, h2⟩, hf⟩ := h
  exact ⟨D, ⟨es, clock, hb.trans h1, h2⟩, hf⟩
theorem MapC.len {P : Program} {k e t : TypeId} {w : World} {b n : Nat} {f : Value → Option Value} {c : Nat} (h : MapC P k w b n f c) (ht : P.underlying t = some (.map k e)) (ty : TypeId) : (Builtin.len_ #[t] ty #[.map (some b)]).run P w = .ok (.int .i64 c) w := by
  obtain ⟨D, h1, _, rfl⟩ := h
  exact h1.len ht ty
theorem MapC.run_store {P : Program} {k e t : TypeId} {w : World} {b n : Nat} {f : Value → Option Value} {c : Nat} (h : MapC P k w b n f c) (K : Keyed P k) (ht : P.underlying t = some (.map k e)) (hn : n < maxLen)
    {key val : Value} {kl : Lit} (hkey : keyOf P k key = some kl) (f' : Value → Option Value) (hf1 : f' key = some val) (hf2 : ∀ u, u ≠ key → f' u = f u) :
    ∃ w', (Instr.mapUpdate t (.map (some b)) key val).run P w = .ok () w' ∧ MapC P k w' b (n + 1) f' (if (f key).isSome then c else c + 1) ∧ w.grownBy w' (some b) ∧ w'.heap.size = w.heap.size := by
  obtain ⟨D, h1, h2, h3⟩ := h
  obtain ⟨w', hrun, r1, r2⟩ := h1.store K ht hn hkey (d := .held val) (ps := []) rfl
  refine ⟨w', hrun, ⟨_, r1, fun u ul hul => ?_, ?_⟩, r2.grown, ?_⟩
  · by_cases hu : u = key
    · subst hu
      have : ul = kl := by rw [hkey] at hul; exact (Option.some.inj hul).symm
      subst this
      refine ⟨?_, fun y hy => ?_⟩
      · rw [has_put_same h1.isMap (K.key hkey), hf1]; rfl
      · rw [hf1] at hy
        cases hy
        exact fun z => atKey_put_same h1.isMap (K.key hkey) _ _
    · have hne : ul ≠ kl := fun h => hu (K.inj (h ▸ hul) hkey)
      rw [has_put_other hne, hf2 u hu]
      refine ⟨(h2 u ul hul).1, fun y hy z => ?_⟩
      rw [atKey_put_other hne]
      exact (h2 u ul hul).2 y hy z
  · rw [size_put (h1.tidy K), (h2 key kl hkey).1, h3]
  · obtain ⟨es, clock, es', clock', hb, rfl⟩ := r2
    simp [Go.ChangeMaps.setBlock]
/-- A map without a key, or with one. -/
theorem MapAt.sized {w : World} {b n : Nat} {f : Value → Option Value} (h : MapAt Tryz.prog 9 w b n f) : ∃ c, MapC Tryz.prog 9 w b n f c ∧ (c = 0 → ∀ v kl, keyOf Tryz.prog 9 v = some kl → f v = none) ∧ (c ≠ 0 → ∃ s : ByteArray, f (.string s) ≠ none) := by
  obtain ⟨D, h1, h2⟩ := h
  refine ⟨size D, ⟨D, h1, h2, rfl⟩, fun h0 v kl hv => ?_, fun hne => ?_⟩
  · have h3 := (h2 v kl hv).1
    have h4 : has D kl = false := by
      obtain ⟨es, clock, _, _, _, rfl⟩ := h1
      have e : (List.foldr DataW.insert [] (es.toList.map (rg Tryz.prog 9 rawE))) = [] := List.length_eq_zero_iff.1 h0
      rw [e]; rfl
    rw [h4] at h3
    cases hf : f v with
    | none => rfl
    | some y => rw [hf] at h3; cases h3
  · have h1' := h1
    obtain ⟨es, clock, _, F, _, rfl⟩ := h1
    have hes : es.toList ≠ [] := fun e => hne (by rw [size_eq, length_sorted, List.length_map, e]; rfl)
    obtain ⟨x, r, hx⟩ := List.exists_cons_of_ne_nil hes
    have hxm : x ∈ es.toList := by rw [hx]; simp
    obtain ⟨y, hy⟩ := F.reads x hxm
    have hk := rd_key hy
    obtain ⟨s, hs⟩ := keyOf_string_inv Tryz.underlying9 hk
    refine ⟨s, fun e => ?_⟩
    have h3 := (h2 _ _ hk).1
    rw [hs] at h3
    rw [e] at h3
    have h4 : has (DataW.map (List.foldr DataW.insert [] (es.toList.map (rg Tryz.prog 9 rawE)))) y.1 = true := by
      rw [has_eq, List.any_eq_true]
      refine ⟨y, (Go.WideShapes.sorted_perm _).mem_iff.2 (List.mem_map.2 ⟨x, hxm, rg_of hy⟩), ?_⟩
      exact WideAt.sameKey_self (keyed9.key hk)
    rw [h4] at h3
    cases h3
end Go.Proofs.YtnplmembdfklcaaGreatDoor
namespace Go.Proofs.YtnplmembdfklcaaGreatDoor
set_option linter.unusedVariables false
set_option linter.unusedSimpArgs false
open Go.RowKit Go.Maps

/-- The keys that a package has, rising. -/
def IsSch (st : StT) (id : Int) (l : List ByteArray) : Prop := RisingS l ∧ ∀ k, k ∈ l ↔ st.val id k ≠ none
open Classical in
noncomputable def schT (st : StT) (id : Int) : List ByteArray := if h : ∃ l, IsSch st id l then h.choose else []
theorem schT_eq {st : StT} {id : Int} {l : List ByteArray} (h : IsSch st id l) : schT st id = l := by
  unfold schT
  have hx : ∃ l, IsSch st id l := ⟨l, h⟩
  rw [dif_pos hx]
  exact risingS_ext hx.choose_spec.1 h.1 fun x => (hx.choose_spec.2 x).trans (h.2 x).symm
open Classical in
noncomputable def cntG {α : Type} : List α → Nat
  | [] => 0
  | x :: l => cntG l + if x ∈ l then 0 else 1
noncomputable def jn (st : StT) (ids : List Int) : List ByteArray := ids.map fun id => joinT (schT st id)
/-- What Schemas answers. -/
def SchemasPost (st : StT) (w : World) (e : Ending) (w' : World) : Prop :=
  ∃ (ids : List Int) (c : Nat), e = .returned (.int .i64 c) ∧ (∀ id, id ∈ ids ↔ ∃ k, st.val id k ≠ none) ∧ c = cntG (jn st ids) ∧ Below w.heap.size w w'

theorem ranges_to {w w' : World} {b r n : Nat} {D : DataW Value} {left : Lit → Bool} {cnt : Nat} (h : w.ranges Tryz.prog 3 rawE b r n D left cnt) (h1 : w'.heap[b]? = w.heap[b]?) (h2 : w'.heap[r]? = w.heap[r]?) : w'.ranges Tryz.prog 3 rawE b r n D left cnt := by
  obtain ⟨es, clock, since, seen, c0, e1, e2, e3, e4, e5, e6⟩ := h
  exact ⟨es, clock, since, seen, c0, h1.trans e1, e2, e3, e4, h2.trans e5, e6⟩

/-- What the loop keeps: the counting map lies at H, the loop's state at H + 1. -/
structure CInv (w : World) (V n : Nat) (D : DataW Value) (st : StT) (left : Lit → Bool) (cnt : Nat) (ids : List Int) (f : Value → Option Value) (c : Nat) (wr : World) : Prop where
  rg : wr.ranges Tryz.prog 3 rawE V (w.heap.size + 1) n D left cnt
  below : Below w.heap.size w wr
  seen : MapC Tryz.prog 9 wr w.heap.size ids.length f c
  ints : ∀ v x, f v = some x → ∃ k : Int, x = .int .i64 k
  keys : ∀ s : ByteArray, f (.string s) ≠ none ↔ s ∈ jn st ids
  cnt_ : c = cntG (jn st ids)
  nodup : ids.Nodup
  mem : ∀ id, id ∈ ids ↔ (left (.int .i64 id) = false ∧ ∃ k, st.val id k ≠ none)
  sub : ∀ kl, left kl = true → has D kl = true
theorem CInv.small {w : World} {V n : Nat} {D : DataW Value} {st : StT} {left : Lit → Bool} {cnt : Nat} {ids : List Int} {f : Value → Option Value} {c : Nat} {wr : World} (h : CInv w V n D st left cnt ids f c wr) (hok : StOK st) : ids.length ≤ 65536 :=
  nodup_len 65536 ids h.nodup fun x hx => by
    obtain ⟨_, k, hk⟩ := (h.mem x).1 hx
    cases hv : st.val x k with
    | none => exact absurd hv hk
    | some v => have := (hok x k v hv).2; omega
theorem CInv.skip {w : World} {V n : Nat} {D : DataW Value} {st : StT} {left : Lit → Bool} {cnt cnt1 : Nat} {ids : List Int} {f : Value → Option Value} {c : Nat} {wr w2 : World} {id : Int} (h : CInv w V n D st left cnt ids f c wr)
    (hrg : w2.ranges Tryz.prog 3 rawE V (w.heap.size + 1) n D (fun z => left z && !z.sameKey (.int .i64 id)) cnt1) (hg : wr.grownBy w2 (some (w.heap.size + 1))) (hl : left (.int .i64 id) = true) (hno : ∀ k, st.val id k = none) :
    CInv w V n D st (fun z => left z && !z.sameKey (.int .i64 id)) cnt1 ids f c w2 := by
  refine ⟨hrg, h.below.grown hg h.below.size (fun k e => by cases e; omega), h.seen.block (hg.block _ h.seen.at_.lt (by simp)), h.ints, h.keys, h.cnt_, h.nodup, fun x => ?_, fun kl hk => h.sub kl (by rw [Bool.and_eq_true] at hk; exact hk.1)⟩
  rw [h.mem x, sameKey_int]
  by_cases e : x = id
  · subst e
    constructor
    · rintro ⟨h1, h2⟩; rw [hl] at h1; cases h1
    · rintro ⟨_, k, hk⟩; exact absurd (hno k) hk
  · simp [e]
theorem CInv.add {w : World} {V n : Nat} {D : DataW Value} {st : StT} {left : Lit → Bool} {cnt cnt1 : Nat} {ids : List Int} {f f' : Value → Option Value} {c : Nat} {wr w2 w6 w7 : World} {id : Int} (h : CInv w V n D st left cnt ids f c wr) (hV : V < w.heap.size)
    (hrg : w2.ranges Tryz.prog 3 rawE V (w.heap.size + 1) n D (fun z => left z && !z.sameKey (.int .i64 id)) cnt1) (hg : wr.grownBy w2 (some (w.heap.size + 1))) (hl : left (.int .i64 id) = true) (hyes : ∃ k, st.val id k ≠ none)
    (hb : Below w2.heap.size w2 w6) (hg7 : w6.grownBy w7 (some w.heap.size)) {k : Int} (hm : MapC Tryz.prog 9 w7 w.heap.size (ids.length + 1) f' (if (f (.string (joinT (schT st id)))).isSome then c else c + 1)) (hf1 : f' (.string (joinT (schT st id))) = some (.int .i64 k)) (hf2 : ∀ u, u ≠ .string (joinT (schT st id)) → f' u = f u) :
    CInv w V n D st (fun z => left z && !z.sameKey (.int .i64 id)) cnt1 (id :: ids) f' (if (f (.string (joinT (schT st id)))).isSome then c else c + 1) w7 := by
  have hb2 : Below w.heap.size w w2 := h.below.grown hg h.below.size (fun k e => by cases e; omega)
  have hb6 : Below w.heap.size w w6 := hb2.trans (below_to hb hb2.size)
  have hlt := hrg.lt
  refine ⟨?_, hb6.grown hg7 hb6.size (fun k e => by cases e; exact Nat.le_refl _), hm, fun v x hx => ?_, fun s => ?_, ?_, ?_, fun x => ?_, fun kl hk => h.sub kl (by rw [Bool.and_eq_true] at hk; exact hk.1)⟩
  · refine ranges_to hrg ?_ ?_
    · rw [hg7.block V (Nat.lt_of_lt_of_le hV hb6.size) (fun e => by injection e with e; omega), hb.block V (Nat.lt_of_lt_of_le hV hb2.size)]
    · rw [hg7.block _ (Nat.lt_of_lt_of_le hlt hb.size) (fun e => by injection e with e; omega), hb.block _ hlt]
  · by_cases e : v = .string (joinT (schT st id))
    · subst e
      rw [hf1] at hx
      cases hx
      exact ⟨_, rfl⟩
    · rw [hf2 v e] at hx
      exact h.ints v x hx
  · show _ ↔ s ∈ joinT (schT st id) :: jn st ids
    rw [List.mem_cons]
    by_cases e : s = joinT (schT st id)
    · subst e
      rw [hf1]
      simp
    · rw [hf2 _ (fun h => e (by injection h)), h.keys s]
      simp [e]
  · show _ = cntG (joinT (schT st id) :: jn st ids)
    rw [cntG, ← h.cnt_]
    have h1 := h.keys (joinT (schT st id))
    by_cases e : joinT (schT st id) ∈ jn st ids
    · rw [if_pos e, if_pos (by rw [Option.isSome_iff_ne_none]; exact h1.2 e)]
      rfl
    · rw [if_neg e, if_neg (fun hs => e (h1.1 (by rw [Option.isSome_iff_ne_none] at hs; exact hs)))]
  · refine List.nodup_cons.2 ⟨fun hm => ?_, h.nodup⟩
    have := ((h.mem id).1 hm).1
    rw [hl] at this
    cases this
  · rw [List.mem_cons, h.mem x, sameKey_int]
    by_cases e : x = id
    · subst e; simp [hyes]
    · simp [e]

section
variable {w : World} {B : Nat} {role : Nat → Role} {S K V L : Nat} {vk vd : Value} {ib : Int → Option Nat} {sl : Int → ByteArray → Value} {n : Nat} {st : StT}
open Classical in
set_option maxHeartbeats 8000000 in
set_option maxRecDepth 100000 in
theorem schemas_c (h : StoreIn w B role S K V L vk vd ib sl n st) (hB : B ≤ w.heap.size) (hk : KeysOK st) (hok : StOK st) :
    Calls Tryz.prog 11 #[.pointer (some ⟨S, 0, none⟩)] w (SchemasPost st w) := by
  obtain ⟨w1, hw1⟩ : ∃ w1, w.alloc (.map #[] 0) = w1 := ⟨_, rfl⟩
  have HW1 : Hid (Below w.heap.size w w1 ∧ w1.heap.size = w.heap.size + 1 ∧ MapC Tryz.prog 9 w1 w.heap.size 0 (fun _ => none) 0) := by
    rw [← hw1]
    exact ⟨below1 _ _, by simp, MapC.made _ _ _⟩
  have HS1 := Lib.hid (h.below hB HW1.out.1)
  have b2 := HS1.out.box.cell (j := 2) rfl
  have HV := HS1.out.values
  have hVlt : Hid (V < w.heap.size) := h.values.lt
  obtain ⟨D, hD, hDf⟩ := HV
  replace hDf := Lib.hid hDf
  have HK := Lib.hid hk
  have HOK := Lib.hid hok
  have HB := Lib.hid hB
  have HH := Lib.hid h
  have hmm := @run_makeMap Tryz.prog
  have HE : Hid (∀ ids c w', (∀ id, id ∈ ids ↔ ∃ k, st.val id k ≠ none) → c = cntG (jn st ids) → Below w.heap.size w w' → SchemasPost st w (.returned (.int .i64 (c : Nat))) w') := fun ids c w' h1 h2 h3 => ⟨ids, c, rfl, h1, h2, h3⟩
  generalize SchemasPost st w = Q at HE ⊢
  clear h hk hok hB
  go_enter Tryz.func11, Tryz.ntmps11
  go_wp2_with (at_range; refine wpList_range_own _ rfl _ 58 rfl 3 66 keyed3 Tryz.underlying58 rawE V n D rfl hD ?_; intro w0 hrg0 hg0 hs0)
  go_frame
  have hzz : w1.heap.size = w.heap.size + 1 := HW1.out.2.1
  rw [hzz]
  have HI0 : Hid (CInv w V n D st (has D) (size D) [] (fun _ => none) 0 w0) := by
    have hb0 : Below w1.heap.size w1 w0 := ⟨hg0.os, hg0.tape, hg0.output, hg0.size, fun b hb => hg0.block b hb (by simp)⟩
    have hr := hrg0
    rw [hzz] at hr
    refine ⟨hr, HW1.out.1.trans (below_to hb0 HW1.out.1.size), HW1.out.2.2.block (hb0.block _ (by omega)), fun v x hx => (by cases hx), fun s => ?_, rfl, List.nodup_nil, fun id => ?_, fun kl h => h⟩
    · show (none : Option Value) ≠ none ↔ s ∈ ([] : List ByteArray)
      simp
    · constructor
      · intro h; cases h
      · rintro ⟨hf, k, hk⟩
        exfalso
        cases hv : st.val id k with
        | none => exact hk hv
        | some v =>
          have hr := (HOK.out id k v hv).2
          have hwf := key3 (keyWf (i := id) (by omega) (by omega))
          have h3 := (hDf.out _ _ hwf).1
          rw [hf] at h3
          have h4 : ib id = none := by
            cases hi : ib id with
            | none => rfl
            | some b =>
              have h5 : valuesF ib (.int .i64 id) = some (.map (some b)) := by
                show (ib id).map _ = _
                rw [hi]; rfl
              rw [h5] at h3
              cases h3
          rw [HS1.out.hasv id k h4] at hv
          cases hv
  clear hrg0 hg0 hs0 hzz
  go_loopw [4, 5] (fun v4 v5 wr => ∃ left cnt ids f c, Hid (CInv w V n D st left cnt ids f c wr)) (fun _ _ wr => wr.rangeLeft V (w.heap.size + 1))
  case atStart => exact ⟨_, _, _, _, _, HI0⟩
  case round =>
    obtain ⟨left, cnt, ids, f, c, HI⟩ := hrel
    have hrg := HI.out.rg
    go_wp2_with (at_next; refine wpList_next_ranges _ rfl _ rfl 3 keyed3 rawE id id (fun key _ _ => ⟨key, rfl⟩) (fun v _ _ => ⟨v, rfl⟩) V (w.heap.size + 1) n _ _ _ rfl hrg ?_ ?_)
    · intro hc0 hl0
      have HFIN : Hid (Q (.returned (.int .i64 (c : Nat))) wr) := HE.out ids c wr (fun id => by rw [HI.out.mem id]; exact ⟨fun h => h.2, fun h => ⟨hl0 _, h⟩⟩) HI.out.cnt_ HI.out.below
      have hlen := fun ty => HI.out.seen.len Tryz.underlying57 ty
      clear HI hrg hD hc0 hl0 HI0
      go_wp2_with fail
      exact HFIN.out
    · intro x cv kl yd yp w2 cnt1 hkx hlx hvc hat hrg1 hlt hg1 hs1 hen
      obtain ⟨id, rfl, rfl, hidw⟩ := keyOf_int_inv Tryz.underlying3 hkx
      have hh0 := HI.out.sub _ hlx
      obtain ⟨hd1, hd2⟩ := hDf.out _ _ hkx
      rw [hh0] at hd1
      obtain ⟨b, hib⟩ : ∃ b, ib id = some b := by
        cases hi : ib id with
        | some b => exact ⟨b, rfl⟩
        | none =>
          have h5 : valuesF ib (.int .i64 id) = none := by
            show (ib id).map _ = _
            rw [hi]; rfl
          rw [h5] at hd1
          cases hd1
      have hvf : valuesF ib (.int .i64 id) = some (.map (some b)) := by
        show (ib id).map _ = _
        rw [hib]; rfl
      obtain rfl : cv = .map (some b) := by
        have h6 := hat (.held cv)
        rw [hd2 _ hvf] at h6
        simp only [rawE, Option.some.injEq, Prod.mk.injEq] at hvc
        rw [← hvc.1] at h6
        injection h6 with h6
        exact h6.symm
      clear hd1 hd2 hvf hvc hat hh0
      have HB2 : Hid (Below w.heap.size w w2) := HI.out.below.grown hg1 HI.out.below.size (fun k e => by cases e; omega)
      have HX : Hid (left (.int .i64 id) = true ∧ w2.ranges Tryz.prog 3 rawE V (w.heap.size + 1) n D (fun z => left z && !z.sameKey (.int .i64 id)) cnt1 ∧ cnt1 < cnt ∧ wr.grownBy w2 (some (w.heap.size + 1)) ∧ w2.heap.size = wr.heap.size) := ⟨hlx, hrg1, hlt, hg1, hs1⟩
      have HIDW := Lib.hid hidw
      clear hkx hlx hrg1 hlt hg1 hs1 hidw
      have HS2 := Lib.hid (HH.out.below HB.out HB2.out)
      obtain ⟨k2, hm2, hz2, hn2⟩ := (HS2.out.inner id b hib).sized
      have hlen2 := fun ty => hm2.len Tryz.underlying66 ty
      clear hm2
      by_cases hk0 : k2 = 0
      · have hno : ∀ k, st.val id k = none := fun k => by
          cases hv : st.val id k with
          | none => rfl
          | some v =>
            have h1 := nameB_size (HK.out.name k (HK.out.of id k v hv))
            have h2 := hz2 hk0 _ _ (key9 (s := k) (by unfold maxLen; omega))
            have h3 : innerF (st.val id) (sl id) (.string k) ≠ none := by
              show (st.val id k).map _ ≠ none
              rw [hv]; simp
            exact absurd h2 h3
        have HNX := Lib.hid (HI.out.skip HX.out.2.1 HX.out.2.2.2.1 HX.out.1 hno)
        have hpos : ¬ (0 < (k2 : Int)) := by omega
        clear hno hn2 hz2 hk0
        go_wp2_with fail
        go_roundw
        case rel => exact ⟨_, _, _, _, _, HNX⟩
        case measure => rw [HNX.out.rg.left_eq, HI.out.rg.left_eq]; exact HX.out.2.2.1
      · have hyes : ∃ k, st.val id k ≠ none := by
          obtain ⟨s, hs⟩ := hn2 hk0
          refine ⟨s, fun e => hs ?_⟩
          show (st.val id s).map _ = none
          rw [e]; rfl
        have hpos : 0 < (k2 : Int) := by omega
        have HSC := Lib.hid (schema_c HS2.out HK.out HIDW.out)
        have HSZ : Hid (∀ l, IsSch st id l → ∀ s ∈ l, s.size ≤ 60) := fun l hl s hs => by
          have h1 := (hl.2 s).1 hs
          cases hv : st.val id s with
          | none => exact absurd hv h1
          | some v => exact nameB_size (HK.out.name s (HK.out.of id s v hv))
        have HSTEP : Hid (∀ v5 l5 w5 w6, OwnS w2 v5 l5 w5 → IsSch st id l5 → l5.length ≤ 64 → Below w5.heap.size w5 w6 → ∃ (k : Int) (w7 : World), (Instr.lookup 57 (.map (some w.heap.size)) (.string (joinT l5)) false).run Tryz.prog w6 = .ok (.int .i64 k) w6 ∧
            (Instr.mapUpdate 57 (.map (some w.heap.size)) (.string (joinT l5)) (.int .i64 (wrap64 (k + 1)))).run Tryz.prog w6 = .ok () w7 ∧ Hid (∃ f' c', CInv w V n D st (fun z => left z && !z.sameKey (.int .i64 id)) cnt1 (id :: ids) f' c' w7)) := fun v5 l5 w5 w6 ho hs hl hb => by
          have e5 := schT_eq hs
          have hb26 : Below w2.heap.size w2 w6 := below_tr ho.2 hb
          have hm6 : MapC Tryz.prog 9 w6 w.heap.size ids.length f c := (HI.out.seen.block (HX.out.2.2.2.1.block _ HI.out.seen.at_.lt (by simp))).block (hb26.block _ (Nat.lt_of_lt_of_le HI.out.seen.at_.lt (Nat.le_of_eq HX.out.2.2.2.2.symm)))
          have hjs : (joinT l5).size ≤ maxLen := by
            have h1 := join_len (l5.map bs) 60 (fun x hx => by
              obtain ⟨z, hz, rfl⟩ := List.mem_map.1 hx
              have := HSZ.out l5 hs z hz
              rw [bs_len]
              exact this)
            rw [List.length_map] at h1
            have h2 : (joinT l5).size = (Lib.join (l5.map bs) [32]).length := by
              rw [← bs_len]
              rfl
            rw [h2]
            unfold maxLen
            omega
          have hkey := key9 hjs
          obtain ⟨k, hk⟩ : ∃ k : Int, (f (.string (joinT l5))).getD (.int .i64 0) = .int .i64 k := by
            cases hf : f (.string (joinT l5)) with
            | none => exact ⟨0, rfl⟩
            | some x =>
              obtain ⟨k, rfl⟩ := HI.out.ints _ _ hf
              exact ⟨k, rfl⟩
          obtain ⟨w7, hrun, hm7, hg7, _⟩ := hm6.run_store keyed9 Tryz.underlying57 (by have := HI.out.small HOK.out; unfold maxLen; omega) (val := .int .i64 (wrap64 (k + 1))) hkey (fun u => if u = .string (joinT l5) then some (.int .i64 (wrap64 (k + 1))) else f u) (if_pos rfl) (fun u hu => if_neg hu)
          have hm7' : MapC Tryz.prog 9 w7 w.heap.size (ids.length + 1) (fun u => if u = .string (joinT l5) then some (.int .i64 (wrap64 (k + 1))) else f u) (if (f (.string (joinT (schT st id)))).isSome then c else c + 1) := by rw [e5]; exact hm7
          have hadd := HI.out.add hVlt.out HX.out.2.1 HX.out.2.2.2.1 HX.out.1 hyes hb26 hg7 hm7' (k := wrap64 (k + 1)) (by rw [e5]; exact if_pos rfl) (fun u hu => by rw [e5] at hu; exact if_neg hu)
          refine ⟨k, w7, ?_, hrun, ⟨_, _, hadd⟩⟩
          rw [hm6.at_.run_look keyed9 Tryz.underlying57 (Tryz.zeroValue3 w6) hkey, hk]
        clear hyes hn2 hz2 hk0
        go_wp2_with (first | (go_at_call 20; refine HSC.out.mono ?_; rintro e w5 ⟨v5, l5, rfl, ho5, hr5, hm5, hn5⟩) | (go_at_call 31; refine (join_c ho5 hn5 (HSZ.out l5 ⟨hr5, hm5⟩)).mono ?_; rintro e w6 ⟨rfl, hb6⟩; obtain ⟨k7, w7, hlk7, hst7, HC7⟩ := HSTEP.out v5 l5 w5 w6 ho5 ⟨hr5, hm5⟩ hn5 hb6))
        obtain ⟨f7, c7, HC8⟩ := HC7.out
        replace HC8 := Lib.hid HC8
        go_roundw
        case rel => exact ⟨_, _, _, _, _, HC8⟩
        case measure => rw [HC8.out.rg.left_eq, HI.out.rg.left_eq]; exact HX.out.2.2.1
end
end Go.Proofs.YtnplmembdfklcaaGreatDoor
