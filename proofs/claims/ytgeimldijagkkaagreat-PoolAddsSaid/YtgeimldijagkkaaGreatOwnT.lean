/-
  A row of dependencies that grows by appends: what each step leaves. Helper text; the conditions are those typed.
  The document's own: a dependency, and a list of them, in memory of its own: the walks. Helper text; the conditions are those typed.
  The document's own: a list of dependencies: the walk. Helper text; the conditions are those typed.
-/
import Derived.Test.YtgeimldijagkkaaGreatPkgF
import Derived.Test.YtgeimldijagkkaaGreatOrd
import Derived.Deep.CutBlock
namespace Go.Proofs.YtgeimldijagkkaaGreat
set_option linter.unusedVariables false
set_option linter.unusedSimpArgs false
open Go.RowKit Go.Maps

/-- The first i of the dependencies lie in a row of our own, from L on; their lists in other blocks. -/
structure DepRow (w : World) (L : Nat) (vo : Value) (i n : Nat) (args : Fin n → DepT) (xs : List Value) : Prop where
  row : w.ownsRow L 68 5 vo i xs
  has : ∀ j : Fin n, j.val < i → ∃ cs, DepC w (fun b => New L w b ∧ vo.ownBlock ≠ some b) (args j) cs ∧ ∀ r u, cs[r]? = some u → xs[j.val * 5 + r]? = some u
theorem DepRow.nil (w : World) (L n : Nat) (args : Fin n → DepT) : DepRow w L (.slice none 0 0) 0 n args [] :=
  ⟨World.ownsRow_nil _ _ _ _, fun j hj => absurd hj (Nat.not_lt_zero _)⟩
theorem DepRow.keep {w w' : World} {L : Nat} {vo : Value} {i n : Nat} {args : Fin n → DepT} {xs : List Value} (h : DepRow w L vo i n args xs) (hk : ∀ b, L ≤ b → b < w.heap.size → w'.heap[b]? = w.heap[b]?) : DepRow w' L vo i n args xs := by
  refine ⟨ownsRow_to h.row fun g hg => hk g (h.row.lt g hg).1 (h.row.lt g hg).2, fun j hj => ?_⟩
  obtain ⟨cs, h1, h2⟩ := h.has j hj
  exact ⟨cs, h1.keep (fun b hb => ⟨⟨hb.1.1, hb.1.2.keep (hk b hb.1.1 hb.1.2.lt)⟩, hb.2⟩) (fun b hb hl => hk b hb.1.1 hl) (fun _ _ => trivial), h2⟩
theorem DepRow.below {w w' : World} {L : Nat} {vo : Value} {i n : Nat} {args : Fin n → DepT} {xs : List Value} (h : DepRow w L vo i n args xs) (hb : Below w.heap.size w w') : DepRow w' L vo i n args xs := h.keep fun b _ hl => hb.block b hl
/-- One more. -/
theorem DepRow.step {w wa w9 : World} {L : Nat} {vo : Value} {i n : Nat} {args : Fin n → DepT} {xs cs : List Value} (h : DepRow w L vo i n args xs) (hL : L ≤ w.heap.size) (hb : Below w.heap.size w wa) (hi : i < n) (hv : DepC wa (New w.heap.size wa) (args ⟨i, hi⟩) cs) {g cap : Nat}
    (hown : w9.ownsRow L 68 5 (.slice (some ⟨g, 0, none⟩) (i + 1) cap) (i + 1) (xs ++ cs)) (hgrow : wa.grownBy w9 vo.ownBlock) (hat : vo.ownBlock = some g ∨ g = wa.heap.size) : DepRow w9 L (.slice (some ⟨g, 0, none⟩) (i + 1) cap) (i + 1) n args (xs ++ cs) := by
  have hxl : xs.length = i * 5 := h.row.1
  have hsz := hb.size
  refine ⟨hown, fun j hj => ?_⟩
  have hgb : ∀ b, (Value.slice (some ⟨g, 0, none⟩) (i + 1) cap).ownBlock ≠ some b ↔ b ≠ g := fun b => by
    show some g ≠ some b ↔ b ≠ g
    constructor
    · intro h e; exact h (by rw [e])
    · intro h e; exact h (Option.some.inj e).symm
  by_cases e : j.val = i
  · obtain rfl : j = ⟨i, hi⟩ := Fin.ext e
    have hne : ∀ b, New w.heap.size wa b → vo.ownBlock ≠ some b ∧ b ≠ g := fun b hb' => by
      refine ⟨fun e => ?_, fun e => ?_⟩
      · have := (h.row.lt b e).2
        have := hb'.1
        omega
      · subst e
        rcases hat with h1 | h1
        · have := (h.row.lt b h1).2
          have := hb'.1
          omega
        · have := hb'.2.lt
          omega
    refine ⟨cs, hv.keep (fun b hb' => ⟨⟨by have := hb'.1; omega, hb'.2.keep (hgrow.block b hb'.2.lt (fun e => (hne b hb').1 e.symm))⟩, (hgb b).2 (hne b hb').2⟩) (fun b hb' hl => hgrow.block b hl (fun e => (hne b hb').1 e.symm)) (fun _ _ => trivial), fun r u hr => ?_⟩
    rw [List.getElem?_append_right (by simp only; omega), hxl]
    simp only
    rw [show i * 5 + r - i * 5 = r by omega]
    exact hr
  · obtain ⟨c2, h1, h2⟩ := h.has j (by omega)
    have hk : ∀ b, New L w b ∧ vo.ownBlock ≠ some b → w9.heap[b]? = w.heap[b]? := fun b hb' =>
      (hgrow.block b (Nat.lt_of_lt_of_le hb'.1.2.lt hsz) (fun e => hb'.2 e.symm)).trans (hb.block b hb'.1.2.lt)
    have hng : ∀ b, New L w b ∧ vo.ownBlock ≠ some b → b ≠ g := fun b hb' e => by
      subst e
      rcases hat with h1 | h1
      · exact hb'.2 h1
      · have := hb'.1.2.lt
        omega
    refine ⟨c2, h1.keep (fun b hb' => ⟨⟨hb'.1.1, hb'.1.2.keep (hk b hb')⟩, (hgb b).2 (hng b hb')⟩) (fun b hb' _ => hk b hb') (fun _ _ => trivial), fun r u hr => ?_⟩
    have hr5 : r < 5 := by
      have := (List.getElem?_eq_some_iff.1 hr).1
      rwa [h1.len] at this
    rw [List.getElem?_append_left (by omega)]
    exact h2 r u hr
/-- All of them. -/
theorem DepRow.deps {w : World} {L : Nat} {vo : Value} {n : Nat} {args : Fin n → DepT} {xs : List Value} (h : DepRow w L vo n n args xs) (hn : n * 72 ≤ 140737488355328) : (∃ a c, vo = .slice a n c) ∧ DepsV w (New L w) n args vo := by
  rcases h.row.2 with ⟨e, h0⟩ | ⟨g, cap, cur, e, hg, hat, hcap, _, hsz, htake⟩
  · subst h0
    exact ⟨⟨none, 0, e⟩, none, 0, e, hn, fun h => absurd rfl h⟩
  · refine ⟨⟨_, cap, e⟩, _, cap, e, hn, fun h0 => ⟨g, 0, rfl, ⟨hg, _, _, hat⟩, fun j => ?_⟩⟩
    obtain ⟨cs, h1, h2⟩ := h.has j j.2
    refine ⟨cs, h1.keep (fun b hb => hb.1) (fun _ _ _ => rfl) (fun _ _ => trivial), fun r u hr => ?_⟩
    refine cell_of hat ?_
    have h5 := h2 r u hr
    have hlt := (List.getElem?_eq_some_iff.1 h5).1
    rw [h.row.1] at hlt
    rw [← htake, List.getElem?_take_of_lt hlt] at h5
    rw [Nat.zero_add, ← Array.getElem?_toList]
    exact h5
theorem DepRow.form {w : World} {L : Nat} {vo : Value} {i n : Nat} {args : Fin n → DepT} {xs : List Value} (h : DepRow w L vo i n args xs) : ∃ a c, vo = .slice a i c := by
  rcases h.row.2 with ⟨e, h0⟩ | ⟨g, cap, cur, e, _⟩
  · subst h0; exact ⟨none, 0, e⟩
  · exact ⟨_, cap, e⟩
theorem DepC.cells1 {w : World} {S : Nat → Prop} {d : DepT} {cs : List Value} (h : DepC w S d cs) : ∀ u ∈ cs, u.oneCell' = true := one_cells h
theorem DepC.shape {w : World} {S : Nat → Prop} {d : DepT} {cs : List Value} (h : DepC w S d cs) : ∃ k nm op ev a n c, cs = [.int .i64 k, .string nm, .int .i64 op, .string ev, .slice a n c] := by
  cases d with
  | mk k nm op ev n args =>
    obtain ⟨a, c, rfl, _⟩ := h
    exact ⟨_, _, _, _, _, _, _, rfl⟩
theorem fill5 {w : World} {r : Nat} {z0 z1 z2 z3 z4 : Value} {ty : TypeId} (h : BoxN w r [z0, z1, z2, z3, z4] ty) (x0 x1 x2 x3 x4 : Value) :
    BoxN (((((w.setCell ⟨r, 0, none⟩ x0).setCell ⟨r, 1, none⟩ x1).setCell ⟨r, 2, none⟩ x2).setCell ⟨r, 3, none⟩ x3).setCell ⟨r, 4, none⟩ x4) r [x0, x1, x2, x3, x4] ty := by
  exact ((((h.set 0 x0).set 1 x1).set 2 x2).set 3 x3).set 4 x4
theorem fill5_other {w : World} {r b : Nat} (hb : b ≠ r) (x0 x1 x2 x3 x4 : Value) :
    (((((w.setCell ⟨r, 0, none⟩ x0).setCell ⟨r, 1, none⟩ x1).setCell ⟨r, 2, none⟩ x2).setCell ⟨r, 3, none⟩ x3).setCell ⟨r, 4, none⟩ x4).heap[b]? = w.heap[b]? := by
  rw [set_other _ hb, set_other _ hb, set_other _ hb, set_other _ hb, set_other _ hb]
theorem fill5_below {B : Nat} {w : World} {r : Nat} (hr : B ≤ r) (x0 x1 x2 x3 x4 : Value) :
    Below B w (((((w.setCell ⟨r, 0, none⟩ x0).setCell ⟨r, 1, none⟩ x1).setCell ⟨r, 2, none⟩ x2).setCell ⟨r, 3, none⟩ x3).setCell ⟨r, 4, none⟩ x4) :=
  below_sc (below_sc (below_sc (below_sc (below_sc (Below.refl _ _) hr _ _) hr _ _) hr _ _) hr _ _) hr _ _
end Go.Proofs.YtgeimldijagkkaaGreat
namespace Go.Proofs.YtgeimldijagkkaaGreat
set_option linter.unusedVariables false
set_option linter.unusedSimpArgs false
open Go.RowKit Go.Maps

/-- What the round knows. -/
structure RoAt (w wr : World) (O R L : Nat) (k : Int) (nm : ByteArray) (op : Int) (ev : ByteArray) (a : Option Addr) (n c : Nat) (args : Fin n → DepT) (i : Nat) (vo : Value) (xs : List Value) : Prop where
  below : Below w.heap.size w wr
  lt : w.heap.size < R ∧ R < O ∧ O < L ∧ L ≤ wr.heap.size
  dbox : BoxN wr w.heap.size [.int .i64 k, .string nm, .int .i64 op, .string ev, .slice a n c] 68
  rbox : BoxN wr R [.int .i64 0, .string ⟨#[]⟩, .int .i64 0, .string ⟨#[]⟩, .slice none 0 0] 68
  obox : BoxN wr O [.int .i64 k, .string nm, .int .i64 op, .string ev, vo] 68
  row : DepRow wr L vo i n args xs

set_option maxHeartbeats 4000000 in
set_option maxRecDepth 100000 in
theorem rown_c0 (k : Int) (nm : ByteArray) (op : Int) (ev : ByteArray) (n : Nat) (args : Fin n → DepT)
    (ih : ∀ i : Fin n, ∀ (cs : List Value) (S : Nat → Prop) (w : World), DepC w S (args i) cs → Calls Tryz.prog 36 #[.agg cs.toArray] w fun e w' => (∃ cs', e = .returned (.agg cs'.toArray) ∧ DepC w' (New w.heap.size w') (args i) cs') ∧ Below w.heap.size w w') :
    ∀ (cs : List Value) (S : Nat → Prop) (w : World), DepC w S (.mk k nm op ev n args) cs → Calls Tryz.prog 36 #[.agg cs.toArray] w fun e w' => (∃ cs', e = .returned (.agg cs'.toArray) ∧ DepC w' (New w.heap.size w') (.mk k nm op ev n args) cs') ∧ Below w.heap.size w w' := by
  intro cs S w h
  obtain ⟨a, c, rfl, hk, hnm, hev, hn, hin⟩ := h
  have hIN := Lib.hid hin
  have IH := Lib.hid ih
  have HE : Hid (∀ w' v, DepsV w' (New w.heap.size w') n args v → DepC w' (New w.heap.size w') (.mk k nm op ev n args) [.int .i64 k, .string nm, .int .i64 op, .string ev, v]) := fun w' v hv => depC_iff.2 ⟨v, rfl, hk, hnm, hev, hv⟩
  clear hin ih hk hnm hev
  go_enter Tryz.func36, Tryz.ntmps36
  go_wp2_with fail
  generalize e3 : (((w.alloc (.cells #[.int .i64 k, .string nm, .int .i64 op, .string ev, .slice a n c] 68)).alloc (.cells #[.int .i64 0, .string ⟨#[]⟩, .int .i64 0, .string ⟨#[]⟩, .slice none 0 0] 68)).alloc (.cells #[.int .i64 k, .string nm, .int .i64 op, .string ev, .slice none 0 0] 68)) = w3
  have H3 : Hid (RoAt w w3 (w.heap.size + 1 + 1) (w.heap.size + 1) (w.heap.size + 1 + 1 + 1) k nm op ev a n c args 0 (.slice none 0 0) []) := by
    rw [← e3]
    refine ⟨((below1 _ _).alloc (by simp) _).alloc (by simp; omega) _, ⟨by omega, by omega, by omega, by simp⟩, ((boxN_alloc w [.int .i64 k, .string nm, .int .i64 op, .string ev, .slice a n c] 68).below (below1 _ _)).below (below1 _ _), ?_, ?_, DepRow.nil _ _ _ _⟩
    · have h1 := boxN_alloc (w.alloc (.cells #[.int .i64 k, .string nm, .int .i64 op, .string ev, .slice a n c] 68)) [.int .i64 0, .string ⟨#[]⟩, .int .i64 0, .string ⟨#[]⟩, .slice none 0 0] 68
      rw [World.size_alloc] at h1
      exact h1.below (below1 _ _)
    · have h1 := boxN_alloc ((w.alloc (.cells #[.int .i64 k, .string nm, .int .i64 op, .string ev, .slice a n c] 68)).alloc (.cells #[.int .i64 0, .string ⟨#[]⟩, .int .i64 0, .string ⟨#[]⟩, .slice none 0 0] 68)) [.int .i64 k, .string nm, .int .i64 op, .string ev, .slice none 0 0] 68
      rw [World.size_alloc, World.size_alloc] at h1
      exact h1
  clear e3
  generalize hL : w.heap.size + 1 + 1 + 1 = L at H3
  clear hL
  generalize hO : w.heap.size + 1 + 1 = O at H3 ⊢
  clear hO
  generalize hR : w.heap.size + 1 = R at H3 ⊢
  clear hR
  go_loopw [4] (fun vi wr => ∃ i : Nat, vi = .int .i64 i ∧ i ≤ n ∧ Hid (∃ vo xs, RoAt w wr O R L k nm op ev a n c args i vo xs)) (fun vi _ => n - (intOf vi).toNat)
  case atStart => exact ⟨0, rfl, Nat.zero_le _, _, _, H3.out⟩
  case round =>
    clear H3 w3
    obtain ⟨i, rfl, hin, HT0⟩ := hrel
    obtain ⟨vo, xs, hT⟩ := HT0.out
    have HT := Lib.hid hT
    clear hT HT0
    have q4 := HT.out.dbox.cell (j := 4) rfl
    by_cases hlt : i < n
    · have hi1 : (i : Int) < (n : Int) := by omega
      obtain ⟨b, off, rfl, hS, hcs⟩ := hIN.out (by omega)
      obtain ⟨cs, hd, hca⟩ := hcs ⟨i, hlt⟩
      have hIH := IH.out ⟨i, hlt⟩
      obtain ⟨k', nm', op', ev', a', n', c', rfl⟩ := hd.shape
      have HC : Hid (∀ W : World, Below w.heap.size w W → Calls Tryz.prog 36 #[.agg #[.int .i64 k', .string nm', .int .i64 op', .string ev', .slice a' n' c']] W fun e w' => (∃ cs', e = .returned (.agg cs'.toArray) ∧ DepC w' (New W.heap.size w') (args ⟨i, hlt⟩) cs') ∧ Below W.heap.size W w') := fun W hb => hIH _ S W (hd.below hb)
      have hblt : Hid (b < w.heap.size) := World.block_lt_of_cell? w _ (hca 0 _ rfl)
      have HCA : Hid (∀ W : World, W.heap[b]? = w.heap[b]? → W.cell? ⟨b, off + i * 5, none⟩ = some (.int .i64 k') ∧ W.cell? ⟨b, off + i * 5 + 1, none⟩ = some (.string nm') ∧ W.cell? ⟨b, off + i * 5 + 2, none⟩ = some (.int .i64 op') ∧ W.cell? ⟨b, off + i * 5 + 3, none⟩ = some (.string ev') ∧ W.cell? ⟨b, off + i * 5 + 4, none⟩ = some (.slice a' n' c')) := fun W hW => by
        have h1 := hca.keep hW
        exact ⟨h1 0 _ rfl, h1 1 _ rfl, h1 2 _ rfl, h1 3 _ rfl, h1 4 _ rfl⟩
      obtain ⟨ao, co, rfl⟩ := HT.out.row.form
      have HBX : Hid (∀ W : World, W.heap[O]? = wr.heap[O]? → W.heap[w.heap.size]? = wr.heap[w.heap.size]? → W.cell? ⟨O, 4, none⟩ = some (.slice ao i co) ∧ W.cell? ⟨w.heap.size, 4, none⟩ = some (.slice (some ⟨b, off, none⟩) n c)) := fun W h1 h2 => ⟨(HT.out.obox.to h1).cell (j := 4) rfl, (HT.out.dbox.to h2).cell (j := 4) rfl⟩
      clear hcs hd hca hIH hS
      go_upto_region 6 with fail
      refine wp_region_ord (fun W => W.heap[O]? = wr.heap[O]? ∧ W.heap[w.heap.size]? = wr.heap[w.heap.size]? ∧ W.heap[b]? = w.heap[b]?) 11 [(true, 0), (true, 1), (true, 2), (true, 3), (true, 4), (true, 5), (true, 6), (false, 7), (false, 8), (false, 9), (false, 10), (false, 11)] (by kernel_rfl) (by kernel_rfl) (fun _ _ d _ _ h => by cases d <;> exact h) ⟨rfl, rfl, HT.out.below.block b hblt.out⟩ ?_
      intro wd hwd hS
      simp only [ordOps, List.map_cons, List.map_nil, Array.getD_eq_getD_getElem?, List.getElem?_toArray, List.getElem?_cons_succ, List.getElem?_cons_zero, Option.getD_some]
      iterate 7 (refine wpOrd_q rfl _ (fun w' hS' K hK => (by obtain ⟨q1, q2⟩ := HBX.out w' hS'.1 hS'.2.1; obtain ⟨t0, t1, t2, t3, t4⟩ := HCA.out w' hS'.2.2; clear hS'; go_simp; exact hK)) (fun K hK => ?_); go_simp; refine hK _ ?_; clear hK K)
      have HBd : Hid (Below w.heap.size w wd) := by rw [hwd.out]; exact below_dr1 HT.out.below
      have HBr : Hid (Below wr.heap.size wr wd) := by rw [hwd.out]; exact below_dr1 (Below.refl _ _)
      refine wpOrd_l rfl (fun K hK => ?_)
      go_simp
      refine (HC.out wd HBd.out).mono ?_
      rintro e w4 ⟨⟨cs4, rfl, hd4⟩, hb4⟩
      obtain ⟨k4, nm4, op4, ev4, a4, n4, c4, rfl⟩ := hd4.shape
      have HB4 : Hid (Below wr.heap.size wr w4) := below_tr HBr.out hb4
      have HD4 : Hid (DepC w4 (New wr.heap.size w4) (args ⟨i, hlt⟩) [.int .i64 k4, .string nm4, .int .i64 op4, .string ev4, .slice a4 n4 c4]) := hd4.keep (fun b hb => ⟨Nat.le_trans HBr.out.size hb.1, hb.2⟩) (fun _ _ _ => rfl) (fun _ _ => trivial)
      have HLT : Hid (O < wr.heap.size ∧ w.heap.size < wr.heap.size) := ⟨HT.out.obox.lt, HT.out.dbox.lt⟩
      clear hd4 hb4
      go_simp
      refine hK _ _ ⟨fun _ => ⟨HB4.out.block _ HLT.out.1, HB4.out.block _ HLT.out.2, (HB4.out.block _ (Nat.lt_of_lt_of_le hblt.out HT.out.below.size)).trans (HT.out.below.block b hblt.out)⟩, ?_⟩
      clear hK K
      have HB5 : Hid (Below wr.heap.size wr (w4.alloc (.cells #[.int .i64 k4, .string nm4, .int .i64 op4, .string ev4, .slice a4 n4 c4] 68))) := below_tr HB4.out (below1 _ _)
      refine wpOrd_l rfl (fun K hK => ?_)
      go_simp
      refine hK _ _ ⟨fun _ => ⟨HB5.out.block _ HLT.out.1, HB5.out.block _ HLT.out.2, (HB5.out.block _ (Nat.lt_of_lt_of_le hblt.out HT.out.below.size)).trans (HT.out.below.block b hblt.out)⟩, ?_⟩
      clear hK K
      obtain ⟨i0, hi0, hz0, hz1, hz2⟩ := info_parts info85
      have HROW : Hid (DepRow (w4.alloc (.cells #[.int .i64 k4, .string nm4, .int .i64 op4, .string ev4, .slice a4 n4 c4] 68)) L (.slice ao i co) i n args xs) := HT.out.row.below HB5.out
      have HLL : Hid (L ≤ (w4.alloc (.cells #[.int .i64 k4, .string nm4, .int .i64 op4, .string ev4, .slice a4 n4 c4] 68)).heap.size) := Nat.le_trans HT.out.lt.2.2.2 HB5.out.size
      refine wpOrd_l rfl (fun K hK => ?_)
      refine wp_append_lies _ (.tmp 15) (.tmp 22) 41 rfl L 68 i0 _ 5 72 Tryz.underlying41 hi0 hz0 hz1 hz2 rfl (by decide) (.slice ao i co) i xs rfl HROW.out.row ⟨w4.heap.size, 0, none⟩ 1 1 [.int .i64 k4, .string nm4, .int .i64 op4, .string ev4, .slice a4 n4 c4] rfl rfl (World.news_of_block (cs := #[.int .i64 k4, .string nm4, .int .i64 op4, .string ev4, .slice a4 n4 c4]) (t := 68) (fr := (0, 0)) (heap_alloc_new w4 _)) (by intro u hu; simp only [List.mem_cons, List.not_mem_nil, or_false] at hu; rcases hu with rfl | rfl | rfl | rfl | rfl <;> rfl) (by omega) (by unfold maxLen; omega) (by omega) HLL.out _ rfl ?_
      intro g cap w9 hown hgrow hat hglt
      have HR9 : Hid (DepRow w9 L (.slice (some ⟨g, 0, none⟩) (i + 1) cap) (i + 1) n args (xs ++ [.int .i64 k4, .string nm4, .int .i64 op4, .string ev4, .slice a4 n4 c4])) :=
        HT.out.row.step HT.out.lt.2.2.2 HB5.out hlt (HD4.out.new (below1 _ _)) hown hgrow hat
      have HKB : Hid (∀ b, b < L → b < wr.heap.size → w9.heap[b]? = wr.heap[b]?) := fun b hb hb2 => (hgrow.block b (Nat.lt_of_lt_of_le hb2 HB5.out.size) (fun e => by have := (HROW.out.row.lt b e.symm).1; omega)).trans (HB5.out.block b hb2)
      have HB9 : Hid (Below w.heap.size w w9) := by
        refine (HT.out.below.trans (below_to HB5.out HT.out.below.size)).trans ⟨hgrow.os, hgrow.tape, hgrow.output, hgrow.size, fun b hb => ?_⟩
        refine hgrow.block b (Nat.lt_of_lt_of_le hb (Nat.le_trans HT.out.below.size HB5.out.size)) (fun e => ?_)
        have h1 := (HROW.out.row.lt b e.symm).1
        have h2 := HT.out.lt
        omega
      have HL9 : Hid (L ≤ w9.heap.size) := Nat.le_trans HLL.out hgrow.size
      have HO9 : Hid (w9.heap[O]? = wr.heap[O]?) := HKB.out O (by have := HT.out.lt; omega) HLT.out.1
      have HS9 : Hid (w9.heap[w.heap.size]? = wr.heap[w.heap.size]?) := HKB.out _ (by have := HT.out.lt; omega) HLT.out.2
      have HT9 : Hid (w9.heap[b]? = w.heap[b]?) := HB9.out.block b hblt.out
      have HRR : Hid (w9.heap[R]? = wr.heap[R]?) := HKB.out R (by have := HT.out.lt; omega) HT.out.rbox.lt
      clear hown hgrow hat hglt
      refine hK _ _ ⟨fun _ => ⟨HO9.out, HS9.out, HT9.out⟩, ?_⟩
      clear hK K
      refine wpOrd_l rfl (fun K hK => ?_)
      go_simp
      refine hK _ _ ⟨fun _ => ⟨HO9.out, HS9.out, HT9.out⟩, ?_⟩
      clear hK K
      have r4 := (HT.out.obox.to HO9.out).cell (j := 4) rfl
      have f4 := (HT.out.obox.to HO9.out).frozen 4
      refine wpOrd_l rfl (fun K hK => ?_)
      go_simp
      refine hK _ _ ⟨fun h => absurd rfl h, ?_⟩
      clear hK K
      refine wpOrd_nil ?_
      have HN : Hid (RoAt w (w9.setCell ⟨O, 4, none⟩ (.slice (some ⟨g, 0, none⟩) (i + 1) cap)) O R L k nm op ev (some ⟨b, off, none⟩) n c args (i + 1) (.slice (some ⟨g, 0, none⟩) (i + 1) cap) (xs ++ [.int .i64 k4, .string nm4, .int .i64 op4, .string ev4, .slice a4 n4 c4])) := by
        have hlts := HT.out.lt
        refine ⟨below_sc HB9.out (by omega) _ _, ⟨hlts.1, hlts.2.1, hlts.2.2.1, by rw [set_size]; exact HL9.out⟩, (HT.out.dbox.to HS9.out).to (set_other _ (by omega)), (HT.out.rbox.to HRR.out).to (set_other _ (by omega)), (HT.out.obox.to HO9.out).set 4 _, HR9.out.keep fun b hb _ => set_other _ (by omega)⟩
      clear r4 f4 hS hwd q4
      go_wp2_with fail
      go_roundw
      case rel => exact ⟨i + 1, by go_num, by omega, _, _, HN.out⟩
      case measure => simp [intOf]; omega
    · have hi1 : ¬ (i : Int) < (n : Int) := by omega
      obtain rfl : i = n := by omega
      obtain ⟨⟨ao, co, rfl⟩, HDV⟩ := HT.out.row.deps hn
      have HD : Hid (DepsV wr (New w.heap.size wr) i args (.slice ao i co)) := HDV.keep (fun b hb => ⟨by have := hb.1; have := HT.out.lt; omega, hb.2⟩) (fun _ _ _ => rfl)
      have b0 := HT.out.obox.cell (j := 0) rfl
      have b1 := HT.out.obox.cell (j := 1) rfl
      have b2 := HT.out.obox.cell (j := 2) rfl
      have b3 := HT.out.obox.cell (j := 3) rfl
      have b4 := HT.out.obox.cell (j := 4) rfl
      have z0 := HT.out.rbox.cell (j := 0) rfl
      have z1 := HT.out.rbox.cell (j := 1) rfl
      have z2 := HT.out.rbox.cell (j := 2) rfl
      have z3 := HT.out.rbox.cell (j := 3) rfl
      have z4 := HT.out.rbox.cell (j := 4) rfl
      have y0 := HT.out.rbox.frozen 0
      have y1 := HT.out.rbox.frozen 1
      have y2 := HT.out.rbox.frozen 2
      have y3 := HT.out.rbox.frozen 3
      have y4 := HT.out.rbox.frozen 4
      obtain ⟨w8, e8⟩ : ∃ w8, (((((wr.setCell ⟨R, 0, none⟩ (.int .i64 k)).setCell ⟨R, 1, none⟩ (.string nm)).setCell ⟨R, 2, none⟩ (.int .i64 op)).setCell ⟨R, 3, none⟩ (.string ev)).setCell ⟨R, 4, none⟩ (.slice ao i co)) = w8 := ⟨_, rfl⟩
      have HW : Hid (Below w.heap.size w w8 ∧ BoxN w8 R [.int .i64 k, .string nm, .int .i64 op, .string ev, .slice ao i co] 68 ∧ DepsV w8 (New w.heap.size w8) i args (.slice ao i co)) := by
        have hlts := HT.out.lt
        rw [← e8]
        refine ⟨HT.out.below.trans (fill5_below (by omega) _ _ _ _ _), fill5 HT.out.rbox _ _ _ _ _, HDV.keep (fun b hb => ⟨by have := hb.1; omega, hb.2.keep (fill5_other (by have := hb.1; omega) _ _ _ _ _)⟩) (fun b hb _ => fill5_other (by have := hb.1; omega) _ _ _ _ _)⟩
      clear HDV
      go_wp2_with fail
      have x0 := HW.out.2.1.cell (j := 0) rfl
      have x1 := HW.out.2.1.cell (j := 1) rfl
      have x2 := HW.out.2.1.cell (j := 2) rfl
      have x3 := HW.out.2.1.cell (j := 3) rfl
      have x4 := HW.out.2.1.cell (j := 4) rfl
      refine bodyPost_ret (v := .agg #[.int .i64 k, .string nm, .int .i64 op, .string ev, .slice ao i co]) (by simp [results, Tryz.results36, go_sem, x0, x1, x2, x3, x4]) rfl ?_
      exact ⟨⟨[.int .i64 k, .string nm, .int .i64 op, .string ev, .slice ao i co], rfl, HE.out _ _ HW.out.2.2⟩, HW.out.1⟩
/-- The document's own. -/
theorem rown_c : ∀ (d : DepT) (cs : List Value) (S : Nat → Prop) (w : World), DepC w S d cs → Calls Tryz.prog 36 #[.agg cs.toArray] w fun e w' => (∃ cs', e = .returned (.agg cs'.toArray) ∧ DepC w' (New w.heap.size w') d cs') ∧ Below w.heap.size w w' := by
  intro d
  induction d with
  | mk k nm op ev n args ih => exact rown_c0 k nm op ev n args ih
end Go.Proofs.YtgeimldijagkkaaGreat
namespace Go.Proofs.YtgeimldijagkkaaGreat
set_option linter.unusedVariables false
set_option linter.unusedSimpArgs false
open Go.RowKit Go.Maps

set_option maxHeartbeats 4000000 in
set_option maxRecDepth 100000 in
/-- The document's ownDeps. -/
theorem rdepsOwn_c (n : Nat) (args : Fin n → DepT) (a : Option Addr) (c : Nat) (S : Nat → Prop) (w : World) (h : DepsV w S n args (.slice a n c)) :
    Calls Tryz.prog 19 #[.slice a n c] w fun e w' => (∃ a' c', e = .returned (.slice a' n c') ∧ DepsV w' (New w.heap.size w') n args (.slice a' n c')) ∧ Below w.heap.size w w' := by
  obtain ⟨a2, c2, he, hn, hin⟩ := h
  injection he with h1 h2 h3
  subst h1 h3
  have hIN := Lib.hid hin
  clear hin
  go_enter Tryz.func19, Tryz.ntmps19
  go_wp2_with fail
  go_loopw [3, 4] (fun vo vi wr => ∃ i : Nat, vi = .int .i64 i ∧ i ≤ n ∧ Hid (Below w.heap.size w wr ∧ ∃ xs, DepRow wr w.heap.size vo i n args xs)) (fun _ vi _ => n - (intOf vi).toNat)
  case atStart => exact ⟨0, rfl, Nat.zero_le _, Below.refl _ _, _, DepRow.nil _ _ _ _⟩
  case round =>
    obtain ⟨i, rfl, hin, HT0⟩ := hrel
    obtain ⟨hbw, xs, hrow⟩ := HT0.out
    have HBW := Lib.hid hbw
    have HR := Lib.hid hrow
    clear hbw hrow HT0
    by_cases hlt : i < n
    · have hi1 : (i : Int) < (n : Int) := by omega
      obtain ⟨b, off, rfl, hS, hcs⟩ := hIN.out (by omega)
      obtain ⟨cs, hd, hca⟩ := hcs ⟨i, hlt⟩
      obtain ⟨k', nm', op', ev', a', n', c', rfl⟩ := hd.shape
      have HC := Lib.hid (rown_c (args ⟨i, hlt⟩) _ S wr (hd.below HBW.out))
      have q : ∀ j v, ([.int .i64 k', .string nm', .int .i64 op', .string ev', .slice a' n' c'] : List Value)[j]? = some v → wr.cell? ⟨b, off + i * 5 + j, none⟩ = some v := fun j v hj => cell_tr HBW.out (hca j v hj)
      have t0 := q 0 _ rfl
      have t1 := q 1 _ rfl
      have t2 := q 2 _ rfl
      have t3 := q 3 _ rfl
      have t4 := q 4 _ rfl
      rw [Nat.add_zero] at t0
      obtain ⟨ao, co, hvo⟩ := HR.out.form
      subst hvo
      obtain ⟨i0, hi0, hz0, hz1, hz2⟩ := info_parts info85
      have HLL : Hid (w.heap.size ≤ wr.heap.size) := HBW.out.size
      clear q hcs hd hca hS
      go_wp2_with fail
      refine HC.out.mono ?_
      rintro e w4 ⟨⟨cs4, rfl, hd4⟩, hb4⟩
      obtain ⟨k4, nm4, op4, ev4, a4, n4, c4, rfl⟩ := hd4.shape
      have HB4 : Hid (Below wr.heap.size wr w4) := hb4
      have HD4 := Lib.hid hd4
      have HB5 : Hid (Below wr.heap.size wr (w4.alloc (.cells #[.int .i64 k4, .string nm4, .int .i64 op4, .string ev4, .slice a4 n4 c4] 68))) := below_tr hb4 (below1 _ _)
      have HROW : Hid (DepRow (w4.alloc (.cells #[.int .i64 k4, .string nm4, .int .i64 op4, .string ev4, .slice a4 n4 c4] 68)) w.heap.size (.slice ao i co) i n args xs) := HR.out.below HB5.out
      have HL4 : Hid (w.heap.size ≤ w4.heap.size) := Nat.le_trans HLL.out hb4.size
      clear hd4 hb4 t0 t1 t2 t3 t4
      go_wp2_with (at_builtin; refine wpList_append_lies _ rfl (.tmp 11) (.tmp 17) 41 rfl w.heap.size 68 i0 _ 5 72 Tryz.underlying41 hi0 hz0 hz1 hz2 rfl (by decide) (.slice ao i co) i xs rfl HROW.out.row ⟨w4.heap.size, 0, none⟩ 1 1 [.int .i64 k4, .string nm4, .int .i64 op4, .string ev4, .slice a4 n4 c4] rfl rfl (World.news_of_block (cs := #[.int .i64 k4, .string nm4, .int .i64 op4, .string ev4, .slice a4 n4 c4]) (t := 68) (fr := (0, 0)) (heap_alloc_new w4 _)) (by intro u hu; simp only [List.mem_cons, List.not_mem_nil, or_false] at hu; rcases hu with rfl | rfl | rfl | rfl | rfl <;> rfl) (by omega) (by unfold maxLen; omega) (by omega) (by have := HL4.out; simp; omega) (w4.heap.size + 1) (by simp) ?_; intro g cap w9 hown hgrow hat hglt)
      have HR9 : Hid (DepRow w9 w.heap.size (.slice (some ⟨g, 0, none⟩) (i + 1) cap) (i + 1) n args (xs ++ [.int .i64 k4, .string nm4, .int .i64 op4, .string ev4, .slice a4 n4 c4])) :=
        HR.out.step HLL.out HB5.out hlt (HD4.out.new (below1 _ _)) hown hgrow (hat.imp id (fun h => by rw [h]; simp))
      have HB9 : Hid (Below w.heap.size w w9) := by
        refine (HBW.out.trans (below_to HB5.out HBW.out.size)).trans ⟨hgrow.os, hgrow.tape, hgrow.output, hgrow.size, fun b hb => ?_⟩
        refine hgrow.block b (Nat.lt_of_lt_of_le hb (Nat.le_trans HBW.out.size HB5.out.size)) (fun e => ?_)
        have h1 := (HROW.out.row.lt b e.symm).1
        omega
      clear hown hgrow hat hglt
      go_wp2_with fail
      go_roundw
      case rel => exact ⟨i + 1, by go_num, by omega, HB9.out, _, HR9.out⟩
      case measure => simp [intOf]; omega
    · have hi1 : ¬ (i : Int) < (n : Int) := by omega
      obtain rfl : i = n := by omega
      obtain ⟨⟨ao, co, rfl⟩, HDV⟩ := HR.out.deps hn
      go_wp2_with fail
      go_ret
      exact ⟨⟨ao, co, rfl, HDV⟩, HBW.out⟩
end Go.Proofs.YtgeimldijagkkaaGreat
