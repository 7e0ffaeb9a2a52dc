/-
  A path and those that it is in: the walk. Helper text; the conditions are those typed.
  A path and those that it is in: all ways. Helper text; the conditions are those typed.
-/
import Derived.Test.YtnplmembdfklcaaGreatDoorSplit
import Derived.Shelf.GgClosure.StringsIndexFuncTop
import Derived.RangeFuncBox
import Derived.Maps.AppendAt
import Derived.Maps.OwnIn
namespace Go.Proofs.YtnplmembdfklcaaGreatDoor
set_option linter.unusedVariables false
set_option linter.unusedSimpArgs false
open Go.RowKit Go.Shelf
attribute [local go_sem] Oper.semAt_some

def oddR (r : Nat) : Bool := decide (r < 33) || decide (126 < r)
def cleanB (s : ByteArray) : Bool := decide (Lib.idxFunc oddR true s < 0)
theorem odd_at (w : World) : PredAt Tryz.prog 62 #[] encR oddR w := fun W r _ => by
  unfold FnGives
  have H : ((r : Int) < 33 ∧ oddR r = true) ∨ (¬ (r : Int) < 33 ∧ 126 < (r : Int) ∧ oddR r = true) ∨ (¬ (r : Int) < 33 ∧ ¬ 126 < (r : Int) ∧ oddR r = false) := by
    unfold oddR
    by_cases h1 : r < 33
    · left; exact ⟨by omega, by simp [h1]⟩
    · right
      by_cases h2 : 126 < r
      · left; exact ⟨by omega, by omega, by simp [h1, h2]⟩
      · right; exact ⟨by omega, by omega, by simp [h1, h2]⟩
  generalize oddR r = x at H
  rcases H with ⟨h1, rfl⟩ | ⟨h1, h2, rfl⟩ | ⟨h1, h2, rfl⟩
  all_goals
    go_enter Tryz.func62, Tryz.ntmps62
    go_wp2_with fail
    go_ret
    exact ⟨rfl, 0, rfl⟩
theorem enters38 : ∀ args w, (callFunc 62 args).run Tryz.prog w = .ok (.enter 62 args) w := fun args w => by kernel_rfl

/-- may a part be? -/
def okPart (q : List UInt8) : Bool := q != [] && q != [46] && q != [46, 46]
def atAll (a : List UInt8) (qs : List (List UInt8)) : List UInt8 := qs.foldl (fun a q => a ++ 47 :: q) a
def upsFrom : List UInt8 → List (List UInt8) → List (List UInt8)
  | _, [] => []
  | a, q :: qs => (a ++ 47 :: q) :: upsFrom (a ++ 47 :: q) qs
theorem upsFrom_snoc : ∀ (a : List UInt8) (qs : List (List UInt8)) (q : List UInt8), upsFrom a (qs ++ [q]) = upsFrom a qs ++ [atAll a qs ++ 47 :: q]
  | a, [], q => rfl
  | a, p :: qs, q => by
    show (a ++ 47 :: p) :: upsFrom (a ++ 47 :: p) (qs ++ [q]) = _
    rw [upsFrom_snoc]
    rfl
theorem upsFrom_len : ∀ (a : List UInt8) (qs : List (List UInt8)), (upsFrom a qs).length = qs.length
  | _, [] => rfl
  | a, q :: qs => by
    show (upsFrom _ qs).length + 1 = _
    rw [upsFrom_len]
    rfl
theorem atAll_snoc (a : List UInt8) (qs : List (List UInt8)) (q : List UInt8) : atAll a (qs ++ [q]) = atAll a qs ++ 47 :: q := by
  unfold atAll
  rw [List.foldl_append]
  rfl
def strsL (l : List (List UInt8)) : List Value := l.map fun x => .string (mkB x)

theorem own_box {W W' : World} {B : Nat} {row : Option Nat} {b : Nat} {cs : List Value} {ty : TypeId} (h : BoxN W b cs ty) (hg : W.grownBy W' row) (hr : ∀ r, row = some r → B ≤ r ∧ ∃ o : Obj, W.heap[r]? = some o ∧ o.isCells = false) : BoxN W' b cs ty :=
  h.to (hg.block b h.lt (fun e => by
    obtain ⟨_, o, ho, hc⟩ := hr b e.symm
    unfold BoxN at h
    rw [h] at ho
    cases ho
    cases hc))
theorem own_row {W W' : World} {B n₀ : Nat} {row : Option Nat} {e : TypeId} {k n : Nat} {v : Value} {xs : List Value} (h : W.ownsRow n₀ e k v n xs) (hg : W.grownBy W' row) (hr : ∀ r, row = some r → B ≤ r ∧ ∃ o : Obj, W.heap[r]? = some o ∧ o.isCells = false) : W'.ownsRow n₀ e k v n xs :=
  ownsRow_to h fun g hv => hg.block g (h.lt g hv).2 (fun e => by
    obtain ⟨_, o, ho, hc⟩ := hr g e.symm
    rcases h.2 with ⟨hn, _⟩ | ⟨g', cap, cur, hf, _, hcell, _⟩
    · subst hn; cases hv
    · subst hf
      cases hv
      rw [hcell] at ho
      cases ho
      cases hc)

theorem own_cells {W : World} {n₀ : Nat} {e : TypeId} {k n : Nat} {v : Value} {xs : List Value} (h : W.ownsRow n₀ e k v n xs) : ∀ (j : Nat) (o : Obj), v.ownBlock = some j → W.heap[j]? = some o → o.isCells = true := by
  intro j o hj ho
  rcases h.2 with ⟨hn, _⟩ | ⟨g', cap, cur, hf, _, hcell, _⟩
  · subst hn; cases hj
  · subst hf
    cases hj
    rw [hcell] at ho
    cases ho
    rfl
theorem ownsRow_base {W : World} {n₀ n₁ : Nat} {e : TypeId} {k n : Nat} {v : Value} {xs : List Value} (h : W.ownsRow n₀ e k v n xs) (hn : n₁ ≤ n₀) : W.ownsRow n₁ e k v n xs := by
  refine ⟨h.1, ?_⟩
  rcases h.2 with h2 | ⟨g, cap, cur, hf, hB, rest⟩
  · exact .inl h2
  · exact .inr ⟨g, cap, cur, hf, Nat.le_trans hn hB, rest⟩
theorem info9 : (Tryz.prog.info? 9).map (fun i => (i.zero, i.size, i.bytes)) = some (some (.string ⟨#[]⟩), 1, 16) := by kernel_rfl
theorem splitC_len (c : UInt8) : ∀ l : List UInt8, (splitC c l).length ≤ l.length + 1
  | [] => Nat.le_refl _
  | x :: l => by
    have h := splitC_len c l
    rw [splitC_cons]
    by_cases e : x = c
    · rw [if_pos e]; simp; omega
    · rw [if_neg e]
      cases hs : splitC c l with
      | nil => simp
      | cons a t => rw [hs] at h; simp at h ⊢; omega
theorem grow_box {w w1 w2 : World} {n₀ b : Nat} {cs : List Value} {ty : TypeId} {e : TypeId} {k n : Nat} {v : Value} {xs : List Value} (h : BoxN w b cs ty) (ho : w.ownsRow n₀ e k v n xs) (hb : Below w.heap.size w w1) (hg : w1.grownBy w2 v.ownBlock) (hn : b < n₀) : BoxN w2 b cs ty :=
  h.to ((hg.block b (Nat.lt_of_lt_of_le h.lt hb.size) (fun e => by have := (ho.lt b e.symm).1; omega)).trans (hb.block b h.lt))

theorem atAll_le : ∀ (pre : List (TxtM 200)), (atAll [] (pre.map (fun x => bs x.1))).length ≤ pre.length * 201 := by
  have h : ∀ (pre : List (TxtM 200)) (a : List UInt8), (atAll a (pre.map (fun x => bs x.1))).length ≤ a.length + pre.length * 201 := by
    intro pre
    induction pre with
    | nil => intro a; exact Nat.le_add_right _ _
    | cons x pre ih =>
      intro a
      have := ih (a ++ 47 :: bs x.1)
      have hx := x.2
      rw [List.length_append, List.length_cons, bs_len] at this
      show (atAll (a ++ 47 :: bs x.1) (pre.map (fun x => bs x.1))).length ≤ _
      rw [List.length_cons]
      omega
  intro pre
  have := h pre []
  simpa using this

/-- What ups leaves. -/
def UpsPost (r : ByteArray) (w : World) (e : Ending) (w' : World) : Prop :=
  (if (splitC 47 (bs r)).all okPart = true then ∃ v, e = .returned (.tuple #[v, .bool true]) ∧ w'.ownsRow w.heap.size 9 1 v (splitC 47 (bs r)).length (strsL (upsFrom [] (splitC 47 (bs r)))) else e = .returned (.tuple #[.slice none 0 0, .bool false])) ∧ Below w.heap.size w w'

/-- Between two rounds: what lies in the boxes. -/
structure UpI (w : World) (n₀ oB aB r2 r3 : Nat) (pre : List (TxtM 200)) (W : World) : Prop where
  ok : (pre.map (fun x => bs x.1)).all okPart = true
  out : ∃ v, BoxN W oB [v] 29 ∧ W.ownsRow n₀ 9 1 v pre.length (strsL (upsFrom [] (pre.map (fun x => bs x.1))))
  at_ : BoxN W aB [.string (mkB (atAll [] (pre.map (fun x => bs x.1))))] 9
  b2 : BoxN W r2 [.slice none 0 0] 29
  b3 : BoxN W r3 [.bool false] 4
  blw : Below w.heap.size w W
  sz : n₀ ≤ W.heap.size
/-- A round has left. -/
structure UpX (w : World) (r2 r3 : Nat) (c : Code) (pre : List (TxtM 200)) (W : World) : Prop where
  ret : c = .ret
  bad : (pre.map (fun x => bs x.1)).all okPart = false
  b2 : BoxN W r2 [.slice none 0 0] 29
  b3 : BoxN W r3 [.bool false] 4
  blw : Below w.heap.size w W
theorem UpI.own {w : World} {n₀ oB aB r2 r3 B : Nat} (hB : w.heap.size ≤ B) : OwnFrom B (UpI w n₀ oB aB r2 r3) := fun pre W W' row h hg hr => by
  obtain ⟨v, h1, h2⟩ := h.out
  exact ⟨h.ok, ⟨v, own_box h1 hg hr, own_row h2 hg hr⟩, own_box h.at_ hg hr, own_box h.b2 hg hr, own_box h.b3 hg hr, h.blw.grown hg h.blw.size (fun k e => Nat.le_trans hB (hr k e).1), Nat.le_trans h.sz hg.size⟩
theorem UpX.own {w : World} {r2 r3 B : Nat} {c : Code} (hB : w.heap.size ≤ B) : OwnFrom B (UpX w r2 r3 c) := fun pre W W' row h hg hr =>
  ⟨h.ret, h.bad, own_box h.b2 hg hr, own_box h.b3 hg hr, h.blw.grown hg h.blw.size (fun k e => Nat.le_trans hB (hr k e).1)⟩
theorem UpI.set {w : World} {n₀ oB aB r2 r3 sB : Nat} (hs : w.heap.size ≤ sB ∧ sB < n₀ ∧ oB ≠ sB ∧ aB ≠ sB ∧ r2 ≠ sB ∧ r3 ≠ sB) (pre : List (TxtM 200)) (W : World) (x : Value) (h : UpI w n₀ oB aB r2 r3 pre W) : UpI w n₀ oB aB r2 r3 pre (W.setCell ⟨sB, 0, none⟩ x) := by
  obtain ⟨v, h1, h2⟩ := h.out
  exact ⟨h.ok, ⟨v, h1.other hs.2.2.1 _ _, ownsRow_to h2 fun g hg => set_other _ (by have := (h2.lt g hg).1; omega)⟩, h.at_.other hs.2.2.2.1 _ _, h.b2.other hs.2.2.2.2.1 _ _, h.b3.other hs.2.2.2.2.2 _ _, below_sc h.blw hs.1 _ _, by rw [set_size]; exact h.sz⟩

set_option maxHeartbeats 4000000 in
set_option maxRecDepth 100000 in
theorem ups_loop (p r : ByteArray) (hpr : bs p = 47 :: bs r) (hr0 : bs r ≠ []) (hsz : p.size ≤ 200) (hcl : cleanB r = true) (w : World) :
    Calls Tryz.prog 37 #[.string p] w (UpsPost r w) := by
  have hp1 : (p.toList == [47]) = false := by
    rw [toList_bs, hpr]
    simpa using hr0
  have HCUT : Hid (∀ w, Calls Tryz.prog 61 #[.string p, .string ⟨#[47]⟩] w fun e w' => e = .returned (.tuple #[.string r, .bool true]) ∧ w' = w) := fun w => by
    have h1 := Any.strings_CutPrefix Tryz.layCut p ⟨#[47]⟩ w
    have h2 : Lib.hasPrefix p.data.toList [47] = true := by
      show Lib.hasPrefix (bs p) [47] = true
      rw [hpr]
      rfl
    have h3 : (⟨(Lib.trimPrefix p.data.toList [47]).toArray⟩ : ByteArray) = r := bs_inj (by
      show Lib.trimPrefix (bs p) [47] = bs r
      rw [hpr]
      rfl)
    rw [show (⟨#[47]⟩ : ByteArray).data.toList = [47] from rfl, h2, h3] at h1
    exact h1
  have hI0 : Lib.idxFunc oddR true r < 0 := of_decide_eq_true hcl
  have HIDX : Hid (∀ w, Calls Tryz.prog 63 #[.string r, .func (.func 62) #[] #[]] w fun e w' => e = .returned (.int .i64 (Lib.idxFunc oddR true r)) ∧ Below w.heap.size w w') := fun w => Any.strings_IndexFunc Tryz.layIdxF 62 _ enters38 oddR r w (odd_at w)
  obtain ⟨I0, hI1⟩ : ∃ I0, Lib.idxFunc oddR true r = I0 := ⟨_, rfl⟩
  rw [hI1] at hI0 HIDX
  have hI2 : ¬ 0 ≤ I0 := by omega
  have hlen : ¬ 200 < (p.size : Int) := by omega
  have HPR := Lib.hid hpr
  clear hpr hI1
  refine (callsIn_wide (n := 5)).1 ?_
  refine callsIn_of_wp_marks Tryz.func37 rfl trivial ?_ rfl
  simp only [Tryz.ntmps37, List.size_toArray, List.length_cons, List.length_nil, Nat.reduceAdd, Nat.reduceSub, Array.replicate_succ, Array.replicate_zero, List.push_toArray, List.append_toArray, List.nil_append, List.cons_append]
  gi_wp2_with (first
    | (refine ⟨trivial, ?_⟩; gi_at_call 61; refine (callsIn_wide.2 (HCUT.out _)).mono ?_; rintro e w' ⟨rfl, rfl⟩)
    | (refine ⟨trivial, ?_⟩; gi_at_call 63; refine (callsIn_wide.2 (HIDX.out _)).mono ?_; rintro e w2 ⟨rfl, hb2⟩))
  have HR0 : Hid (Below w.heap.size w w2 ∧ BoxN w2 w.heap.size [.slice none 0 0] 29 ∧ BoxN w2 (w.heap.size + 1) [.bool false] 4) := by
    have h0 := boxN_alloc w [.slice none 0 0] 29
    have h1 := boxN_alloc (w.alloc (.cells #[.slice none 0 0] 29)) [.bool false] 4
    rw [World.size_alloc] at h1
    exact ⟨below_tr (below2 _ _ _) hb2, (h0.below (below1 _ _)).below hb2, h1.below hb2⟩
  obtain ⟨w4, e4⟩ : ∃ w4, (w2.alloc (.cells #[.slice none 0 0] 29)).alloc (.cells #[.string ⟨#[]⟩] 9) = w4 := ⟨_, rfl⟩
  have HR4 : Hid (Below w.heap.size w w4 ∧ BoxN w4 w.heap.size [.slice none 0 0] 29 ∧ BoxN w4 (w.heap.size + 1) [.bool false] 4 ∧ BoxN w4 w2.heap.size [.slice none 0 0] 29 ∧ BoxN w4 (w2.heap.size + 1) [.string ⟨#[]⟩] 9 ∧ w4.heap.size = w2.heap.size + 2) := by
    have h0 := boxN_alloc w2 [.slice none 0 0] 29
    have h1 := boxN_alloc (w2.alloc (.cells #[.slice none 0 0] 29)) [.string ⟨#[]⟩] 9
    rw [World.size_alloc] at h1
    rw [← e4]
    exact ⟨below_tr HR0.out.1 (below2 _ _ _), HR0.out.2.1.below (below2 _ _ _), HR0.out.2.2.below (below2 _ _ _), h0.below (below1 _ _), h1, by simp⟩
  rw [e4]
  refine ⟨trivial, ?_⟩
  refine (callsIn_wide.2 (splitSeq_c r 47 w4)).mono ?_
  rintro e w5 ⟨rfl, hb5, hs5, hp5, hv5⟩
  have HR5 : Hid (Below w.heap.size w w5 ∧ BoxN w5 w.heap.size [.slice none 0 0] 29 ∧ BoxN w5 (w.heap.size + 1) [.bool false] 4 ∧ BoxN w5 w2.heap.size [.slice none 0 0] 29 ∧ BoxN w5 (w2.heap.size + 1) [.string ⟨#[]⟩] 9) :=
    ⟨below_tr HR4.out.1 hb5, HR4.out.2.1.below hb5, HR4.out.2.2.1.below hb5, HR4.out.2.2.2.1.below hb5, HR4.out.2.2.2.2.1.below hb5⟩
  have HS5 : Hid (BoxN w5 w4.heap.size [.string r] 9 ∧ BoxN w5 (w4.heap.size + 1) [.string ⟨#[47]⟩] 9 ∧ BoxN w5 (w4.heap.size + 2) [.int .i64 0] 3) := ⟨hs5, hp5, hv5⟩
  have HSZ : Hid (w4.heap.size = w2.heap.size + 2 ∧ w.heap.size + 2 ≤ w2.heap.size) := ⟨HR4.out.2.2.2.2.2, by have h1 := HR0.out.2.2.lt; omega⟩
  clear hb2 hb5 hs5 hp5 hv5 e4 HR4 HR0
  have hdl : decide (200 < (p.size : Int)) = false := decide_eq_false (by omega)
  gi_wp2
  refine rangeS rfl (by decide) (gf := 116) (lb := #[.pointer (some ⟨w4.heap.size + 1, 0, none⟩), .pointer (some ⟨w4.heap.size, 0, none⟩), .pointer (some ⟨w4.heap.size + 2, 0, none⟩)]) rfl trivial (enters_of Tryz.func116 (by kernel_rfl) rfl)
    (b := w4.heap.size) (Kb := fun k => k = w4.heap.size + 1 ∨ k = w4.heap.size ∨ k = w4.heap.size + 2) ?hbw
    (split_seq _ (by decide) (w4.heap.size + 1) w4.heap.size (w4.heap.size + 2) 47 200 r ?hrs ?hr2 (by omega) w5 HS5.out.2.1 HS5.out.1 HS5.out.2.2) (Below.refl _ _) (fun _ => rfl)
    (UpI w w5.heap.size w2.heap.size (w2.heap.size + 1) w.heap.size (w.heap.size + 1)) (UpX w w.heap.size (w.heap.size + 1)) (UpI.own ?o1) (fun c => UpX.own ?o2) (UpI.set ?o3) ?h0 ?a1 ?assign ?body ?done ?stop
  case assign =>
    intro l x W K hK
    gi_wp2
    exact hK
  case hbw =>
    intro k hk
    have h1 := HS5.out.1.lt
    have h2 := HS5.out.2.1.lt
    have h3 := HS5.out.2.2.lt
    rcases hk with rfl | rfl | rfl <;> assumption
  case hrs =>
    have h1 := congrArg List.length HPR.out
    rw [List.length_cons, bs_len, bs_len] at h1
    omega
  case hr2 =>
    have h1 := congrArg List.length HPR.out
    rw [List.length_cons, bs_len, bs_len] at h1
    omega
  case o1 => exact HR5.out.1.size
  case o2 => exact HR5.out.1.size
  case o3 =>
    have h1 := HS5.out.1.lt
    have h2 := HSZ.out
    exact ⟨by omega, h1, by omega, by omega, by omega, by omega⟩
  case h0 => exact ⟨rfl, ⟨_, HR5.out.2.2.2.1, World.ownsRow_nil _ _ _ _⟩, HR5.out.2.2.2.2, HR5.out.2.1, HR5.out.2.2.1, HR5.out.1, Nat.le_refl _⟩
  case body =>
    rintro l pre ⟨x, hx200⟩ W hI hlen'
    have HI := Lib.hid hI
    replace hlen' := Lib.hid hlen'
    clear hI
    obtain ⟨v, hv1, hv2⟩ := HI.out.out
    obtain ⟨va, vc, rfl⟩ := ownsRow_slice hv2
    have c7 := hv1.cell (j := 0) rfl
    have c8 := HI.out.at_.cell (j := 0) rfl
    have f7 := hv1.frozen 0
    have f8 := HI.out.at_.frozen 0
    have c2 := HI.out.b2.cell (j := 0) rfl
    have f2 := HI.out.b2.frozen 0
    have c3 := HI.out.b3.cell (j := 0) rfl
    have f3 := HI.out.b3.frozen 0
    have HV := Lib.hid (And.intro hv1 hv2)
    clear hv1 hv2
    have HXX : (x.toList.isEmpty = false ∧ (x.toList == [46]) = false ∧ (x.toList == [46, 46]) = false ∧ okPart (bs x) = true) ∨ (okPart (bs x) = false ∧ (x.toList.isEmpty = true ∨ (x.toList.isEmpty = false ∧ (x.toList == [46]) = true) ∨ (x.toList.isEmpty = false ∧ (x.toList == [46]) = false ∧ (x.toList == [46, 46]) = true))) := by
      rw [toList_bs]
      unfold okPart
      generalize bs x = q
      by_cases h1 : q = []
      · subst h1; right; exact ⟨rfl, .inl rfl⟩
      · have e1 : q.isEmpty = false := by simpa using h1
        by_cases h2 : q = [46]
        · subst h2; right; exact ⟨rfl, .inr (.inl ⟨rfl, rfl⟩)⟩
        · have e2 : (q == [46]) = false := by simpa using h2
          by_cases h3 : q = [46, 46]
          · subst h3; right; exact ⟨rfl, .inr (.inr ⟨rfl, rfl, rfl⟩)⟩
          · have e3 : (q == [46, 46]) = false := by simpa using h3
            left
            exact ⟨e1, e2, e3, by simp [h1, h2, h3]⟩
    rcases HXX with ⟨x0, x1, x2, hok⟩ | ⟨hbad, hx⟩
    · have hok' := Lib.hid hok
      clear hok
      obtain ⟨A, hA⟩ : ∃ A, mkB (atAll [] (pre.map (fun x => bs x.1))) = A := ⟨_, rfl⟩
      rw [hA] at c8
      obtain ⟨A', hA'⟩ : ∃ A', A ++ (⟨#[47]⟩ ++ x) = A' := ⟨_, rfl⟩
      have HA : Hid (A' = mkB (atAll [] ((pre ++ [(⟨x, hx200⟩ : TxtM 200)]).map (fun x => bs x.1)))) := by
        rw [← hA', ← hA, List.map_append, List.map_singleton, atAll_snoc]
        refine bs_inj ?_
        show ((mkB (atAll [] (pre.map (fun x => bs x.1)))) ++ ((⟨#[47]⟩ : ByteArray) ++ x)).data.toList = _
        simp [bs, mkB]
      obtain ⟨W1, e1⟩ : ∃ W1, W.setCell ⟨w2.heap.size + 1, 0, none⟩ (.string A') = W1 := ⟨_, rfl⟩
      have hsz := HSZ.out
      have hlt4 := HS5.out.1.lt
      have HW1 : Hid (BoxN W1 w2.heap.size [.slice va pre.length vc] 29 ∧ W1.ownsRow w5.heap.size 9 1 (.slice va pre.length vc) pre.length (strsL (upsFrom [] (pre.map (fun x => bs x.1)))) ∧ BoxN W1 (w2.heap.size + 1) [.string A'] 9 ∧ BoxN W1 w.heap.size [.slice none 0 0] 29 ∧ BoxN W1 (w.heap.size + 1) [.bool false] 4 ∧ Below w.heap.size w W1 ∧ w5.heap.size ≤ W1.heap.size ∧ KeepsOthers W W1 ∧ ∀ k, (k = w4.heap.size + 1 ∨ k = w4.heap.size ∨ k = w4.heap.size + 2) → W1.heap[k]? = W.heap[k]?) := by
        rw [← e1]
        refine ⟨HV.out.1.other (by omega) _ _, ownsRow_to HV.out.2 (fun g hg => set_other _ (by have := (HV.out.2.lt g hg).1; omega)), HI.out.at_.set 0 _, HI.out.b2.other (by omega) _ _, HI.out.b3.other (by omega) _ _, below_sc HI.out.blw (by omega) _ _, by rw [set_size]; exact HI.out.sz, KeepsOthers.setCell _ _ _, fun k hk => set_other _ (by omega)⟩
      have d7 := HW1.out.1.cell (j := 0) rfl
      have d8 := HW1.out.2.2.1.cell (j := 0) rfl
      have g7 := HW1.out.1.frozen 0
      have hAs : A.size ≤ pre.length * 201 := by
        rw [← hA, ← bs_len, bs_mkB]
        exact atAll_le pre
      have hxs : x.size ≤ 200 := hx200
      have hcs : (⟨#[47]⟩ ++ x : ByteArray).size ≤ 201 := by
        rw [← bs_len]
        have e : bs (⟨#[47]⟩ ++ x : ByteArray) = 47 :: bs x := by
          show ((⟨#[47]⟩ : ByteArray) ++ x).data.toList = _
          simp [bs]
        rw [e, List.length_cons, bs_len]
        omega
      replace hA := Lib.hid hA
      have hpl : pre.length ≤ 200 := by
        have h1 := splitC_len 47 (bs r)
        have h2 := congrArg List.length HPR.out
        rw [List.length_cons, bs_len, bs_len] at h2
        rw [bs_len] at h1
        have h3 := hlen'.out
        omega
      have HRW := Lib.hid (ownsRow_below HW1.out.2.1 (below1 W1 (.cells #[.string A'] 9)))
      obtain ⟨i0, hi9, hz90, hz91, hz92⟩ := info_parts info9
      replace hsz := Lib.hid hsz
      replace hlt4 := Lib.hid hlt4
      gi_wp2_with (gi_at_builtin; refine wpListIn_append_own _ rfl (.tmp 47) (.tmp 49) 29 rfl w5.heap.size 9 i0 (.string ⟨#[]⟩) 1 16 Tryz.underlying29 hi9 hz90 hz91 hz92 rfl (by decide) (.slice va pre.length vc) pre.length _ rfl HRW.out ⟨W1.heap.size, 0, none⟩ 1 1 [.string A'] rfl rfl (cell_one_new _ _ _) (by simp [Value.oneCell']) (by unfold maxLen; omega) (by omega) (by have := HW1.out.2.2.2.2.2.2.1; simp; omega) ?_; intro v' w10 hown10 hgrow10 _; obtain ⟨va', vc', rfl⟩ := ownsRow_slice hown10; have k7 := (grow_box HW1.out.1 HW1.out.2.1 (below1 W1 _) hgrow10 (by have := hlt4.out; have := hsz.out; omega)).cell (j := 0) rfl; have h7 := (grow_box HW1.out.1 HW1.out.2.1 (below1 W1 _) hgrow10 (by have := hlt4.out; have := hsz.out; omega)).frozen 0)
      have hsz' := hsz.out
      have hlt' := hlt4.out
      have hkeep : ∀ b, b < w5.heap.size → b ≠ w2.heap.size → (w10.setCell ⟨w2.heap.size, 0, none⟩ (.slice va' (pre.length + 1) vc')).heap[b]? = W1.heap[b]? := fun b hb hne => by
        have hz := HW1.out.2.2.2.2.2.2.1
        rw [set_other _ hne, hgrow10.block b (by simp; omega) (fun e => by have := (HW1.out.2.1.lt b e.symm).1; omega)]
        exact (below1 W1 _).block b (by omega)
      have hSN : strsL (upsFrom [] ((pre ++ [(⟨x, hx200⟩ : TxtM 200)]).map (fun x => bs x.1))) = strsL (upsFrom [] (pre.map (fun x => bs x.1))) ++ [.string A'] := by
        rw [List.map_append, List.map_singleton, upsFrom_snoc]
        unfold strsL
        rw [List.map_append, List.map_singleton, HA.out, List.map_append, List.map_singleton, atAll_snoc]
      have hB10 : Below w.heap.size w w10 := by
        have h1 := HW1.out.2.2.2.2.2.1
        have hz := HW1.out.2.2.2.2.2.2.1
        have h2 : Below w.heap.size w (W1.alloc (.cells #[.string A'] 9)) := below_tr h1 (below1 _ _)
        refine h2.trans (below_to (grown_own HRW.out (by simp; omega) hgrow10) (Nat.le_trans HR5.out.1.size (Nat.le_refl _)))
      refine ⟨?_, ?_, ?_, ⟨.slice va' (pre.length + 1) vc', ?_, ?_⟩, ?_, ?_, ?_, ?_, ?_⟩
      · refine ((HW1.out.2.2.2.2.2.2.2.1.trans (KeepsOthers.alloc _ _)).trans (KeepsOthers.of_grownBy hgrow10 (own_cells HRW.out))).trans (KeepsOthers.setCell _ _ _)
      · intro k hk
        rw [hkeep k (by have := HS5.out.2.2.lt; omega) (by omega)]
        exact HW1.out.2.2.2.2.2.2.2.2 k hk
      · rw [List.map_append, List.map_singleton, List.all_append, HI.out.ok]
        simp [hok'.out]
      · exact (grow_box HW1.out.1 HW1.out.2.1 (below1 W1 _) hgrow10 (by omega)).set 0 _
      · rw [List.length_append, List.length_singleton, hSN]
        exact ownsRow_to hown10 (fun g hg => set_other _ (by have := (hown10.lt g hg).1; omega))
      · rw [← HA.out]
        exact HW1.out.2.2.1.to (hkeep _ (by omega) (by omega))
      · exact HW1.out.2.2.2.1.to (hkeep _ (by omega) (by omega))
      · exact HW1.out.2.2.2.2.1.to (hkeep _ (by omega) (by omega))
      · exact below_sc hB10 (by omega) _ _
      · rw [set_size]
        have h1 := HW1.out.2.2.2.2.2.2.1
        have h2 := hgrow10.size
        simp at h2
        omega
    · replace hbad := Lib.hid hbad
      have HEND : Hid (∀ W', W' = (W.setCell ⟨w.heap.size, 0, none⟩ (.slice none 0 0)).setCell ⟨w.heap.size + 1, 0, none⟩ (.bool false) → KeepsOthers W W' ∧ UpX w w.heap.size (w.heap.size + 1) .ret (pre ++ [⟨x, hx200⟩]) W') := by
        rintro W' rfl
        refine ⟨(KeepsOthers.setCell _ _ _).trans (KeepsOthers.setCell _ _ _), rfl, ?_, ?_, ?_, ?_⟩
        · rw [List.map_append, List.map_singleton, List.all_append]
          simp [hbad.out]
        · exact (HI.out.b2.set 0 _).other (by omega) _ _
        · exact (HI.out.b3.other (by omega) _ _).set 0 _
        · exact below_sc (below_sc HI.out.blw (Nat.le_refl _) _ _) (by omega) _ _
      rcases hx with x0 | ⟨x0, x1⟩ | ⟨x0, x1, x2⟩
      all_goals
        gi_wp2
        exact HEND.out _ rfl
  case done =>
    rintro D xs W hD hxs hI hK
    have HI := Lib.hid hI
    have HXS := Lib.hid hxs
    have HK := Lib.hid hK
    have HD := Lib.hid hD
    clear hI hxs hK hD
    obtain ⟨v, hv1, hv2⟩ := HI.out.out
    obtain ⟨va, vc, rfl⟩ := ownsRow_slice hv2
    have c7 := hv1.cell (j := 0) rfl
    have c2 := HI.out.b2.cell (j := 0) rfl
    have f2 := HI.out.b2.frozen 0
    have c3 := HI.out.b3.cell (j := 0) rfl
    have f3 := HI.out.b3.frozen 0
    have HV := Lib.hid (And.intro hv1 hv2)
    clear hv1 hv2
    gi_wp2
    obtain ⟨W2, e2⟩ : ∃ W2, (W.setCell ⟨w.heap.size, 0, none⟩ (.slice va xs.length vc)).setCell ⟨w.heap.size + 1, 0, none⟩ (.bool true) = W2 := ⟨_, rfl⟩
    rw [e2]
    have hK2 : W2.heap[D]? = some (.deferred (some [])) := by
      rw [← e2]
      exact ((KeepsOthers.setCell _ _ _).trans (KeepsOthers.setCell _ _ _)).same D _ HK.out rfl
    have hD2 : w5.heap.size ≤ D := HD.out
    have hb2 : BoxN W2 w.heap.size [.slice va xs.length vc] 29 := by
      rw [← e2]
      exact (HI.out.b2.set 0 _).other (by omega) _ _
    have hb3 : BoxN W2 (w.heap.size + 1) [.bool true] 4 := by
      rw [← e2]
      exact (HI.out.b3.other (by omega) _ _).set 0 _
    refine ⟨by simp, .inl ⟨_, _, rfl, run_takeDeferred hK2, ?_⟩⟩
    have hsz := HSZ.out
    have hlt4 := HS5.out.1.lt
    have d2 : (W2.putObj D (.deferred none)).cell? ⟨w.heap.size, 0, none⟩ = some (.slice va xs.length vc) := (hb2.to (World.putObj_heap_other (by omega))).cell (j := 0) rfl
    have d3 : (W2.putObj D (.deferred none)).cell? ⟨w.heap.size + 1, 0, none⟩ = some (.bool true) := (hb3.to (World.putObj_heap_other (by omega))).cell (j := 0) rfl
    have hall : (splitC 47 (bs r)).all okPart = true := by
      rw [← HXS.out]
      exact HI.out.ok
    have hln : xs.length = (splitC 47 (bs r)).length := by
      rw [← HXS.out, List.length_map]
    refine ⟨.tuple #[.slice va xs.length vc, .bool true], ?_, ?_⟩
    · simp [results, Tryz.f37, go_sem, d2, d3]
    unfold UpsPost
    rw [if_pos hall]
    refine ⟨⟨_, rfl, ?_⟩, ?_⟩
    · rw [← hln, ← HXS.out]
      refine ownsRow_base (ownsRow_to HV.out.2 fun g hg => ?_) HR5.out.1.size
      have h1 := HV.out.2.lt g hg
      have hgD : g ≠ D := fun e => by
        have h2 := HK.out
        rw [← e] at h2
        have h3 := own_cells HV.out.2 g _ hg h2
        cases h3
      rw [World.putObj_heap_other hgD, ← e2, set_other _ (by omega), set_other _ (by omega)]
    · have h1 : Below w.heap.size w W2 := by
        rw [← e2]
        exact below_sc (below_sc HI.out.blw (Nat.le_refl _) _ _) (by omega) _ _
      exact h1.trans (belowK_b (w := w) (Nat.le_refl _) W2 D _ _ (by omega) hK2 rfl rfl)
  case stop =>
    rintro D c pre W hD hpre hX hK
    obtain ⟨rfl, hbad, hb2, hb3, hblw⟩ := hX
    have HP := Lib.hid hpre
    have HBD := Lib.hid hbad
    have HB := Lib.hid (And.intro hb2 (And.intro hb3 hblw))
    have HK := Lib.hid hK
    have hD2 : w5.heap.size ≤ D := hD
    clear hpre hbad hb2 hb3 hblw hK hD
    gi_wp2
    refine ⟨by simp, .inl ⟨_, _, rfl, run_takeDeferred HK.out, ?_⟩⟩
    have hsz := HSZ.out
    have hlt4 := HS5.out.1.lt
    have d2 : (W.putObj D (.deferred none)).cell? ⟨w.heap.size, 0, none⟩ = some (.slice none 0 0) := (HB.out.1.to (World.putObj_heap_other (by omega))).cell (j := 0) rfl
    have d3 : (W.putObj D (.deferred none)).cell? ⟨w.heap.size + 1, 0, none⟩ = some (.bool false) := (HB.out.2.1.to (World.putObj_heap_other (by omega))).cell (j := 0) rfl
    have hall : ¬ (splitC 47 (bs r)).all okPart = true := fun h => by
      obtain ⟨t, ht⟩ := HP.out
      rw [← ht, List.all_append, HBD.out] at h
      cases h
    refine ⟨.tuple #[.slice none 0 0, .bool false], ?_, ?_⟩
    · simp [results, Tryz.f37, go_sem, d2, d3]
    unfold UpsPost
    rw [if_neg hall]
    exact ⟨rfl, HB.out.2.2.trans (belowK_b (w := w) (Nat.le_refl _) W D _ _ (by omega) HK.out rfl rfl)⟩
end Go.Proofs.YtnplmembdfklcaaGreatDoor
namespace Go.Proofs.YtnplmembdfklcaaGreatDoor
set_option linter.unusedVariables false
set_option linter.unusedSimpArgs false
open Go.RowKit

/-- A path and those that it is in. -/
def upsL (p : ByteArray) : Option (List (List UInt8)) :=
  if bs p = [47] then some [] else match bs p with
    | [] => none
    | c :: r => if c = 47 ∧ p.size ≤ 200 ∧ cleanB (mkB r) = true ∧ (splitC 47 r).all okPart = true then some (upsFrom [] (splitC 47 r)) else none
def UpsP (p : ByteArray) (w : World) (e : Ending) (w' : World) : Prop :=
  (match upsL p with
    | some l => ∃ v, e = .returned (.tuple #[v, .bool true]) ∧ w'.ownsRow w.heap.size 9 1 v l.length (strsL l)
    | none => e = .returned (.tuple #[.slice none 0 0, .bool false])) ∧ Below w.heap.size w w'

set_option maxHeartbeats 2000000 in
set_option maxRecDepth 100000 in
theorem ups_c (p : ByteArray) (w : World) : Calls Tryz.prog 37 #[.string p] w (UpsP p w) := by
  have HBB : Hid (Below w.heap.size w ((w.alloc (.cells #[.slice none 0 0] 29)).alloc (.cells #[.bool true] 4)) ∧ Below w.heap.size w ((w.alloc (.cells #[.slice none 0 0] 29)).alloc (.cells #[.bool false] 4))) := ⟨below2 _ _ _, below2 _ _ _⟩
  by_cases hroot : bs p = [47]
  · have hq : (p.toList == [47]) = true := by rw [toList_bs, hroot]; rfl
    have HE : Hid (∀ w', Below w.heap.size w w' → UpsP p w (.returned (.tuple #[.slice none 0 0, .bool true])) w') := fun w' hb => by
      unfold UpsP upsL
      rw [if_pos hroot]
      exact ⟨⟨_, rfl, World.ownsRow_nil _ _ _ _⟩, hb⟩
    obtain ⟨Q, hQ⟩ : ∃ Q, UpsP p w = Q := ⟨_, rfl⟩
    rw [hQ] at HE ⊢
    replace hroot := Lib.hid hroot
    clear hQ
    go_enter Tryz.func37, Tryz.ntmps37
    go_wp2_with fail
    refine bodyPost_ret (v := .tuple #[.slice none 0 0, .bool true]) (by simp [results, Tryz.results37, go_sem]) rfl ?_
    exact HE.out _ HBB.out.1
  have hq : (p.toList == [47]) = false := by
    rw [toList_bs]
    simpa using hroot
  by_cases hgood : ∃ r, bs p = 47 :: r ∧ p.size ≤ 200 ∧ cleanB (mkB r) = true
  · obtain ⟨r, h1, h2, h3⟩ := hgood
    refine (ups_loop p (mkB r) (by rw [bs_mkB, h1]) (by rw [bs_mkB]; intro e; rw [e] at h1; exact hroot h1) h2 h3 w).mono ?_
    rintro e w' ⟨hp, hb⟩
    unfold UpsP upsL
    rw [if_neg hroot, h1]
    refine ⟨?_, hb⟩
    rw [bs_mkB] at hp
    by_cases hall : (splitC 47 r).all okPart = true
    · rw [if_pos hall] at hp
      simp only [hall, h2, h3, and_self, if_true]
      rw [upsFrom_len]
      exact hp
    · rw [if_neg hall] at hp
      simp only [hall, Bool.false_eq_true, and_false, if_false]
      exact hp
  · have hno : upsL p = none := by
      unfold upsL
      rw [if_neg hroot]
      cases hb : bs p with
      | nil => rfl
      | cons c r =>
        refine if_neg ?_
        rintro ⟨rfl, h2, h3, _⟩
        exact hgood ⟨r, hb, h2, h3⟩
    have HE : Hid (∀ w', Below w.heap.size w w' → UpsP p w (.returned (.tuple #[.slice none 0 0, .bool false])) w') := fun w' hb => by
      unfold UpsP
      rw [hno]
      exact ⟨rfl, hb⟩
    obtain ⟨Q, hQ⟩ : ∃ Q, UpsP p w = Q := ⟨_, rfl⟩
    rw [hQ] at HE ⊢
    clear hQ hno
    have HC := fun w => Any.strings_CutPrefix Tryz.layCut p ⟨#[47]⟩ w
    by_cases hpre : Lib.hasPrefix p.data.toList [47] = true
    · obtain ⟨r, hr⟩ : ∃ r, bs p = 47 :: r := by
        change Lib.hasPrefix (bs p) [47] = true at hpre
        cases hb : bs p with
        | nil => rw [hb] at hpre; cases hpre
        | cons c r =>
          rw [hb] at hpre
          have : c = 47 := by
            unfold Lib.hasPrefix at hpre
            simp at hpre
            exact hpre.symm
          exact ⟨r, by rw [this]⟩
      have HCUT : Hid (∀ w, Calls Tryz.prog 61 #[.string p, .string ⟨#[47]⟩] w fun e w' => e = .returned (.tuple #[.string (mkB r), .bool true]) ∧ w' = w) := fun w => by
        have h1 := HC w
        have h3 : (⟨(Lib.trimPrefix p.data.toList [47]).toArray⟩ : ByteArray) = mkB r := bs_inj (by
          show Lib.trimPrefix (bs p) [47] = r
          rw [hr]
          rfl)
        rw [show (⟨#[47]⟩ : ByteArray).data.toList = [47] from rfl, hpre, h3] at h1
        exact h1
      have HIDX : Hid (∀ w, Calls Tryz.prog 63 #[.string (mkB r), .func (.func 62) #[] #[]] w fun e w' => e = .returned (.int .i64 (Lib.idxFunc oddR true (mkB r))) ∧ Below w.heap.size w w') := fun w => Any.strings_IndexFunc Tryz.layIdxF 62 _ enters38 oddR (mkB r) w (odd_at w)
      obtain ⟨I0, hI1⟩ : ∃ I0, Lib.idxFunc oddR true (mkB r) = I0 := ⟨_, rfl⟩
      rw [hI1] at HIDX
      clear HC
      have hcl : ¬ I0 < 0 ∨ 200 < p.size := by
        by_cases h : I0 < 0
        · right
          by_cases h2 : 200 < p.size
          · exact h2
          · exact absurd ⟨r, hr, by omega, by unfold cleanB; rw [hI1]; exact decide_eq_true h⟩ hgood
        · exact .inl h
      generalize mkB r = R at HCUT HIDX hI1
      by_cases hlen : 200 < (p.size : Int)
      · have hd : decide (200 < (p.size : Int)) = true := decide_eq_true hlen
        replace hgood := Lib.hid hgood
        replace hr := Lib.hid hr
        replace hroot := Lib.hid hroot
        replace hpre := Lib.hid hpre
        replace hI1 := Lib.hid hI1
        go_enter Tryz.func37, Tryz.ntmps37
        go_wp2_with (go_at_call 61; refine (HCUT.out _).mono ?_; rintro e w' ⟨rfl, rfl⟩)
        refine bodyPost_ret (v := .tuple #[.slice none 0 0, .bool false]) (by simp [results, Tryz.results37, go_sem]) rfl ?_
        exact HE.out _ HBB.out.2
      · have hd : decide (200 < (p.size : Int)) = false := decide_eq_false hlen
        have hI2 : 0 ≤ I0 := by
          rcases hcl with h | h <;> omega
        clear hcl
        replace hgood := Lib.hid hgood
        replace hr := Lib.hid hr
        replace hroot := Lib.hid hroot
        replace hpre := Lib.hid hpre
        replace hI1 := Lib.hid hI1
        have HB0 : Hid (∀ w2, Below ((w.alloc (.cells #[.slice none 0 0] 29)).alloc (.cells #[.bool false] 4)).heap.size ((w.alloc (.cells #[.slice none 0 0] 29)).alloc (.cells #[.bool false] 4)) w2 → BoxN w2 w.heap.size [.slice none 0 0] 29 ∧ BoxN w2 (w.heap.size + 1) [.bool false] 4 ∧ Below w.heap.size w w2) := fun w2 hb2 => by
          have h0 := boxN_alloc w [.slice none 0 0] 29
          have h1 := boxN_alloc (w.alloc (.cells #[.slice none 0 0] 29)) [.bool false] 4
          rw [World.size_alloc] at h1
          exact ⟨(h0.below (below1 _ _)).below hb2, h1.below hb2, below_tr (below2 _ _ _) hb2⟩
        go_enter Tryz.func37, Tryz.ntmps37
        go_wp2_with (first
          | (go_at_call 61; refine (HCUT.out _).mono ?_; rintro e w' ⟨rfl, rfl⟩)
          | (go_at_call 63; refine (HIDX.out _).mono ?_; rintro e w2 ⟨rfl, hb2⟩; have HR := Lib.hid (HB0.out _ hb2); clear hb2; have c2 := HR.out.1.cell (j := 0) rfl; have f2 := HR.out.1.frozen 0; have c3 := HR.out.2.1.cell (j := 0) rfl; have f3 := HR.out.2.1.frozen 0))
        obtain ⟨W2, e2⟩ : ∃ W2, (w2.setCell ⟨w.heap.size, 0, none⟩ (.slice none 0 0)).setCell ⟨w.heap.size + 1, 0, none⟩ (.bool false) = W2 := ⟨_, rfl⟩
        have d2 : W2.cell? ⟨w.heap.size, 0, none⟩ = some (.slice none 0 0) := by
          rw [← e2]
          exact ((HR.out.1.set 0 _).other (by omega) _ _).cell (j := 0) rfl
        have d3 : W2.cell? ⟨w.heap.size + 1, 0, none⟩ = some (.bool false) := by
          rw [← e2]
          exact ((HR.out.2.1.other (by omega) _ _).set 0 _).cell (j := 0) rfl
        have hbW : Below w.heap.size w W2 := by
          rw [← e2]
          exact below_sc (below_sc HR.out.2.2 (Nat.le_refl _) _ _) (by omega) _ _
        rw [e2]
        refine bodyPost_ret (v := .tuple #[.slice none 0 0, .bool false]) (by simp [results, Tryz.results37, go_sem, d2, d3]) rfl ?_
        exact HE.out _ hbW
    · have hpf : Lib.hasPrefix p.data.toList [47] = false := by simpa using hpre
      obtain ⟨T, hT⟩ : ∃ T : ByteArray, (⟨(Lib.trimPrefix p.data.toList [47]).toArray⟩ : ByteArray) = T := ⟨_, rfl⟩
      have HCUT : Hid (∀ w, Calls Tryz.prog 61 #[.string p, .string ⟨#[47]⟩] w fun e w' => e = .returned (.tuple #[.string T, .bool false]) ∧ w' = w) := fun w => by
        have h1 := HC w
        rw [show (⟨#[47]⟩ : ByteArray).data.toList = [47] from rfl, hpf, hT] at h1
        exact h1
      clear HC hT hpf hpre
      replace hgood := Lib.hid hgood
      replace hroot := Lib.hid hroot
      go_enter Tryz.func37, Tryz.ntmps37
      go_wp2_with (go_at_call 61; refine (HCUT.out _).mono ?_; rintro e w' ⟨rfl, rfl⟩)
      refine bodyPost_ret (v := .tuple #[.slice none 0 0, .bool false]) (by simp [results, Tryz.results37, go_sem]) rfl ?_
      exact HE.out _ HBB.out.2
end Go.Proofs.YtnplmembdfklcaaGreatDoor
