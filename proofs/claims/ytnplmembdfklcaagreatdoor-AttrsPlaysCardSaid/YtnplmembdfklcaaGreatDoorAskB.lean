/-
  One call of both stores: Unset, Schema, Search, and a call that is none. Helper text; the conditions are those typed.
-/
import Derived.Test.YtnplmembdfklcaaGreatDoorAskA
namespace Go.Proofs.YtnplmembdfklcaaGreatDoor
set_option linter.unusedVariables false
set_option linter.unusedSimpArgs false
open Go.RowKit Go.Maps

def searchErr (rt : RefT) (how : Int) (key : ByteArray) : Int := if how < 1 ∨ 4 < how then 1 else if keyIdx rt.keys key = none then 84 else 0
def searchAns (rt : RefT) (how : Int) (key p : ByteArray) : List Int := if searchErr rt how key = 0 then rsearch rt.l how key p else []
theorem cut_nil (w : World) : CutI w none 0 0 [] := ⟨rfl, .inl rfl, Nat.le_refl _, by decide⟩
theorem search_form {st : StT} {rt : RefT} (hb : Both st rt) {how : Int} {key p : ByteArray} {w w' : World} {e : Ending} (h : SearchPost st how key p w e w') :
    ∃ a n c, e = .returned (.tuple #[.slice a n c, .int .i64 (searchErr rt how key)]) ∧ CutI w' a n c (searchAns rt how key p) ∧ Below w.heap.size w w' := by
  obtain ⟨h1, h2⟩ := h
  unfold searchAns searchErr
  by_cases e1 : how < 1 ∨ 4 < how
  · rw [if_pos e1] at h1
    rw [if_pos e1, if_neg (by decide)]
    exact ⟨none, 0, 0, h1, cut_nil _, h2⟩
  · rw [if_neg e1] at h1 ⊢
    by_cases e2 : st.kind key = none
    · rw [if_pos e2] at h1
      rw [if_pos ((hb.kind_none key).1 e2), if_neg (by decide)]
      exact ⟨none, 0, 0, h1, cut_nil _, h2⟩
    · rw [if_neg e2] at h1
      rw [if_neg (fun e => e2 ((hb.kind_none key).2 e)), if_pos rfl]
      obtain ⟨l, a, c, he, hr, hm, _, hc⟩ := h1
      have := hb.search hr hm
      rw [← this]
      exact ⟨a, _, c, he, hc, h2⟩
theorem rsearch_form {rt : RefT} {how : Int} {key p : ByteArray} {w w' : World} {e : Ending} (h : RSearchPost rt how key p w e w') :
    ∃ a n c, e = .returned (.tuple #[.slice a n c, .int .i64 (searchErr rt how key)]) ∧ CutI w' a n c (searchAns rt how key p) ∧ Below w.heap.size w w' := by
  obtain ⟨h1, h2⟩ := h
  unfold searchAns searchErr
  by_cases e1 : how < 1 ∨ 4 < how
  · rw [if_pos e1] at h1
    rw [if_pos e1, if_neg (by decide)]
    exact ⟨none, 0, 0, h1, cut_nil _, h2⟩
  · rw [if_neg e1] at h1 ⊢
    by_cases e2 : keyIdx rt.keys key = none
    · rw [if_pos e2] at h1
      rw [if_pos e2, if_neg (by decide)]
      exact ⟨none, 0, 0, h1, cut_nil _, h2⟩
    · rw [if_neg e2] at h1
      rw [if_neg e2, if_pos rfl]
      obtain ⟨v, he, a, n, c, rfl, hc⟩ := h1
      exact ⟨a, n, c, he, hc, h2⟩

section
variable {w0 : World} {S K V L M : Nat} {role r2 : Nat → Role} {vk vd : Value} {ib : Int → Option Nat} {sl : Int → ByteArray → Value} {n : Nat} {vL vK vN vD : Value} {st : StT} {rt : RefT} {wr w' : World}
set_option maxHeartbeats 4000000 in
set_option maxRecDepth 100000 in
theorem ask_other (i : Nat) (h : Duo w0 S K V L M role r2 vk vd ib sl n vL vK vN vD st rt wr) (hn : n ≤ 3 * i) (hb : Both st rt) (hp : PathsOK st.dirs) (o : OpT) (la : Option Addr) (ln lc : Nat) (hk : ¬ (1 ≤ o.kind ∧ o.kind ≤ 7)) :
    Calls Tryz.prog 8 #[.pointer (some ⟨S, 0, none⟩), .pointer (some ⟨M, 0, none⟩), opAgg o (.slice la ln lc)] wr (AskPost w0 S K V L M i) := by
  obtain ⟨W1, hW1⟩ : ∃ W1, wr.alloc (.cells #[.int .i64 o.kind, .int .i64 o.id, .string o.key, .int .i64 o.v.kind, .int .i64 o.v.num, .string o.v.text, .slice la ln lc, .int .i64 o.how, .string o.text] 33) = W1 := ⟨_, rfl⟩
  have HX : Hid (Below wr.heap.size wr W1 ∧ BoxN W1 wr.heap.size (opCells o (.slice la ln lc)) 33) := by
    rw [← hW1]
    exact ⟨below1 _ _, opBox _ _ _⟩
  have HE : Hid (AskPost w0 S K V L M i (.returned (.bool true)) W1) := ⟨rfl, _, _, _, _, _, _, _, _, _, _, _, _, _, h.up HX.out.1, by omega, hb, hp⟩
  have c0 := HX.out.2.cell (j := 0) rfl
  obtain ⟨kd, hkd⟩ : ∃ kd, o.kind = kd := ⟨_, rfl⟩
  rw [hkd] at c0 hW1 hk
  unfold opAgg
  rw [hkd]
  have b1 : (kd == 1) = false := by simp; omega
  have b2 : (kd == 2) = false := by simp; omega
  have b3 : (kd == 3) = false := by simp; omega
  have b4 : (kd == 4) = false := by simp; omega
  have b5 : (kd == 5) = false := by simp; omega
  have b6 : (kd == 6) = false := by simp; omega
  have b7 : (kd == 7) = false := by simp; omega
  clear h hn hb hp hk hkd
  generalize AskPost w0 S K V L M i = Q at HE ⊢
  go_enter Tryz.func8, Tryz.ntmps8
  go_wp2_with fail
  exact HE.out

set_option maxHeartbeats 4000000 in
set_option maxRecDepth 100000 in
theorem ask_search (i : Nat) (h : Duo w0 S K V L M role r2 vk vd ib sl n vL vK vN vD st rt wr) (hn : n ≤ 3 * i) (hb : Both st rt) (hp : PathsOK st.dirs) (hP : Pow w0) (hM : MaxLenC w0) (o : OpT) {So : Nat → Prop} {vo : Value} (ho : OpV w0 So o vo) (la : Option Addr) (ln lc : Nat) (hk : o.kind = 4) :
    Calls Tryz.prog 8 #[.pointer (some ⟨S, 0, none⟩), .pointer (some ⟨M, 0, none⟩), opAgg o (.slice la ln lc)] wr (AskPost w0 S K V L M i) := by
  obtain ⟨W1, hW1⟩ : ∃ W1, wr.alloc (.cells #[.int .i64 o.kind, .int .i64 o.id, .string o.key, .int .i64 o.v.kind, .int .i64 o.v.num, .string o.v.text, .slice la ln lc, .int .i64 o.how, .string o.text] 33) = W1 := ⟨_, rfl⟩
  have HX : Hid (Below wr.heap.size wr W1 ∧ BoxN W1 wr.heap.size (opCells o (.slice la ln lc)) 33) := by
    rw [← hW1]
    exact ⟨below1 _ _, opBox _ _ _⟩
  have HD := Lib.hid (h.up HX.out.1)
  have H1 : Hid (Calls Tryz.prog 14 #[.pointer (some ⟨S, 0, none⟩), .string o.key, .int .i64 o.how, .string o.text] W1 fun e w' => ∃ a n c, e = .returned (.tuple #[.slice a n c, .int .i64 (searchErr rt o.how o.key)]) ∧ CutI w' a n c (searchAns rt o.how o.key o.text) ∧ Below W1.heap.size W1 w') :=
    (search_c HD.out.store HD.out.below.size hb.sok (pow_below hP HD.out.below) (hM.below HD.out.below) o.how ho.key ho.text).mono fun e w' h => search_form hb h
  have H2 : Hid (∀ W, Below W1.heap.size W1 W → Calls Tryz.prog 25 #[.pointer (some ⟨M, 0, none⟩), .string o.key, .int .i64 o.how, .string o.text] W fun e w' => ∃ a n c, e = .returned (.tuple #[.slice a n c, .int .i64 (searchErr rt o.how o.key)]) ∧ CutI w' a n c (searchAns rt o.how o.key o.text) ∧ Below W.heap.size W w') := fun W hw =>
    (rsearch_c (HD.out.up hw).ref (HD.out.up hw).below.size hb.small hb.okv (pow_below hP (HD.out.up hw).below) o.how o.key o.text ho.text).mono fun e w' h => rsearch_form h
  have HC : Hid (∀ W, Below W1.heap.size W1 W → W.cell? ⟨wr.heap.size, 2, none⟩ = some (.string o.key) ∧ W.cell? ⟨wr.heap.size, 7, none⟩ = some (.int .i64 o.how) ∧ W.cell? ⟨wr.heap.size, 8, none⟩ = some (.string o.text)) := fun W hw => ⟨cell_tr hw (HX.out.2.cell (j := 2) rfl), cell_tr hw (HX.out.2.cell (j := 7) rfl), cell_tr hw (HX.out.2.cell (j := 8) rfl)⟩
  have HE : Hid (∀ W, Below W1.heap.size W1 W → AskPost w0 S K V L M i (.returned (.bool true)) W) := fun W hw => ⟨rfl, _, _, _, _, _, _, _, _, _, _, _, _, _, HD.out.up hw, by omega, hb, hp⟩
  obtain ⟨c2, c7, c8⟩ := HC.out W1 (Below.refl _ _)
  have c0 := HX.out.2.cell (j := 0) rfl
  rw [hk] at c0
  rw [hk] at hW1
  unfold opAgg
  rw [hk]
  generalize searchErr rt o.how o.key = er at H1 H2
  generalize searchAns rt o.how o.key o.text = xs at H1 H2
  clear h hn hb hp hk HD hP hM ho
  generalize AskPost w0 S K V L M i = Q at HE ⊢
  go_enter Tryz.func8, Tryz.ntmps8
  go_upto_region 24 with (go_at_call 14; refine H1.out.mono ?_; rintro e w2 ⟨a2, n2, cc2, rfl, hc2, hb2⟩)
  have HB2 := Lib.hid hb2
  have HC2 := Lib.hid hc2
  clear hb2 hc2 c0 c2 c7 c8
  obtain ⟨c2, c7, c8⟩ := HC.out w2 HB2.out
  go_upto_region 25 with (go_at_call 25; refine (H2.out w2 HB2.out).mono ?_; rintro e w3 ⟨a3, n3, cc3, rfl, hc3, hb3⟩)
  have HSM := Lib.hid (same_eq (HC2.out.below hb3) hc3 rfl)
  have HB3 := Lib.hid (below_tr HB2.out hb3)
  clear hb3 hc3 c2 c7 c8
  have q1 : (er == er) = true := by simp
  go_wp2_with (go_at_call 26; refine HSM.out.mono ?_; rintro e w4 ⟨rfl, hb4⟩)
  exact HE.out _ (below_tr HB3.out hb4)

set_option maxHeartbeats 4000000 in
set_option maxRecDepth 100000 in
theorem ask_schema (i : Nat) (h : Duo w0 S K V L M role r2 vk vd ib sl n vL vK vN vD st rt wr) (hn : n ≤ 3 * i) (hb : Both st rt) (hp : PathsOK st.dirs) (o : OpT) {So : Nat → Prop} {vo : Value} (ho : OpV w0 So o vo) (la : Option Addr) (ln lc : Nat) (hk : o.kind = 7) :
    Calls Tryz.prog 8 #[.pointer (some ⟨S, 0, none⟩), .pointer (some ⟨M, 0, none⟩), opAgg o (.slice la ln lc)] wr (AskPost w0 S K V L M i) := by
  obtain ⟨W1, hW1⟩ : ∃ W1, wr.alloc (.cells #[.int .i64 o.kind, .int .i64 o.id, .string o.key, .int .i64 o.v.kind, .int .i64 o.v.num, .string o.v.text, .slice la ln lc, .int .i64 o.how, .string o.text] 33) = W1 := ⟨_, rfl⟩
  have HX : Hid (Below wr.heap.size wr W1 ∧ BoxN W1 wr.heap.size (opCells o (.slice la ln lc)) 33) := by
    rw [← hW1]
    exact ⟨below1 _ _, opBox _ _ _⟩
  have HD := Lib.hid (h.up HX.out.1)
  obtain ⟨xs, hxs⟩ : ∃ xs, rschema rt.l o.id = xs := ⟨_, rfl⟩
  have H1 : Hid (∀ W, Below W1.heap.size W1 W → Calls Tryz.prog 20 #[.pointer (some ⟨S, 0, none⟩), .int .i64 o.id] W fun e w' => ∃ a n c, e = .returned (.slice a n c) ∧ CutS w' a n c xs ∧ Below W.heap.size W w') := fun W hw =>
    (schema_c (HD.out.up hw).store hb.kok ho.idw).mono fun e w' ⟨v, l, he, ho, hr, hm, _⟩ => by
      obtain ⟨a, n, c, rfl, hc⟩ := ho.sliceI
      rw [hb.schema hr hm, hxs] at hc
      exact ⟨a, n, c, he, hc, ho.2⟩
  have H2 : Hid (∀ W, Below W1.heap.size W1 W → Calls Tryz.prog 29 #[.pointer (some ⟨M, 0, none⟩), .int .i64 o.id] W fun e w' => ∃ a n c, e = .returned (.slice a n c) ∧ CutS w' a n c xs ∧ Below W.heap.size W w') := fun W hw =>
    (rschema_c (HD.out.up hw).ref (HD.out.up hw).below.size hb.small o.id).mono fun e w' ⟨v, he, ⟨a, n, c, hv, hc⟩, hb'⟩ => by
      subst hv
      rw [hxs] at hc
      exact ⟨a, n, c, he, hc, hb'⟩
  have HC : Hid (∀ W : World, W.heap[wr.heap.size]? = W1.heap[wr.heap.size]? → W.cell? ⟨wr.heap.size, 1, none⟩ = some (.int .i64 o.id)) := fun W hw => cell_blk hw (HX.out.2.cell (j := 1) rfl)
  have HE : Hid (∀ W, Below W1.heap.size W1 W → AskPost w0 S K V L M i (.returned (.bool true)) W) := fun W hw => ⟨rfl, _, _, _, _, _, _, _, _, _, _, _, _, _, HD.out.up hw, by omega, hb, hp⟩
  have HLT : Hid (wr.heap.size < W1.heap.size) := HX.out.2.lt
  have c0 := HX.out.2.cell (j := 0) rfl
  rw [hk] at c0
  rw [hk] at hW1
  unfold opAgg
  rw [hk]
  clear h hn hb hp hk HD ho hxs
  generalize AskPost w0 S K V L M i = Q at HE ⊢
  go_enter Tryz.func8, Tryz.ntmps8
  go_upto_region 36 with fail
  refine Two.wp_region_ord2 (fun W => W.heap[wr.heap.size]? = W1.heap[wr.heap.size]?) (fun _ => True) 9 9 [(.qb, 0), (.qb, 1), (.qa, 2), (.qb, 4), (.qb, 5), (.qa, 6), (.l0, 3), (.l0, 7), (.l0, 8), (.l2, 9)] (by kernel_rfl) (by kernel_rfl) (fun _ _ d _ _ h => by cases d <;> exact h) rfl trivial ?_
  intro wd hwd hS hS2
  simp only [Two.ordOps2, List.map_cons, List.map_nil, Array.getD_eq_getD_getElem?, List.getElem?_toArray, List.getElem?_cons_succ, List.getElem?_cons_zero, Option.getD_some]
  have HBd : Hid (Below W1.heap.size W1 wd) := by rw [hwd.out]; exact (Below.refl _ _).drew
  iterate 2 (refine Two.step_qb rfl _ (fun w' hS' K hK => (by clear hS'; go_simp; exact hK)) (fun K hK => ?_); go_simp; refine hK _ ?_; clear hK K)
  refine Two.step_qa rfl _ (fun w' hS' K hK => (by have q1 := HC.out w' hS'; clear hS'; go_simp; exact hK)) (fun K hK => ?_); go_simp; refine hK _ ?_; clear hK K
  iterate 2 (refine Two.step_qb rfl _ (fun w' hS' K hK => (by clear hS'; go_simp; exact hK)) (fun K hK => ?_); go_simp; refine hK _ ?_; clear hK K)
  refine Two.step_qa rfl _ (fun w' hS' K hK => (by have q1 := HC.out w' hS'; clear hS'; go_simp; exact hK)) (fun K hK => ?_); go_simp; refine hK _ ?_; clear hK K
  refine Two.step_l0 rfl (fun K hK => ?_)
  go_simp
  refine (H1.out wd HBd.out).mono ?_
  rintro e w5 ⟨a5, n5, c5, rfl, hs5, hb5⟩
  have HS5 := Lib.hid hs5
  have HB5 : Hid (Below W1.heap.size W1 w5) := below_tr HBd.out hb5
  refine hK _ _ ⟨⟨HB5.out.block _ HLT.out, trivial⟩, ?_⟩
  clear hK K hs5 hb5
  refine Two.step_l0 rfl (fun K hK => ?_)
  go_simp
  refine (H2.out w5 HB5.out).mono ?_
  rintro e w6 ⟨a6, n6, c6, rfl, hs6, hb6⟩
  have HSAME : Hid (Calls Tryz.prog 9 #[.slice a5 n5 c5, .slice a6 n6 c6] w6 fun e w' => e = .returned (.bool true) ∧ Below w6.heap.size w6 w') := by
    have h5 := HS5.out.below hb6
    have h1 := same_c w6 a5 a6 n5 n6 c5 c6 _ _ h5.1.symm hs6.1.symm h5.2.1 hs6.2.1 (Nat.le_trans h5.2.2.1 h5.2.2.2)
    rw [decide_eq_true rfl] at h1
    exact h1
  have HB6 : Hid (Below W1.heap.size W1 w6) := below_tr HB5.out hb6
  refine hK _ _ ⟨⟨HB6.out.block _ HLT.out, trivial⟩, ?_⟩
  clear hK K hs6 hb6
  refine Two.step_l0 rfl (fun K hK => ?_)
  go_simp
  refine HSAME.out.mono ?_
  rintro e w7 ⟨rfl, hb7⟩
  have HB7 : Hid (Below W1.heap.size W1 w7) := below_tr HB6.out hb7
  refine hK _ _ ⟨⟨HB7.out.block _ HLT.out, trivial⟩, ?_⟩
  clear hK K hb7
  refine Two.step_l2 rfl (fun K hK => ?_)
  go_simp
  refine hK _ _ ?_
  clear hK K
  refine Two.step_nil ?_
  clear HSAME HS5 HB5 HB6 HBd hwd hS hS2 HC H1 H2
  go_wp2_with fail
  exact HE.out _ HB7.out

set_option maxHeartbeats 4000000 in
set_option maxRecDepth 100000 in
theorem ask_unset (i : Nat) (h : Duo w0 S K V L M role r2 vk vd ib sl n vL vK vN vD st rt wr) (hn : n ≤ 3 * i) (hb : Both st rt) (hp : PathsOK st.dirs) (o : OpT) {So : Nat → Prop} {vo : Value} (ho : OpV w0 So o vo) (la : Option Addr) (ln lc : Nat) (hk : o.kind = 3) :
    Calls Tryz.prog 8 #[.pointer (some ⟨S, 0, none⟩), .pointer (some ⟨M, 0, none⟩), opAgg o (.slice la ln lc)] wr (AskPost w0 S K V L M i) := by
  obtain ⟨W1, hW1⟩ : ∃ W1, wr.alloc (.cells #[.int .i64 o.kind, .int .i64 o.id, .string o.key, .int .i64 o.v.kind, .int .i64 o.v.num, .string o.v.text, .slice la ln lc, .int .i64 o.how, .string o.text] 33) = W1 := ⟨_, rfl⟩
  have HX : Hid (Below wr.heap.size wr W1 ∧ BoxN W1 wr.heap.size (opCells o (.slice la ln lc)) 33) := by
    rw [← hW1]
    exact ⟨below1 _ _, opBox _ _ _⟩
  have HD := Lib.hid (h.up HX.out.1)
  have HF : Hid (role wr.heap.size = .free ∧ r2 wr.heap.size = .free) := ⟨h.store.hi.free (Nat.le_refl _), h.ref.hi.free (Nat.le_refl _)⟩
  obtain ⟨er, her⟩ : ∃ er : Int, (if st.val o.id o.key = none then 84 else 0) = er := ⟨_, rfl⟩
  have her2 : (if keptIdx rt.l o.id o.key = none then 84 else 0) = er := by
    rw [← her]
    by_cases e : st.val o.id o.key = none
    · rw [if_pos e, if_pos ((hb.kept_none _ _).1 e)]
    · rw [if_neg e, if_neg (fun e2 => e ((hb.kept_none _ _).2 e2))]
  have H1 : Hid (∀ W, Below W1.heap.size W1 W → Calls Tryz.prog 19 #[.pointer (some ⟨S, 0, none⟩), .int .i64 o.id, .string o.key] W fun e w' => e = .returned (.int .i64 er) ∧ ∃ role' ib' sl', Moved role W role' w' ∧ StoreIn w' w0.heap.size role' S K V L vk vd ib' sl' n (if st.val o.id o.key = none then st else unsetSt st o.id o.key)) := fun W hw => by
    have := unset_c (HD.out.up hw).store (HD.out.up hw).below.size ho.idw ho.key
    unfold UnsetPost at this
    rw [her] at this
    exact this
  have H2 : Hid (∀ W role' ib' sl' st', Duo w0 S K V L M role' r2 vk vd ib' sl' n vL vK vN vD st' rt W → Calls Tryz.prog 24 #[.pointer (some ⟨M, 0, none⟩), .int .i64 o.id, .string o.key] W fun e w' => e = .returned (.int .i64 er) ∧ ∃ r2' vL', Moved r2 W r2' w' ∧ RefIn w' w0.heap.size r2' M vL' vK vN vD { rt with l := runset rt.l o.id o.key }) := fun W role' ib' sl' st' hd => by
    have := runset_c hd.ref hd.below.size hb.small o.id o.key
    unfold RUnsetPost at this
    rw [her2] at this
    exact this
  have HC : Hid (∀ W : World, W.heap[wr.heap.size]? = W1.heap[wr.heap.size]? → W.cell? ⟨wr.heap.size, 1, none⟩ = some (.int .i64 o.id) ∧ W.cell? ⟨wr.heap.size, 2, none⟩ = some (.string o.key)) := fun W hw => ⟨cell_blk hw (HX.out.2.cell (j := 1) rfl), cell_blk hw (HX.out.2.cell (j := 2) rfl)⟩
  have HPF : Hid (PathsOK (if st.val o.id o.key = none then st else unsetSt st o.id o.key).dirs) := by
    unfold Hid
    split
    · exact hp
    · exact hp
  have HE : Hid (∀ W role' ib' sl' r2' vL', Duo w0 S K V L M role' r2' vk vd ib' sl' n vL' vK vN vD (if st.val o.id o.key = none then st else unsetSt st o.id o.key) { rt with l := runset rt.l o.id o.key } W → AskPost w0 S K V L M i (.returned (.bool true)) W) := fun W role' ib' sl' r2' vL' hd => ⟨rfl, _, _, _, _, _, _, _, _, _, _, _, _, _, hd, by omega, hb.unset o.id o.key, HPF.out⟩
  have HLT : Hid (wr.heap.size < W1.heap.size) := HX.out.2.lt
  have c0 := HX.out.2.cell (j := 0) rfl
  rw [hk] at c0
  rw [hk] at hW1
  unfold opAgg
  rw [hk]
  have q1 : (er == er) = true := by simp
  clear h hn hb hp hk ho her her2
  generalize AskPost w0 S K V L M i = Q at HE ⊢
  generalize (if st.val o.id o.key = none then st else unsetSt st o.id o.key) = st' at H1 HE HPF
  go_enter Tryz.func8, Tryz.ntmps8
  go_upto_region 21 with fail
  refine Two.wp_region_ord2 (fun W => W.heap[wr.heap.size]? = W1.heap[wr.heap.size]?) (fun _ => True) 13 13 [(.qb, 0), (.qb, 1), (.qa, 2), (.qb, 3), (.qa, 4), (.qb, 6), (.qb, 7), (.qa, 8), (.qb, 9), (.qa, 10), (.l0, 5), (.l0, 11), (.l0, 12), (.l2, 13)] (by kernel_rfl) (by kernel_rfl) (fun _ _ d _ _ h => by cases d <;> exact h) rfl trivial ?_
  intro wd hwd hS hS2
  simp only [Two.ordOps2, List.map_cons, List.map_nil, Array.getD_eq_getD_getElem?, List.getElem?_toArray, List.getElem?_cons_succ, List.getElem?_cons_zero, Option.getD_some]
  have HBd : Hid (Below W1.heap.size W1 wd) := by rw [hwd.out]; exact (Below.refl _ _).drew
  iterate 2 (refine Two.step_qb rfl _ (fun w' hS' K hK => (by clear hS'; go_simp; exact hK)) (fun K hK => ?_); go_simp; refine hK _ ?_; clear hK K)
  refine Two.step_qa rfl _ (fun w' hS' K hK => (by have q1 := (HC.out w' hS').1; clear hS'; go_simp; exact hK)) (fun K hK => ?_); go_simp; refine hK _ ?_; clear hK K
  refine Two.step_qb rfl _ (fun w' hS' K hK => (by clear hS'; go_simp; exact hK)) (fun K hK => ?_); go_simp; refine hK _ ?_; clear hK K
  refine Two.step_qa rfl _ (fun w' hS' K hK => (by have q1 := (HC.out w' hS').2; clear hS'; go_simp; exact hK)) (fun K hK => ?_); go_simp; refine hK _ ?_; clear hK K
  iterate 2 (refine Two.step_qb rfl _ (fun w' hS' K hK => (by clear hS'; go_simp; exact hK)) (fun K hK => ?_); go_simp; refine hK _ ?_; clear hK K)
  refine Two.step_qa rfl _ (fun w' hS' K hK => (by have q1 := (HC.out w' hS').1; clear hS'; go_simp; exact hK)) (fun K hK => ?_); go_simp; refine hK _ ?_; clear hK K
  refine Two.step_qb rfl _ (fun w' hS' K hK => (by clear hS'; go_simp; exact hK)) (fun K hK => ?_); go_simp; refine hK _ ?_; clear hK K
  refine Two.step_qa rfl _ (fun w' hS' K hK => (by have q1 := (HC.out w' hS').2; clear hS'; go_simp; exact hK)) (fun K hK => ?_); go_simp; refine hK _ ?_; clear hK K
  refine Two.step_l0 rfl (fun K hK => ?_)
  go_simp
  refine (H1.out wd HBd.out).mono ?_
  rintro e w5 ⟨rfl, role', ib', sl', hm5, hs5⟩
  have HD5 := Lib.hid ((HD.out.up HBd.out).step1 hm5 hs5)
  have HW5 : Hid (w5.heap[wr.heap.size]? = W1.heap[wr.heap.size]?) := (hm5.block (Nat.lt_of_lt_of_le HLT.out HBd.out.size) HF.out.1).1.trans hS
  have HZ5 : Hid (wr.heap.size < w5.heap.size) := Nat.lt_of_lt_of_le HLT.out (Nat.le_trans HBd.out.size hm5.size)
  refine hK _ _ ⟨⟨HW5.out, trivial⟩, ?_⟩
  clear hK K hs5 hm5
  refine Two.step_l0 rfl (fun K hK => ?_)
  go_simp
  refine (H2.out w5 _ _ _ _ HD5.out).mono ?_
  rintro e w6 ⟨rfl, r2', vL', hm6, hs6⟩
  have HD6 := Lib.hid (HD5.out.step2 hm6 hs6)
  have HW6 : Hid (w6.heap[wr.heap.size]? = W1.heap[wr.heap.size]?) := (hm6.block HZ5.out HF.out.2).1.trans HW5.out
  refine hK _ _ ⟨⟨HW6.out, trivial⟩, ?_⟩
  clear hK K hs6 hm6
  refine Two.step_l0 rfl (fun K hK => ?_)
  go_simp
  refine hK _ _ ⟨⟨HW6.out, trivial⟩, ?_⟩
  clear hK K
  refine Two.step_l2 rfl (fun K hK => ?_)
  go_simp
  refine hK _ _ ?_
  clear hK K
  refine Two.step_nil ?_
  have HFIN := Lib.hid (HE.out _ _ _ _ _ _ HD6.out)
  clear HD5 HD6 HW5 HW6 HBd hwd hS hS2 HC H1 H2 HE
  go_wp2_with fail
  exact HFIN.out
end
end Go.Proofs.YtnplmembdfklcaaGreatDoor
