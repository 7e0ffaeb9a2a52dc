/-
  The solver: the watch map, rows of no room, an append to a watch row, roles. Helper text; the conditions are those typed.
-/
import Derived.Test.YtkeagjphddcjeaaSolB
namespace Go.Proofs.Ytkeagjphddcjeaa
set_option linter.unusedVariables false
set_option linter.unusedSimpArgs false
open Go.RowKit Go.Maps Sat
open Go.ChangeShapes Go.WideShapes Go.MapKept Go.ChangeMaps
open Go.WideElems (Fit rd rg pl rd_key rd_val rg_of rd_mk)

theorem keyWf {i : Int} (h0 : -9223372036854775808 ≤ i) (h1 : i ≤ 9223372036854775807) : (Lit.int .i64 i).wf = true := by
  have e1 : IntKind.i64.min = -9223372036854775808 := by decide
  have e2 : IntKind.i64.max = 9223372036854775807 := by decide
  simp [Lit.wf, IntKind.wrap, IntKind.bits, IntKind.signed, e1, e2]
  omega
theorem keyed3 : Keyed Try.prog 3 := int_keyed Try.underlying3
theorem key3 {n : Nat} {l : Int} (h : Lok n l) (hn : n ≤ 1000) : keyOf Try.prog 3 (.int .i64 l) = some (.int .i64 l) := by
  have h2 := h.2
  have h3 : -1000 ≤ l ∧ l ≤ 1000 := by omega
  exact keyOf_int_mk Try.underlying3 (keyWf (by omega) (by omega))

/-- A map whose keys are literals has no more entries than there are literals. -/
theorem MapAt.tight {w : World} {b N n : Nat} {wo : Int → Option Value} (h : MapAt Try.prog 3 w b N (woF wo)) (hd : ∀ l v, wo l = some v → Lok n l) : MapAt Try.prog 3 w b (2 * n) (woF wo) := by
  obtain ⟨D, ⟨es, clock, hb, F, hs, rfl⟩, hf⟩ := h
  refine ⟨_, ⟨es, clock, hb, F, ?_, rfl⟩, hf⟩
  have hkey : ∀ x ∈ es.toList, ∃ l, Lok n l ∧ x.key = .int .i64 l := fun x hx => by
    obtain ⟨y, hy⟩ := F.reads x hx
    have hk := rd_key hy
    have hh := (hf x.key y.1 hk).1
    have hyes : has (.map ((es.toList.map (rg Try.prog 3 rawE)).foldr DataW.insert []) : DataW Value) y.1 = true := by
      rw [has_eq, List.any_eq_true]
      refine ⟨rg Try.prog 3 rawE x, (sorted_perm _).mem_iff.2 (List.mem_map_of_mem hx), ?_⟩
      rw [rg_of hy]
      exact WideAt.sameKey_self (keyed3.key hk)
    rw [hyes] at hh
    cases hx2 : woF wo x.key with
    | none => rw [hx2] at hh; cases hh
    | some v =>
      unfold woF at hx2
      split at hx2
      · exact ⟨_, hd _ _ hx2, by assumption⟩
      · cases hx2
  have hn : es.toList.Pairwise (fun x y => x.key ≠ y.key) := ((stamped_iff es clock).1 F.stamped).2.2
  let code : MapEntry → Nat := fun x => match x.key with
    | .int _ l => if l < 0 then 2 * vr l else 2 * vr l + 1
    | _ => 0
  have hnd : (es.toList.map code).Nodup := by
    rw [List.nodup_iff_pairwise_ne, List.pairwise_map]
    have : es.toList.Pairwise (fun x y => x ∈ es.toList ∧ y ∈ es.toList ∧ x.key ≠ y.key) := List.Pairwise.imp_of_mem (fun ha hb h => ⟨ha, hb, h⟩) hn
    refine this.imp fun ⟨ha, hb, hne⟩ he => hne ?_
    obtain ⟨l, hl, e1⟩ := hkey _ ha
    obtain ⟨l', hl', e2⟩ := hkey _ hb
    simp only [code, e1, e2] at he
    rw [e1, e2]
    have hv := hl.1
    have hv' := hl'.1
    have : l = l' := by
      unfold vr at he
      split at he <;> split at he <;> omega
    rw [this]
  have hsub : ∀ x ∈ es.toList.map code, x ∈ List.range (2 * n) := fun x hx => by
    obtain ⟨e, he, rfl⟩ := List.mem_map.1 hx
    obtain ⟨l, hl, e1⟩ := hkey e he
    have := hl.lt
    simp only [code, e1, List.mem_range]
    split <;> omega
  have := List.Nodup.length_le_of_subset hnd hsub
  simpa using this

/-- An append to a row, or to one of no room. -/
theorem run_append_z {w : World} {B : Nat} {v : Value} {xs : List Value} (h : RowZ w B v xs) (ad : Addr) (m c : Nat) (news : List Value) (hl : news.length = m) (hnews : ∀ j u, news[j]? = some u → w.cell? (ad.add j) = some u) (h1 : ∀ u ∈ news, u.oneCell' = true)
    (hm : 0 < m) (hb : xs.length + m ≤ 8796093022208) (hbase : B ≤ w.heap.size) :
    ∃ g cap w' row, (Builtin.append_ #[24, 24] 24 #[v, .slice (some ad) m c]).run Try.prog w = .ok (.slice (some ⟨g, 0, none⟩) (xs.length + m) cap) w' ∧
      w'.ownsRow B 3 1 (.slice (some ⟨g, 0, none⟩) (xs.length + m) cap) (xs.length + m) (xs ++ news) ∧ w.grownBy w' row ∧ (row = some g ∨ w.heap.size = g) ∧ g < w'.heap.size ∧
      ∀ k, row = some k → v.ownBlock = some k ∧ ∀ a, v ≠ .slice (some a) 0 0 := by
  obtain ⟨i3, hi3, hz30, hz31, hz32⟩ := info_parts info3
  by_cases hz : ∃ a, v = .slice (some a) 0 0
  · obtain ⟨a, rfl⟩ := hz
    have hx : xs = [] := by
      rcases h with h | ⟨_, _, h⟩
      · rcases h.2 with ⟨e, _⟩ | ⟨g, cap, cur, e, _⟩
        · cases e
        · injection e with _ e2 _
          exact List.eq_nil_of_length_eq_zero e2.symm
      · exact h
    subst hx
    obtain ⟨g, cap, w', hr, h2, h3, h4, h5⟩ := run_append_lies (P := Try.prog) w 24 24 B 3 i3 (.int .i64 0) 1 8 Try.underlying24 hi3 hz30 hz31 hz32 rfl (by decide) (.slice none 0 0) 0 [] (World.ownsRow_nil _ _ _ _) ad m c news (by omega) hnews h1 hm (by unfold maxLen; simp at hb; omega) (by simp at hb; omega) hbase w.heap.size rfl
    have hl' : news.length = m * i3.size := by rw [hz31]; omega
    have e1 := run_append_nil (P := Try.prog) w 24 24 3 i3 (.int .i64 0) Try.underlying24 hi3 hz30 ad m c news hl' hnews hm (by simp at hb; omega) (by rw [hz32]; simp at hb; omega)
    have e2 := run_append_grow (P := Try.prog) w 24 24 3 i3 (.int .i64 0) Try.underlying24 hi3 hz30 a 0 0 [] (by simp) (by simp) ad m c news hl' hnews (by omega) (by simp at hb; omega) (by rw [hz32]; simp at hb; rw [Nat.zero_add, nextslicecap_zero hm]; omega)
    have e3 : (Builtin.append_ #[24, 24] 24 #[.slice (some a) 0 0, .slice (some ad) m c]).run Try.prog w = (Builtin.append_ #[24, 24] 24 #[.slice none 0 0, .slice (some ad) m c]).run Try.prog w := by
      rw [e1, e2]
      simp
    refine ⟨g, cap, w', none, ?_, by simpa using h2, h3, ?_, h5, fun k hk => by cases hk⟩
    · rw [e3, hr]
      simp
    · rcases h4 with h4 | h4
      · cases h4
      · exact .inr h4.symm
  · rcases h with h | ⟨a, ha, _⟩
    · obtain ⟨g, cap, w', hr, h2, h3, h4, h5⟩ := run_append_lies (P := Try.prog) w 24 24 B 3 i3 (.int .i64 0) 1 8 Try.underlying24 hi3 hz30 hz31 hz32 rfl (by decide) v xs.length xs h ad m c news (by omega) hnews h1 hm (by unfold maxLen; omega) (by omega) hbase w.heap.size rfl
      exact ⟨g, cap, w', v.ownBlock, hr, h2, h3, h4.imp (fun h => h) (fun h => h.symm), h5, fun k hk => ⟨hk, fun a ha => hz ⟨a, ha⟩⟩⟩
    · exact absurd ⟨a, ha⟩ hz
/-- At the operation. -/
theorem wp_append_z {w : World} {o : Oper} {a : Act} {K : Act → World → Prop} {Q : Exit → Act → World → Prop} (s x : Operand)
    (ho : o.op = .call { callee := .builtin .append, args := #[s, x], argTypes := #[24, 24] }) (hty : o.type = 24)
    {B : Nat} {v : Value} {xs : List Value} (h : RowZ w B v xs) (hs : a.eval s = v) (ad : Addr) (m c : Nat) (news : List Value) (hx : a.eval x = .slice (some ad) m c) (hl : news.length = m) (hnews : ∀ j u, news[j]? = some u → w.cell? (ad.add j) = some u) (h1 : ∀ u ∈ news, u.oneCell' = true)
    (hm : 0 < m) (hb : xs.length + m ≤ 8796093022208) (hbase : B ≤ w.heap.size)
    (hK : ∀ g cap w' row, w'.ownsRow B 3 1 (.slice (some ⟨g, 0, none⟩) (xs.length + m) cap) (xs.length + m) (xs ++ news) → w.grownBy w' row → (row = some g ∨ w.heap.size = g) → g < w'.heap.size → (∀ k, row = some k → v.ownBlock = some k ∧ ∀ a, v ≠ .slice (some a) 0 0) → K (a.put o.dst (.slice (some ⟨g, 0, none⟩) (xs.length + m) cap)) w') : o.wp Try.prog a w K Q := by
  obtain ⟨g, cap, w', row, hr, h2, h3, h4, h5, h6⟩ := run_append_z h ad m c news hl hnews h1 hm hb hbase
  unfold Oper.wp execOp
  simp only [ho, hty, resolve, invoke, builtin, Sem.run_bind, Sem.run_pure, Result.andThen_ok, List.map_toArray, List.map_cons, List.map_nil, hs, hx, hr]
  exact hK g cap w' row h2 h3 h4 h5 h6
theorem wpList_append_z {w : World} {ops : Array Oper} {rest : List Oper} {o : Oper} {a : Act} {Q : Exit → Act → World → Prop} (hgd : o.guard = none) (s x : Operand)
    (ho : o.op = .call { callee := .builtin .append, args := #[s, x], argTypes := #[24, 24] }) (hty : o.type = 24)
    {B : Nat} {v : Value} {xs : List Value} (h : RowZ w B v xs) (hs : a.eval s = v) (ad : Addr) (m c : Nat) (news : List Value) (hx : a.eval x = .slice (some ad) m c) (hl : news.length = m) (hnews : ∀ j u, news[j]? = some u → w.cell? (ad.add j) = some u) (h1 : ∀ u ∈ news, u.oneCell' = true)
    (hm : 0 < m) (hb : xs.length + m ≤ 8796093022208) (hbase : B ≤ w.heap.size)
    (hK : ∀ g cap w' row, w'.ownsRow B 3 1 (.slice (some ⟨g, 0, none⟩) (xs.length + m) cap) (xs.length + m) (xs ++ news) → w.grownBy w' row → (row = some g ∨ w.heap.size = g) → g < w'.heap.size → (∀ k, row = some k → v.ownBlock = some k ∧ ∀ a, v ≠ .slice (some a) 0 0) → wpList Try.prog ops Q rest (a.put o.dst (.slice (some ⟨g, 0, none⟩) (xs.length + m) cap)) w') : wpList Try.prog ops Q (o :: rest) a w :=
  wpList_plain hgd fun _ hK' => wp_append_z s x ho hty h hs ad m c news hx hl hnews h1 hm hb hbase fun g cap w' row h2 h3 h4 h5 h6 => hK' _ _ (hK g cap w' row h2 h3 h4 h5 h6)

theorem Step.of_rows {role : Nat → Role} {w w' : World} (hi : Inn role w) {row : Option Nat} {R : Role} (hR : R ≠ .free) (hv : ∀ b, row = some b → role b = R) (hg : w.grownBy w' row) {g : Nat} (hat : row = some g ∨ w.heap.size = g) (hlt : g < w'.heap.size) :
    Step (fun r => r = R) role w (fun b => if b = g then R else role b) w' :=
  ⟨hg.os, hg.tape, hg.output, hg.size, fun b hb hr => ⟨hg.block b hb (fun e => hr (hv b e.symm)), if_neg (fun e => by
      subst e
      rcases hat with h1 | h1
      · exact hr (hv b h1)
      · omega)⟩, fun b hr => by
    by_cases e : b = g
    · subst e
      refine ⟨hlt, ?_⟩
      rcases hat with h1 | h1
      · left; rw [hv b h1]; exact hR
      · exact .inr (by omega)
    · have hr' : role b ≠ .free := by simpa only [e, if_false] using hr
      exact ⟨Nat.lt_of_lt_of_le (hi b hr') hg.size, .inl hr'⟩⟩
/-- A kept row becomes another part. -/
theorem Step.rerole {T : Role → Prop} {role role1 : Nat → Role} {w w1 : World} (hs : Step T role w role1 w1) {g : Nat} (hk : role1 g = .kept) (hT : T .kept) {R : Role} : Step T role w (fun b => if b = g then R else role1 b) w1 :=
  ⟨hs.os, hs.tape, hs.output, hs.size, fun b hb hr => ⟨(hs.same b hb hr).1, by
    have h2 := (hs.same b hb hr).2
    show (if b = g then R else role1 b) = role b
    rw [if_neg (fun e => by subst e; rw [hk] at h2; exact hr (h2 ▸ hT))]
    exact h2⟩, fun b hr => by
    by_cases e : b = g
    · subst e
      exact hs.dom b (by rw [hk]; simp)
    · exact hs.dom b (by simpa only [e, if_false] using hr)⟩
/-- A block that is new becomes a part. -/
theorem Step.take {T : Role → Prop} {role role1 : Nat → Role} {w w1 : World} (hs : Step T role w role1 w1) {g : Nat} (hg : w.heap.size ≤ g) (hlt : g < w1.heap.size) {R : Role} : Step T role w (fun b => if b = g then R else role1 b) w1 :=
  ⟨hs.os, hs.tape, hs.output, hs.size, fun b hb hr => ⟨(hs.same b hb hr).1, by
    show (if b = g then R else role1 b) = role b
    rw [if_neg (by omega)]
    exact (hs.same b hb hr).2⟩, fun b hr => by
    by_cases e : b = g
    · subst e
      exact ⟨hlt, .inr hg⟩
    · exact hs.dom b (by simpa only [e, if_false] using hr)⟩

section
variable {w w' : World} {B : Nat} {role role' : Nat → Role} {S M gv gl gr : Nat} {vc vt vm : Value} {head n : Nat} {cv : Nat → Value} {wo : Int → Option Value} {wl : Int → List Nat} {cs : List Cl} {tr : List En} {mk : List Nat} {T : Role → Prop}

theorem SolIn.rerole (h : SolIn w B role S M gv gl gr vc vt vm head n cv wo wl cs tr mk) {g : Nat} {R : Role} (hg : role g = .kept ∨ role g = .free) (hlt : g < w.heap.size) (hB : B ≤ g) : SolIn w B (fun b => if b = g then R else role b) S M gv gl gr vc vt vm head n cv wo wl cs tr mk := by
  have hne : ∀ {b : Nat} {Q : Role}, role b = Q → Q ≠ .kept → Q ≠ .free → (fun b => if b = g then R else role b) b = Q := fun {b Q} hb h1 h2 => by
    show (if b = g then R else role b) = Q
    rw [if_neg (fun e => by subst e; rw [hb] at hg; exact hg.elim h1 h2)]
    exact hb
  exact { h with
    rS := hne h.rS (by simp) (by simp)
    rM := hne h.rM (by simp) (by simp)
    rv := hne h.rv (by simp) (by simp)
    rl := hne h.rl (by simp) (by simp)
    rr := hne h.rr (by simp) (by simp)
    rc := fun b hb => hne (h.rc b hb) (by simp) (by simp)
    rC := fun i b hi hb => hne (h.rC i b hi hb) (by simp) (by simp)
    rW := fun l b v hv hz hb => hne (h.rW l b v hv hz hb) (by simp) (by simp)
    rt := fun b hb => hne (h.rt b hb) (by simp) (by simp)
    rm := fun b hb => hne (h.rm b hb) (by simp) (by simp)
    lo := fun b hr => by
      by_cases e : b = g
      · subst e; exact hB
      · exact h.lo b (by simpa only [e, if_false] using hr)
    hi := fun b hr => by
      by_cases e : b = g
      · subst e; exact hlt
      · exact h.hi b (by simpa only [e, if_false] using hr) }

/-- 'watch[l]', its run. -/
theorem SolIn.look (h : SolIn w B role S M gv gl gr vc vt vm head n cv wo wl cs tr mk) {W : World} (hW : W.heap[M]? = w.heap[M]?) {l : Int} (hl : Lok n l) (hn : n ≤ 1000) :
    (Instr.lookup 52 (.map (some M)) (.int .i64 l) false).run Try.prog W = .ok ((wo l).getD (.slice none 0 0)) W := by
  rw [(h.watch.block hW).run_look keyed3 Try.underlying52 (Try.zeroValue24 W) (key3 hl hn)]
  rfl

/-- 'watch[l] = v': the entry is another one, its row is owned, its block has the part. -/
theorem SolIn.putT (h : SolIn w B role S M gv gl gr vc vt vm head n cv wo wl cs tr mk) (hB : B ≤ w.heap.size) {w1 : World} {role1 : Nat → Role} {l : Int} {T : Role → Prop} (hT : ∀ r, T r → r = .wlist l ∨ r = .kept) (hs : Step T role w role1 w1) {v : Value} {xs : List Nat} (hl : Lok n l) (hn : n ≤ 1000)
    (hrow : RowZ w1 B v (natsI xs)) (hrole : (∀ a, v ≠ .slice (some a) 0 0) → ∀ g, v.ownBlock = some g → role1 g = .wlist l) :
    ∃ w2, (Instr.mapUpdate 52 (.map (some M)) (.int .i64 l) v).run Try.prog w1 = .ok () w2 ∧ Step (fun r => T r ∨ r = .map) role w role1 w2 ∧
      SolIn w2 B role1 S M gv gl gr vc vt vm head n cv (fun x => if x = l then some v else wo x) (fun x => if x = l then xs else wl x) cs tr mk := by
  have hM1 := h.blk hs h.rM (by simp) (fun h => by have := hT _ h; simp at this)
  have hm1 := h.watch.block hM1.1
  obtain ⟨w2, hr, r1, r2, r3⟩ := hm1.run_store keyed3 Try.underlying52 (val := v) (by unfold maxLen; omega) (key3 hl hn) (woF fun x => if x = l then some v else wo x) (by simp [woF]) (fun u hu => by
    unfold woF
    split
    · rename_i x
      by_cases hx : x = l
      · subst hx; exact absurd rfl hu
      · simp [hx]
    · rfl)
  have hdom : ∀ l' v', (if l' = l then some v else wo l') = some v' → Lok n l' := fun l' v' h' => by
    by_cases e : l' = l
    · rw [e]; exact hl
    · rw [if_neg e] at h'; exact h.wdom l' v' h'
  have s2 := Step.of_grown (w := w1) hs.inn r2
  rw [hM1.2] at s2
  have hst := hs.trans s2
  refine ⟨w2, hr, hst, ?_⟩
  have blk := fun {b : Nat} {R : Role} (hb : role b = R) (h1 : R ≠ .free) (h2 : ¬ (R = .wlist l ∨ R = .kept ∨ R = .map)) => h.blk hst hb h1 (fun h => h2 (h.elim (fun t => (hT _ t).elim .inl (fun e => .inr (.inl e))) (fun e => .inr (.inr e))))
  obtain ⟨fl, hl1, hl2⟩ := h.levs
  obtain ⟨fr, hr1, hr2⟩ := h.whys
  refine ⟨h.box.to (blk h.rS (by simp) (by simp)).1, ownsRow_to h.crow fun g hg => (blk (h.rc g hg) (by simp) (by simp)).1, fun i c hc => ownsRow_to (h.clause i c hc) fun g hg => (blk (h.rC i g (List.getElem?_eq_some_iff.1 hc).1 hg) (by simp) (by simp)).1,
    r1.tight hdom, hdom, fun l' => ?_, h.vals.to (blk h.rv (by simp) (by simp)).1, ⟨fl, hl1.to (blk h.rl (by simp) (by simp)).1, hl2⟩, ⟨fr, hr1.to (blk h.rr (by simp) (by simp)).1, hr2⟩,
    ownsRow_to h.trow fun g hg => (blk (h.rt g hg) (by simp) (by simp)).1, ownsRow_to h.mrow fun g hg => (blk (h.rm g hg) (by simp) (by simp)).1,
    (blk h.rS (by simp) (by simp)).2, hM1.2, (blk h.rv (by simp) (by simp)).2, (blk h.rl (by simp) (by simp)).2, (blk h.rr (by simp) (by simp)).2, fun g hg => (blk (h.rc g hg) (by simp) (by simp)).2, fun i g hi hg => (blk (h.rC i g hi hg) (by simp) (by simp)).2,
    fun l' g v' hv' hne hg => ?_, fun g hg => (blk (h.rt g hg) (by simp) (by simp)).2, fun g hg => (blk (h.rm g hg) (by simp) (by simp)).2, hst.lo (h := h.lo) hB, hst.inn⟩
  · by_cases e : l' = l
    · subst e
      simp only [if_true, Option.getD_some]
      exact hrow.to fun hne g hg => r2.block g (by
        rcases hrow with hrow | ⟨a, ha, _⟩
        · exact (hrow.lt g hg).2
        · exact absurd ha (hne a)) (fun e => by
          have h1 := hrole hne g hg
          cases e
          rw [hM1.2] at h1
          cases h1)
    · simp only [e, if_false]
      refine (h.wlist l').to fun hne g hg => ?_
      cases hw : wo l' with
      | none => rw [hw] at hg; cases hg
      | some v' =>
        rw [hw] at hg hne
        exact (blk (h.rW l' g v' hw hne hg) (by simp) (by simp [e])).1
  · by_cases e : l' = l
    · subst e
      simp only [if_true] at hv'
      cases hv'
      exact hrole hne g hg
    · simp only [e, if_false] at hv'
      exact (blk (h.rW l' g v' hv' hne hg) (by simp) (by simp [e])).2
theorem SolIn.put (h : SolIn w B role S M gv gl gr vc vt vm head n cv wo wl cs tr mk) (hB : B ≤ w.heap.size) {w1 : World} {role1 : Nat → Role} {l : Int} (hs : Step (fun r => r = .wlist l ∨ r = .kept) role w role1 w1) {v : Value} {xs : List Nat} (hl : Lok n l) (hn : n ≤ 1000)
    (hrow : RowZ w1 B v (natsI xs)) (hrole : (∀ a, v ≠ .slice (some a) 0 0) → ∀ g, v.ownBlock = some g → role1 g = .wlist l) :
    ∃ w2, (Instr.mapUpdate 52 (.map (some M)) (.int .i64 l) v).run Try.prog w1 = .ok () w2 ∧ Step (fun r => r = .wlist l ∨ r = .kept ∨ r = .map) role w role1 w2 ∧
      SolIn w2 B role1 S M gv gl gr vc vt vm head n cv (fun x => if x = l then some v else wo x) (fun x => if x = l then xs else wl x) cs tr mk := by
  obtain ⟨w2, h1, h2, h3⟩ := h.putT hB (fun _ h => h) hs hl hn hrow hrole
  exact ⟨w2, h1, h2.mono (by rintro r ((e | e) | e); exact .inl e; exact .inr (.inl e); exact .inr (.inr e)), h3⟩
theorem natsI_snoc (l : List Nat) (i : Nat) : natsI (l ++ [i]) = natsI l ++ [.int .i64 (i : Int)] := by
  unfold natsI
  simp
theorem natsI_app (l l' : List Nat) : natsI (l ++ l') = natsI l ++ natsI l' := by
  unfold natsI
  simp
theorem natsI_len (l : List Nat) : (natsI l).length = l.length := by
  unfold natsI
  simp
/-- 'watch[l] = append(watch[l], i)': the append has grown the row. -/
theorem SolIn.watched (h : SolIn w B role S M gv gl gr vc vt vm head n cv wo wl cs tr mk) (hB : B ≤ w.heap.size) {w1 w2 : World} (hb : Below w.heap.size w w1) {l : Int} (hl : Lok n l) (hn : n ≤ 1000) {i : Nat} {g cap : Nat} {row : Option Nat}
    (hown : w2.ownsRow B 3 1 (.slice (some ⟨g, 0, none⟩) ((natsI (wl l)).length + 1) cap) ((natsI (wl l)).length + 1) (natsI (wl l) ++ [.int .i64 (i : Int)])) (hg : w1.grownBy w2 row) (hat : row = some g ∨ w1.heap.size = g) (hlt : g < w2.heap.size)
    (hrow : ∀ k, row = some k → ((wo l).getD (.slice none 0 0)).ownBlock = some k ∧ ∀ a, (wo l).getD (.slice none 0 0) ≠ .slice (some a) 0 0) :
    ∃ w3 role', (Instr.mapUpdate 52 (.map (some M)) (.int .i64 l) (.slice (some ⟨g, 0, none⟩) ((natsI (wl l)).length + 1) cap)).run Try.prog w2 = .ok () w3 ∧ Step (fun r => r = .wlist l ∨ r = .kept ∨ r = .map) role w role' w3 ∧
      SolIn w3 B role' S M gv gl gr vc vt vm head n cv (fun x => if x = l then some (.slice (some ⟨g, 0, none⟩) ((natsI (wl l)).length + 1) cap) else wo x) (fun x => if x = l then wl l ++ [i] else wl x) cs tr mk := by
  have s1 := Step.of_below h.hi hb
  have hrr : ∀ b, row = some b → role b = .wlist l := fun b hb => by
    obtain ⟨h1, h2⟩ := hrow b hb
    cases hw : wo l with
    | none => rw [hw] at h1; cases h1
    | some v =>
      rw [hw] at h1 h2
      exact h.rW l b v hw h2 h1
  have s2 := Step.of_rows s1.inn (by simp) hrr hg hat hlt
  have hs := (s1.trans s2).mono (T2 := fun r => r = .wlist l ∨ r = .kept) (by rintro r (e | e); exact e.elim; exact .inl e)
  obtain ⟨w3, hr, hst, hsol⟩ := h.put hB hs (v := .slice (some ⟨g, 0, none⟩) ((natsI (wl l)).length + 1) cap) (xs := wl l ++ [i]) hl hn (.inl (by
    rw [natsI_snoc, List.length_append, List.length_singleton]
    exact hown)) (fun _ b hb => by
    cases hb
    exact if_pos rfl)
  exact ⟨w3, _, hr, hst, hsol⟩
/-- 'watch[l] = append(watch[l], i)': the append has grown the row. -/
theorem SolIn.watchedT (h : SolIn w B role S M gv gl gr vc vt vm head n cv wo wl cs tr mk) (hB : B ≤ w.heap.size) {w1 w2 : World} (hb : Below w.heap.size w w1) {l : Int} (hl : Lok n l) (hn : n ≤ 1000) {i : Nat} {g cap : Nat} {row : Option Nat}
    (hown : w2.ownsRow B 3 1 (.slice (some ⟨g, 0, none⟩) ((natsI (wl l)).length + 1) cap) ((natsI (wl l)).length + 1) (natsI (wl l) ++ [.int .i64 (i : Int)])) (hg : w1.grownBy w2 row) (hat : row = some g ∨ w1.heap.size = g) (hlt : g < w2.heap.size)
    (hrow : ∀ k, row = some k → ((wo l).getD (.slice none 0 0)).ownBlock = some k ∧ ∀ a, (wo l).getD (.slice none 0 0) ≠ .slice (some a) 0 0) :
    ∃ w3 role', (Instr.mapUpdate 52 (.map (some M)) (.int .i64 l) (.slice (some ⟨g, 0, none⟩) ((natsI (wl l)).length + 1) cap)).run Try.prog w2 = .ok () w3 ∧ Step (fun r => r = .wlist l ∨ r = .map) role w role' w3 ∧
      SolIn w3 B role' S M gv gl gr vc vt vm head n cv (fun x => if x = l then some (.slice (some ⟨g, 0, none⟩) ((natsI (wl l)).length + 1) cap) else wo x) (fun x => if x = l then wl l ++ [i] else wl x) cs tr mk := by
  have s1 := Step.of_below h.hi hb
  have hrr : ∀ b, row = some b → role b = .wlist l := fun b hb => by
    obtain ⟨h1, h2⟩ := hrow b hb
    cases hw : wo l with
    | none => rw [hw] at h1; cases h1
    | some v =>
      rw [hw] at h1 h2
      exact h.rW l b v hw h2 h1
  have s2 := Step.of_rows s1.inn (by simp) hrr hg hat hlt
  have hs := (s1.trans s2).mono (T2 := fun r => r = .wlist l) (by rintro r (e | e); exact e.elim; exact e)
  obtain ⟨w3, hr, hst, hsol⟩ := h.putT hB (fun _ h => .inl h) hs (v := .slice (some ⟨g, 0, none⟩) ((natsI (wl l)).length + 1) cap) (xs := wl l ++ [i]) hl hn (.inl (by
    rw [natsI_snoc, List.length_append, List.length_singleton]
    exact hown)) (fun _ b hb => by
    cases hb
    exact if_pos rfl)
  exact ⟨w3, _, hr, hst, hsol⟩
end
end Go.Proofs.Ytkeagjphddcjeaa
