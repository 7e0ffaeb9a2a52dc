/-
  A row of packages that grows by appends; texts appended to an empty row. Helper text; the conditions are those typed.
  The document's own: a repository in memory of its own: the walk. Helper text; the conditions are those typed.
-/
import Derived.Test.YtgeimldijagkkaaGreatOwnT
import Derived.Test.YtgeimldijagkkaaGreatSpoilB
import Derived.Lib.AppendZeros
import Derived.Laws.OwnMore
namespace Go.Proofs.YtgeimldijagkkaaGreat
set_option linter.unusedVariables false
set_option linter.unusedSimpArgs false
open Go.RowKit Go.Maps

theorem info9s : (Tryz.prog.info? 9).map (fun i => (i.zero, i.size, i.bytes)) = some (some (.string ⟨#[]⟩), 1, 16) := by kernel_rfl
theorem info44 : (Tryz.prog.info? 44).map (fun i => (i.zero, i.size, i.bytes)) = some (some (.agg #[.string ⟨#[]⟩, .string ⟨#[]⟩, .string ⟨#[]⟩, .string ⟨#[]⟩, .slice none 0 0, .slice none 0 0, .slice none 0 0, .slice none 0 0, .slice none 0 0, .slice none 0 0, .slice none 0 0, .slice none 0 0]), 12, 256) := by kernel_rfl

/-- append([]string{}, files...). -/
theorem files_append (W : World) (l : List ByteArray) (af : Option Addr) (nf cf : Nat) (S : Nat → Prop) (h : StrsV W S l (.slice af nf cf)) :
    ∃ a' c' w', (Builtin.append_ #[42, 42] 42 #[.slice (some ⟨W.heap.size, 0, none⟩) 0 0, .slice af nf cf]).run Tryz.prog (W.alloc (.cells #[] 9)) = .ok (.slice a' nf c') w' ∧ StrsV w' (New W.heap.size w') l (.slice a' nf c') ∧ Below W.heap.size W w' := by
  have hln := h.len
  obtain ⟨a2, c2, he, hs, hn, hin⟩ := h
  injection he with h1 h2 h3
  subst h1 h3
  rw [hln] at hn
  obtain ⟨i0, hi0, hz0, hz1, hz2⟩ := info_parts info9s
  have hown0 : (W.alloc (.cells #[] 9)).ownsRow W.heap.size 9 1 (.slice (some ⟨W.heap.size, 0, none⟩) 0 0) 0 [] := World.ownsRow_made W #[] 0 (Nat.le_refl _) (Nat.zero_le _) rfl
  have key : ∀ (ad : Addr), (∀ j u, (l.map Value.string)[j]? = some u → (W.alloc (.cells #[] 9)).cell? (ad.add j) = some u) →
      ∃ a' c' w', (Builtin.append_ #[42, 42] 42 #[.slice (some ⟨W.heap.size, 0, none⟩) 0 0, .slice (some ad) nf cf]).run Tryz.prog (W.alloc (.cells #[] 9)) = .ok (.slice a' nf c') w' ∧ StrsV w' (New W.heap.size w') l (.slice a' nf c') ∧ Below W.heap.size W w' := by
    intro ad had
    obtain ⟨v', w', hr, hown, hgrow, hnil⟩ := run_append_own (P := Tryz.prog) (W.alloc (.cells #[] 9)) W.heap.size 42 42 9 i0 (.string ⟨#[]⟩) 1 16 Tryz.underlying42 hi0 hz0 hz1 hz2 rfl (by decide) _ 0 [] hown0 ad nf cf (l.map Value.string) (by simp [hln]) had (by intro u hu; obtain ⟨s, _, rfl⟩ := List.mem_map.1 hu; rfl) (by unfold maxLen; omega) (by omega) (by simp)
    rw [Nat.zero_add, List.nil_append] at hown
    have hb : Below W.heap.size W w' := by
      refine ⟨hgrow.os, hgrow.tape, hgrow.output, Nat.le_trans (by simp) hgrow.size, fun b hb => ?_⟩
      exact (hgrow.block b (by simp; omega) (fun e => by have := (hown0.lt b e.symm).1; omega)).trans ((below1 W _).block b hb)
    rcases hown.2 with ⟨hv, h0⟩ | ⟨g, cap, cur, hv, hg, hcell, hcap, _, hsz, htake⟩
    · subst hv
      exact absurd (hnil.1 rfl).1 (by simp)
    · subst hv
      refine ⟨_, cap, w', hr, ⟨_, cap, by rw [hln], hs, by omega, fun _ => ⟨g, 0, rfl, ⟨hg, _, _, hcell⟩, fun i hi => ?_⟩⟩, hb⟩
      refine cell_of hcell ?_
      have h5 : (l.map Value.string)[i]? = some (.string l[i]) := by
        rw [List.getElem?_map, List.getElem?_eq_getElem hi]
        rfl
      rw [← htake, List.getElem?_take_of_lt (by omega)] at h5
      rw [Nat.zero_add, ← Array.getElem?_toList]
      exact h5
  by_cases h0 : l = []
  · subst h0
    obtain rfl : nf = 0 := by rw [← hln]; rfl
    cases af with
    | none =>
      refine ⟨some ⟨W.heap.size, 0, none⟩, 0, W.alloc (.cells #[] 9), ?_, ⟨_, 0, rfl, hs, by simp, fun h => absurd rfl h⟩, below1 _ _⟩
      simp [Builtin.append_, run_underlying Tryz.underlying42, sizeOf, typeInfo, hi0, Builtin.lenOf, Builtin.firstCells, storeCells]
    | some ad => exact key ad (by intro j u hj; simp at hj)
  · obtain ⟨b, off, rfl, hb, hc⟩ := hin h0
    refine key _ fun j u hj => ?_
    rw [addr_add]
    have hjl : j < l.length := by
      have := (List.getElem?_eq_some_iff.1 hj).1
      simpa using this
    rw [List.getElem?_map, List.getElem?_eq_getElem hjl] at hj
    cases hj
    exact cell_tr (below1 W _) (hc j hjl)
end Go.Proofs.YtgeimldijagkkaaGreat
namespace Go.Proofs.YtgeimldijagkkaaGreat
set_option linter.unusedVariables false
set_option linter.unusedSimpArgs false
open Go.RowKit Go.Maps

/-- The first i of the packages lie in a row of our own, from L on; what they hold in other blocks. -/
structure PkgRow (w : World) (L : Nat) (vo : Value) (i : Nat) (ps : List PkgT) (xs : List Value) : Prop where
  row : w.ownsRow L 44 12 vo i xs
  has : ∀ j (h : j < ps.length), j < i → ∃ v vf, PkgV w (fun b => New L w b ∧ vo.ownBlock ≠ some b) ps[j] v vf ∧ ∀ r u, (pkgCells ps[j].name ps[j].evr ps[j].arch ps[j].vendor v vf)[r]? = some u → xs[j * 12 + r]? = some u
theorem PkgRow.nil (w : World) (L : Nat) (ps : List PkgT) : PkgRow w L (.slice none 0 0) 0 ps [] :=
  ⟨World.ownsRow_nil _ _ _ _, fun j h hj => absurd hj (Nat.not_lt_zero _)⟩
theorem PkgRow.keep {w w' : World} {L : Nat} {vo : Value} {i : Nat} {ps : List PkgT} {xs : List Value} (h : PkgRow w L vo i ps xs) (hk : ∀ b, L ≤ b → b < w.heap.size → w'.heap[b]? = w.heap[b]?) : PkgRow w' L vo i ps xs := by
  refine ⟨ownsRow_to h.row fun g hg => hk g (h.row.lt g hg).1 (h.row.lt g hg).2, fun j hj hji => ?_⟩
  obtain ⟨v, vf, h1, h2⟩ := h.has j hj hji
  exact ⟨v, vf, h1.keep (fun b hb => ⟨⟨hb.1.1, hb.1.2.keep (hk b hb.1.1 hb.1.2.lt)⟩, hb.2⟩) (fun b hb hl => hk b hb.1.1 hl), h2⟩
theorem PkgRow.below {w w' : World} {L : Nat} {vo : Value} {i : Nat} {ps : List PkgT} {xs : List Value} (h : PkgRow w L vo i ps xs) (hb : Below w.heap.size w w') : PkgRow w' L vo i ps xs := h.keep fun b _ hl => hb.block b hl
/-- One more. -/
theorem PkgRow.step {w wa w9 : World} {L : Nat} {vo : Value} {i : Nat} {ps : List PkgT} {xs : List Value} (h : PkgRow w L vo i ps xs) (hL : L ≤ w.heap.size) (hb : Below w.heap.size w wa) (hi : i < ps.length) {v : Fin 7 → Value} {vf : Value} (hv : PkgV wa (New w.heap.size wa) ps[i] v vf) {g cap : Nat}
    (hown : w9.ownsRow L 44 12 (.slice (some ⟨g, 0, none⟩) (i + 1) cap) (i + 1) (xs ++ pkgCells ps[i].name ps[i].evr ps[i].arch ps[i].vendor v vf)) (hgrow : wa.grownBy w9 vo.ownBlock) (hat : vo.ownBlock = some g ∨ g = wa.heap.size) :
    PkgRow w9 L (.slice (some ⟨g, 0, none⟩) (i + 1) cap) (i + 1) ps (xs ++ pkgCells ps[i].name ps[i].evr ps[i].arch ps[i].vendor v vf) := by
  have hxl : xs.length = i * 12 := h.row.1
  have hsz := hb.size
  refine ⟨hown, fun j hj hji => ?_⟩
  have hgb : ∀ b, (Value.slice (some ⟨g, 0, none⟩) (i + 1) cap).ownBlock ≠ some b ↔ b ≠ g := fun b => by
    show some g ≠ some b ↔ b ≠ g
    constructor
    · intro h e; exact h (by rw [e])
    · intro h e; exact h (Option.some.inj e).symm
  by_cases e : j = i
  · subst e
    have hne : ∀ b, New w.heap.size wa b → vo.ownBlock ≠ some b ∧ b ≠ g := fun b hb' => by
      refine ⟨fun e => ?_, fun e => ?_⟩
      · have := (h.row.lt b e).2
        have := hb'.1
        omega
      · subst e
        rcases hat with h1 | h1
        · have := (h.row.lt b h1).2
          have := hb'.1
          omega
        · have := hb'.2.lt
          omega
    refine ⟨v, vf, hv.keep (fun b hb' => ⟨⟨by have := hb'.1; omega, hb'.2.keep (hgrow.block b hb'.2.lt (fun e => (hne b hb').1 e.symm))⟩, (hgb b).2 (hne b hb').2⟩) (fun b hb' hl => hgrow.block b hl (fun e => (hne b hb').1 e.symm)), fun r u hr => ?_⟩
    rw [List.getElem?_append_right (by omega), hxl, show j * 12 + r - j * 12 = r by omega]
    exact hr
  · obtain ⟨v2, vf2, h1, h2⟩ := h.has j hj (by omega)
    have hk : ∀ b, New L w b ∧ vo.ownBlock ≠ some b → w9.heap[b]? = w.heap[b]? := fun b hb' =>
      (hgrow.block b (Nat.lt_of_lt_of_le hb'.1.2.lt hsz) (fun e => hb'.2 e.symm)).trans (hb.block b hb'.1.2.lt)
    have hng : ∀ b, New L w b ∧ vo.ownBlock ≠ some b → b ≠ g := fun b hb' e => by
      subst e
      rcases hat with h1 | h1
      · exact hb'.2 h1
      · have := hb'.1.2.lt
        omega
    refine ⟨v2, vf2, h1.keep (fun b hb' => ⟨⟨hb'.1.1, hb'.1.2.keep (hk b hb')⟩, (hgb b).2 (hng b hb')⟩) (fun b hb' _ => hk b hb'), fun r u hr => ?_⟩
    have hr12 : r < 12 := (List.getElem?_eq_some_iff.1 hr).1
    rw [List.getElem?_append_left (by omega)]
    exact h2 r u hr
theorem PkgRow.form {w : World} {L : Nat} {vo : Value} {i : Nat} {ps : List PkgT} {xs : List Value} (h : PkgRow w L vo i ps xs) : ∃ a c, vo = .slice a i c := by
  rcases h.row.2 with ⟨e, h0⟩ | ⟨g, cap, cur, e, _⟩
  · subst h0; exact ⟨none, 0, e⟩
  · exact ⟨_, cap, e⟩
/-- All of them: packages in memory of their own. -/
def OwnPk (w : World) (L : Nat) (ps : List PkgT) (a : Option Addr) : Prop := ∃ S : Nat → Prop, (∀ b, S b → New L w b) ∧ PkgsA w S ps a ∧ ∀ b off, a = some ⟨b, off, none⟩ → L ≤ b ∧ b < w.heap.size
theorem PkgRow.own {w : World} {L : Nat} {a : Option Addr} {n c : Nat} {ps : List PkgT} {xs : List Value} (h : PkgRow w L (.slice a n c) n ps xs) (hn : ps.length = n) : OwnPk w L ps a := by
  refine ⟨fun b => New L w b ∧ (Value.slice a n c).ownBlock ≠ some b, fun b hb => hb.1, fun hne => ?_, fun b off e => ?_⟩
  · rcases h.row.2 with ⟨e, h0⟩ | ⟨g, cap, cur, e, hg, hat, hcap, _, hsz, htake⟩
    · subst h0
      exact absurd (List.length_eq_zero_iff.1 hn) hne
    · injection e with e1 e2 e3
      subst e1
      refine ⟨g, 0, rfl, fun hb => hb.2 rfl, ⟨_, _, hat⟩, fun i hi => ?_⟩
      obtain ⟨v, vf, h1, h2⟩ := h.has i hi (by omega)
      refine ⟨v, vf, h1, fun r u hr => ?_⟩
      refine cell_of hat ?_
      have h5 := h2 r u hr
      have hlt := (List.getElem?_eq_some_iff.1 h5).1
      rw [h.row.1] at hlt
      rw [← htake, List.getElem?_take_of_lt hlt] at h5
      rw [Nat.zero_add, ← Array.getElem?_toList]
      exact h5
  · subst e
    exact h.row.lt b rfl
theorem OwnPk.pkgs {w : World} {L : Nat} {ps : List PkgT} {a : Option Addr} {n c : Nat} (h : OwnPk w L ps a) (hn : ps.length = n) (hb : n * 256 ≤ 140737488355328) : PkgsV w (New L w) ps (.slice a n c) := by
  obtain ⟨S, hS, hp, hl⟩ := h
  subst hn
  refine ⟨a, c, rfl, hb, fun hne => ?_⟩
  obtain ⟨b, off, e, _, hf, hi⟩ := hp hne
  refine ⟨b, off, e, ⟨(hl b off e).1, hf⟩, fun i h => ?_⟩
  obtain ⟨v, vf, h1, h2⟩ := hi i h
  exact ⟨v, vf, h1.keep hS (fun _ _ _ => rfl), h2⟩

/-- What is known while a package's lists are made its own. -/
structure CpAt (w0 w : World) (p : PkgT) (v0 v : Fin 7 → Value) (vf : Value) (b : Nat) (i : Nat) : Prop where
  below : Below w0.heap.size w0 w
  lo : w0.heap.size ≤ b
  box : BoxN w b (pkgCells p.name p.evr p.arch p.vendor v vf) 44
  done : ∀ j : Fin 7, j.val < i → DepsV w (New (b + 1) w) (p.n j) (p.deps j) (v j)
  left : ∀ j : Fin 7, i ≤ j.val → v j = v0 j
theorem CpAt.grow {w0 w w' : World} {p : PkgT} {v0 v : Fin 7 → Value} {vf : Value} {b i : Nat} (h : CpAt w0 w p v0 v vf b i) (hb : Below w.heap.size w w') : CpAt w0 w' p v0 v vf b i :=
  ⟨below_tr h.below hb, h.lo, h.box.below hb, fun j hj => (h.done j hj).new hb, h.left⟩
theorem CpAt.set {w0 w : World} {p : PkgT} {v0 v : Fin 7 → Value} {vf : Value} {b i : Nat} (h : CpAt w0 w p v0 v vf b i) (hi : i < 7) {x : Value} (hx : DepsV w (New (b + 1) w) (p.n ⟨i, hi⟩) (p.deps ⟨i, hi⟩) x) :
    CpAt w0 (w.setCell ⟨b, 4 + i, none⟩ x) p v0 (fun j => if j.val = i then x else v j) vf b (i + 1) := by
  have hk : ∀ c, New (b + 1) w c → c < w.heap.size → (w.setCell ⟨b, 4 + i, none⟩ x).heap[c]? = w.heap[c]? := fun c hc _ => set_other _ (by have h1 := hc.1; omega)
  have hnw : ∀ c, New (b + 1) w c → New (b + 1) (w.setCell ⟨b, 4 + i, none⟩ x) c := fun c hc => ⟨hc.1, hc.2.set _ _ _⟩
  refine ⟨below_sc h.below h.lo _ _, h.lo, ?_, fun j hj => ?_, fun j hj => ?_⟩
  · have := set_cells (o := 4 + i) h.box x
    rw [pkg_set _ _ _ _ _ _ hi] at this
    exact this
  · by_cases e : j.val = i
    · obtain rfl : j = ⟨i, hi⟩ := Fin.ext e
      simp only [if_true]
      exact hx.keep hnw hk
    · simp only [if_neg e]
      exact (h.done j (by omega)).keep hnw hk
  · rw [if_neg (by omega)]
    exact h.left j (by omega)

/-- What the round knows. -/
structure RpAt (w wr : World) (O R L : Nat) (nm : ByteArray) (pr : Int) (ins : Bool) (a : Option Addr) (n c : Nat) (ps : List PkgT) (i : Nat) (vo : Value) (xs : List Value) : Prop where
  below : Below w.heap.size w wr
  lt : w.heap.size < R ∧ R < O ∧ O < L ∧ L ≤ wr.heap.size
  dbox : BoxN wr w.heap.size [.string nm, .int .i64 pr, .bool ins, .slice a n c] 33
  rbox : BoxN wr R [.string ⟨#[]⟩, .int .i64 0, .bool false, .slice none 0 0] 33
  obox : BoxN wr O [.string nm, .int .i64 pr, .bool ins, vo] 33
  row : PkgRow wr L vo i ps xs
theorem fill4 {w : World} {r : Nat} {z0 z1 z2 z3 : Value} {ty : TypeId} (h : BoxN w r [z0, z1, z2, z3] ty) (x0 x1 x2 x3 : Value) :
    BoxN ((((w.setCell ⟨r, 0, none⟩ x0).setCell ⟨r, 1, none⟩ x1).setCell ⟨r, 2, none⟩ x2).setCell ⟨r, 3, none⟩ x3) r [x0, x1, x2, x3] ty := by
  exact (((h.set 0 x0).set 1 x1).set 2 x2).set 3 x3
theorem fill4_other {w : World} {r b : Nat} (hb : b ≠ r) (x0 x1 x2 x3 : Value) :
    ((((w.setCell ⟨r, 0, none⟩ x0).setCell ⟨r, 1, none⟩ x1).setCell ⟨r, 2, none⟩ x2).setCell ⟨r, 3, none⟩ x3).heap[b]? = w.heap[b]? := by
  rw [set_other _ hb, set_other _ hb, set_other _ hb, set_other _ hb]
theorem fill4_below {B : Nat} {w : World} {r : Nat} (hr : B ≤ r) (x0 x1 x2 x3 : Value) :
    Below B w ((((w.setCell ⟨r, 0, none⟩ x0).setCell ⟨r, 1, none⟩ x1).setCell ⟨r, 2, none⟩ x2).setCell ⟨r, 3, none⟩ x3) :=
  below_sc (below_sc (below_sc (below_sc (Below.refl _ _) hr _ _) hr _ _) hr _ _) hr _ _

set_option maxHeartbeats 8000000 in
set_option maxRecDepth 100000 in
/-- The document's Own. -/
theorem rrepoOwn_c (nm : ByteArray) (pr : Int) (ins : Bool) (ps : List PkgT) (a : Option Addr) (n c : Nat) (S : Nat → Prop) (w : World) (h : PkgsV w S ps (.slice a n c)) :
    Calls Tryz.prog 7 #[.agg #[.string nm, .int .i64 pr, .bool ins, .slice a n c]] w fun e w' => (∃ a' c', e = .returned (.agg #[.string nm, .int .i64 pr, .bool ins, .slice a' n c']) ∧ OwnPk w' w.heap.size ps a') ∧ Below w.heap.size w w' := by
  obtain ⟨hnl, hn, hpk⟩ := pkgs_at h
  have HPK := Lib.hid hpk
  have HNL := Lib.hid hnl
  clear hpk hnl h
  go_enter Tryz.func7, Tryz.ntmps7
  go_wp2_with fail
  generalize e3 : (((w.alloc (.cells #[.string nm, .int .i64 pr, .bool ins, .slice a n c] 33)).alloc (.cells #[.string ⟨#[]⟩, .int .i64 0, .bool false, .slice none 0 0] 33)).alloc (.cells #[.string nm, .int .i64 pr, .bool ins, .slice none 0 0] 33)) = w3
  have H3 : Hid (RpAt w w3 (w.heap.size + 1 + 1) (w.heap.size + 1) (w.heap.size + 1 + 1 + 1) nm pr ins a n c ps 0 (.slice none 0 0) []) := by
    rw [← e3]
    refine ⟨((below1 _ _).alloc (by simp) _).alloc (by simp; omega) _, ⟨by omega, by omega, by omega, by simp⟩, ((boxN_alloc w [.string nm, .int .i64 pr, .bool ins, .slice a n c] 33).below (below1 _ _)).below (below1 _ _), ?_, ?_, PkgRow.nil _ _ _⟩
    · have h1 := boxN_alloc (w.alloc (.cells #[.string nm, .int .i64 pr, .bool ins, .slice a n c] 33)) [.string ⟨#[]⟩, .int .i64 0, .bool false, .slice none 0 0] 33
      rw [World.size_alloc] at h1
      exact h1.below (below1 _ _)
    · have h1 := boxN_alloc ((w.alloc (.cells #[.string nm, .int .i64 pr, .bool ins, .slice a n c] 33)).alloc (.cells #[.string ⟨#[]⟩, .int .i64 0, .bool false, .slice none 0 0] 33)) [.string nm, .int .i64 pr, .bool ins, .slice none 0 0] 33
      rw [World.size_alloc, World.size_alloc] at h1
      exact h1
  clear e3
  generalize hL : w.heap.size + 1 + 1 + 1 = L at H3
  clear hL
  generalize hO : w.heap.size + 1 + 1 = O at H3 ⊢
  clear hO
  generalize hR : w.heap.size + 1 = R at H3 ⊢
  clear hR
  go_loopw [4] (fun vi wr => ∃ i : Nat, vi = .int .i64 i ∧ i ≤ n ∧ Hid (∃ vo xs, RpAt w wr O R L nm pr ins a n c ps i vo xs)) (fun vi _ => n - (intOf vi).toNat)
  case atStart => exact ⟨0, rfl, Nat.zero_le _, _, _, H3.out⟩
  case round =>
    clear H3 w3
    obtain ⟨i, rfl, hin, HT0⟩ := hrel
    obtain ⟨vo, xs, hT⟩ := HT0.out
    have HT := Lib.hid hT
    clear hT HT0
    have q4 := HT.out.dbox.cell (j := 3) rfl
    by_cases hlt : i < n
    · have hi1 : (i : Int) < (n : Int) := by omega
      have hil : i < ps.length := by have := HNL.out; omega
      obtain ⟨b, off, rfl, hS, hcs⟩ := HPK.out (by omega)
      obtain ⟨pa, pc, af, nf, cf, hpa⟩ := hcs i hil
      obtain ⟨p, hp⟩ : ∃ p, ps[i] = p := ⟨_, rfl⟩
      rw [hp] at hpa
      have HP := Lib.hid hp
      have HPA := Lib.hid (hpa.below HT.out.below)
      have t : ∀ j v, (pkgCells p.name p.evr p.arch p.vendor (fun i => .slice (pa i) (p.n i) (pc i)) (.slice af nf cf))[j]? = some v → wr.cell? ⟨b, off + i * 12 + j, none⟩ = some v := fun j v hj => HPA.out.cells j v hj
      have t0 := t 0 _ rfl
      have t1 := t 1 _ rfl
      have t2 := t 2 _ rfl
      have t3 := t 3 _ rfl
      have t4 := t 4 _ rfl
      have t5 := t 5 _ rfl
      have t6 := t 6 _ rfl
      have t7 := t 7 _ rfl
      have t8 := t 8 _ rfl
      have t9 := t 9 _ rfl
      have t10 := t 10 _ rfl
      have t11 := t 11 _ rfl
      rw [Nat.add_zero] at t0
      clear t hcs hpa hS hp
      obtain ⟨ao, co, rfl⟩ := HT.out.row.form
      obtain ⟨W0, e0⟩ : ∃ W0, wr.alloc (.cells #[.string p.name, .string p.evr, .string p.arch, .string p.vendor, .slice (pa 0) (p.n 0) (pc 0), .slice (pa 1) (p.n 1) (pc 1), .slice (pa 2) (p.n 2) (pc 2), .slice (pa 3) (p.n 3) (pc 3), .slice (pa 4) (p.n 4) (pc 4), .slice (pa 5) (p.n 5) (pc 5), .slice (pa 6) (p.n 6) (pc 6), .slice af nf cf] 44) = W0 := ⟨_, rfl⟩
      have C0 : Hid (CpAt wr W0 p (fun i => .slice (pa i) (p.n i) (pc i)) (fun i => .slice (pa i) (p.n i) (pc i)) (.slice af nf cf) wr.heap.size 0) := by
        rw [← e0]
        exact ⟨below1 _ _, Nat.le_refl _, boxN_alloc _ _ _, fun j hj => absurd hj (Nat.not_lt_zero _), fun _ _ => rfl⟩
      have s0 : W0.cell? ⟨wr.heap.size, 4, none⟩ = some (.slice (pa 0) (p.n 0) (pc 0)) := C0.out.box.cell (j := 4) rfl
      have HC0 := Lib.hid (rdepsOwn_c (p.n 0) (p.deps 0) (pa 0) (pc 0) S W0 ((HPA.out.pkg.deps 0).below C0.out.below))
      go_wp2_with fail
      clear e0 s0
      refine HC0.out.mono ?_
      rintro e u0 ⟨⟨a0, c0, rfl, hv0⟩, hb0⟩
      have G0 := Lib.hid (C0.out.grow hb0)
      have r0 : u0.cell? ⟨wr.heap.size, 4, none⟩ = some (.slice (pa 0) (p.n 0) (pc 0)) := by
        have h1 := G0.out.box.cell (pkg_at _ _ _ _ _ _ (show 0 < 7 by decide))
        rw [G0.out.left _ (Nat.le_refl _)] at h1
        exact h1
      have f0 : u0.frozen? ⟨wr.heap.size, 4, none⟩ = false := G0.out.box.frozen _
      obtain ⟨v1, hvv1⟩ : ∃ v, (G0.out.set (show 0 < 7 by decide) (x := .slice a0 (p.n 0) c0) (hv0.keep (fun b hb => ⟨by have := C0.out.box.lt; have := hb.1; omega, hb.2⟩) (fun _ _ _ => rfl))) = v := ⟨_, rfl⟩
      clear hvv1
      obtain ⟨W1, e1⟩ : ∃ W, u0.setCell ⟨wr.heap.size, 4, none⟩ (.slice a0 (p.n 0) c0) = W := ⟨_, rfl⟩
      obtain ⟨y1, C1⟩ : ∃ y, Hid (CpAt wr W1 p (fun i => .slice (pa i) (p.n i) (pc i)) y (.slice af nf cf) wr.heap.size 1) := by
        rw [← e1]
        exact ⟨_, v1⟩
      clear v1 G0 hv0 hb0 C0 HC0
      have s1 : W1.cell? ⟨wr.heap.size, 5, none⟩ = some (.slice (pa 1) (p.n 1) (pc 1)) := by
        have h1 := C1.out.box.cell (pkg_at _ _ _ _ _ _ (show 1 < 7 by decide))
        rw [C1.out.left _ (Nat.le_refl _)] at h1
        exact h1
      have HC1 := Lib.hid (rdepsOwn_c (p.n 1) (p.deps 1) (pa 1) (pc 1) S W1 ((HPA.out.pkg.deps 1).below C1.out.below))
      go_wp2_with fail
      clear e1 s1
      refine HC1.out.mono ?_
      rintro e u1 ⟨⟨a1, c1, rfl, hv1⟩, hb1⟩
      have G1 := Lib.hid (C1.out.grow hb1)
      have r1 : u1.cell? ⟨wr.heap.size, 5, none⟩ = some (.slice (pa 1) (p.n 1) (pc 1)) := by
        have h1 := G1.out.box.cell (pkg_at _ _ _ _ _ _ (show 1 < 7 by decide))
        rw [G1.out.left _ (Nat.le_refl _)] at h1
        exact h1
      have f1 : u1.frozen? ⟨wr.heap.size, 5, none⟩ = false := G1.out.box.frozen _
      obtain ⟨v2, hvv2⟩ : ∃ v, (G1.out.set (show 1 < 7 by decide) (x := .slice a1 (p.n 1) c1) (hv1.keep (fun b hb => ⟨by have := C1.out.box.lt; have := hb.1; omega, hb.2⟩) (fun _ _ _ => rfl))) = v := ⟨_, rfl⟩
      clear hvv2
      obtain ⟨W2, e2⟩ : ∃ W, u1.setCell ⟨wr.heap.size, 5, none⟩ (.slice a1 (p.n 1) c1) = W := ⟨_, rfl⟩
      obtain ⟨y2, C2⟩ : ∃ y, Hid (CpAt wr W2 p (fun i => .slice (pa i) (p.n i) (pc i)) y (.slice af nf cf) wr.heap.size 2) := by
        rw [← e2]
        exact ⟨_, v2⟩
      clear v2 G1 hv1 hb1 C1 HC1
      have s2 : W2.cell? ⟨wr.heap.size, 6, none⟩ = some (.slice (pa 2) (p.n 2) (pc 2)) := by
        have h1 := C2.out.box.cell (pkg_at _ _ _ _ _ _ (show 2 < 7 by decide))
        rw [C2.out.left _ (Nat.le_refl _)] at h1
        exact h1
      have HC2 := Lib.hid (rdepsOwn_c (p.n 2) (p.deps 2) (pa 2) (pc 2) S W2 ((HPA.out.pkg.deps 2).below C2.out.below))
      go_wp2_with fail
      clear e2 s2
      refine HC2.out.mono ?_
      rintro e u2 ⟨⟨a2, c2, rfl, hv2⟩, hb2⟩
      have G2 := Lib.hid (C2.out.grow hb2)
      have r2 : u2.cell? ⟨wr.heap.size, 6, none⟩ = some (.slice (pa 2) (p.n 2) (pc 2)) := by
        have h1 := G2.out.box.cell (pkg_at _ _ _ _ _ _ (show 2 < 7 by decide))
        rw [G2.out.left _ (Nat.le_refl _)] at h1
        exact h1
      have f2 : u2.frozen? ⟨wr.heap.size, 6, none⟩ = false := G2.out.box.frozen _
      obtain ⟨v3, hvv3⟩ : ∃ v, (G2.out.set (show 2 < 7 by decide) (x := .slice a2 (p.n 2) c2) (hv2.keep (fun b hb => ⟨by have := C2.out.box.lt; have := hb.1; omega, hb.2⟩) (fun _ _ _ => rfl))) = v := ⟨_, rfl⟩
      clear hvv3
      obtain ⟨W3, e3⟩ : ∃ W, u2.setCell ⟨wr.heap.size, 6, none⟩ (.slice a2 (p.n 2) c2) = W := ⟨_, rfl⟩
      obtain ⟨y3, C3⟩ : ∃ y, Hid (CpAt wr W3 p (fun i => .slice (pa i) (p.n i) (pc i)) y (.slice af nf cf) wr.heap.size 3) := by
        rw [← e3]
        exact ⟨_, v3⟩
      clear v3 G2 hv2 hb2 C2 HC2
      have s3 : W3.cell? ⟨wr.heap.size, 7, none⟩ = some (.slice (pa 3) (p.n 3) (pc 3)) := by
        have h1 := C3.out.box.cell (pkg_at _ _ _ _ _ _ (show 3 < 7 by decide))
        rw [C3.out.left _ (Nat.le_refl _)] at h1
        exact h1
      have HC3 := Lib.hid (rdepsOwn_c (p.n 3) (p.deps 3) (pa 3) (pc 3) S W3 ((HPA.out.pkg.deps 3).below C3.out.below))
      go_wp2_with fail
      clear e3 s3
      refine HC3.out.mono ?_
      rintro e u3 ⟨⟨a3, c3, rfl, hv3⟩, hb3⟩
      have G3 := Lib.hid (C3.out.grow hb3)
      have r3 : u3.cell? ⟨wr.heap.size, 7, none⟩ = some (.slice (pa 3) (p.n 3) (pc 3)) := by
        have h1 := G3.out.box.cell (pkg_at _ _ _ _ _ _ (show 3 < 7 by decide))
        rw [G3.out.left _ (Nat.le_refl _)] at h1
        exact h1
      have f3 : u3.frozen? ⟨wr.heap.size, 7, none⟩ = false := G3.out.box.frozen _
      obtain ⟨v4, hvv4⟩ : ∃ v, (G3.out.set (show 3 < 7 by decide) (x := .slice a3 (p.n 3) c3) (hv3.keep (fun b hb => ⟨by have := C3.out.box.lt; have := hb.1; omega, hb.2⟩) (fun _ _ _ => rfl))) = v := ⟨_, rfl⟩
      clear hvv4
      obtain ⟨W4, e4⟩ : ∃ W, u3.setCell ⟨wr.heap.size, 7, none⟩ (.slice a3 (p.n 3) c3) = W := ⟨_, rfl⟩
      obtain ⟨y4, C4⟩ : ∃ y, Hid (CpAt wr W4 p (fun i => .slice (pa i) (p.n i) (pc i)) y (.slice af nf cf) wr.heap.size 4) := by
        rw [← e4]
        exact ⟨_, v4⟩
      clear v4 G3 hv3 hb3 C3 HC3
      have s4 : W4.cell? ⟨wr.heap.size, 8, none⟩ = some (.slice (pa 4) (p.n 4) (pc 4)) := by
        have h1 := C4.out.box.cell (pkg_at _ _ _ _ _ _ (show 4 < 7 by decide))
        rw [C4.out.left _ (Nat.le_refl _)] at h1
        exact h1
      have HC4 := Lib.hid (rdepsOwn_c (p.n 4) (p.deps 4) (pa 4) (pc 4) S W4 ((HPA.out.pkg.deps 4).below C4.out.below))
      go_wp2_with fail
      clear e4 s4
      refine HC4.out.mono ?_
      rintro e u4 ⟨⟨a4, c4, rfl, hv4⟩, hb4⟩
      have G4 := Lib.hid (C4.out.grow hb4)
      have r4 : u4.cell? ⟨wr.heap.size, 8, none⟩ = some (.slice (pa 4) (p.n 4) (pc 4)) := by
        have h1 := G4.out.box.cell (pkg_at _ _ _ _ _ _ (show 4 < 7 by decide))
        rw [G4.out.left _ (Nat.le_refl _)] at h1
        exact h1
      have f4 : u4.frozen? ⟨wr.heap.size, 8, none⟩ = false := G4.out.box.frozen _
      obtain ⟨v5, hvv5⟩ : ∃ v, (G4.out.set (show 4 < 7 by decide) (x := .slice a4 (p.n 4) c4) (hv4.keep (fun b hb => ⟨by have := C4.out.box.lt; have := hb.1; omega, hb.2⟩) (fun _ _ _ => rfl))) = v := ⟨_, rfl⟩
      clear hvv5
      obtain ⟨W5, e5⟩ : ∃ W, u4.setCell ⟨wr.heap.size, 8, none⟩ (.slice a4 (p.n 4) c4) = W := ⟨_, rfl⟩
      obtain ⟨y5, C5⟩ : ∃ y, Hid (CpAt wr W5 p (fun i => .slice (pa i) (p.n i) (pc i)) y (.slice af nf cf) wr.heap.size 5) := by
        rw [← e5]
        exact ⟨_, v5⟩
      clear v5 G4 hv4 hb4 C4 HC4
      have s5 : W5.cell? ⟨wr.heap.size, 9, none⟩ = some (.slice (pa 5) (p.n 5) (pc 5)) := by
        have h1 := C5.out.box.cell (pkg_at _ _ _ _ _ _ (show 5 < 7 by decide))
        rw [C5.out.left _ (Nat.le_refl _)] at h1
        exact h1
      have HC5 := Lib.hid (rdepsOwn_c (p.n 5) (p.deps 5) (pa 5) (pc 5) S W5 ((HPA.out.pkg.deps 5).below C5.out.below))
      go_wp2_with fail
      clear e5 s5
      refine HC5.out.mono ?_
      rintro e u5 ⟨⟨a5, c5, rfl, hv5⟩, hb5⟩
      have G5 := Lib.hid (C5.out.grow hb5)
      have r5 : u5.cell? ⟨wr.heap.size, 9, none⟩ = some (.slice (pa 5) (p.n 5) (pc 5)) := by
        have h1 := G5.out.box.cell (pkg_at _ _ _ _ _ _ (show 5 < 7 by decide))
        rw [G5.out.left _ (Nat.le_refl _)] at h1
        exact h1
      have f5 : u5.frozen? ⟨wr.heap.size, 9, none⟩ = false := G5.out.box.frozen _
      obtain ⟨v6, hvv6⟩ : ∃ v, (G5.out.set (show 5 < 7 by decide) (x := .slice a5 (p.n 5) c5) (hv5.keep (fun b hb => ⟨by have := C5.out.box.lt; have := hb.1; omega, hb.2⟩) (fun _ _ _ => rfl))) = v := ⟨_, rfl⟩
      clear hvv6
      obtain ⟨W6, e6⟩ : ∃ W, u5.setCell ⟨wr.heap.size, 9, none⟩ (.slice a5 (p.n 5) c5) = W := ⟨_, rfl⟩
      obtain ⟨y6, C6⟩ : ∃ y, Hid (CpAt wr W6 p (fun i => .slice (pa i) (p.n i) (pc i)) y (.slice af nf cf) wr.heap.size 6) := by
        rw [← e6]
        exact ⟨_, v6⟩
      clear v6 G5 hv5 hb5 C5 HC5
      have s6 : W6.cell? ⟨wr.heap.size, 10, none⟩ = some (.slice (pa 6) (p.n 6) (pc 6)) := by
        have h1 := C6.out.box.cell (pkg_at _ _ _ _ _ _ (show 6 < 7 by decide))
        rw [C6.out.left _ (Nat.le_refl _)] at h1
        exact h1
      have HC6 := Lib.hid (rdepsOwn_c (p.n 6) (p.deps 6) (pa 6) (pc 6) S W6 ((HPA.out.pkg.deps 6).below C6.out.below))
      go_wp2_with fail
      clear e6 s6
      refine HC6.out.mono ?_
      rintro e u6 ⟨⟨a6, c6, rfl, hv6⟩, hb6⟩
      have G6 := Lib.hid (C6.out.grow hb6)
      have r6 : u6.cell? ⟨wr.heap.size, 10, none⟩ = some (.slice (pa 6) (p.n 6) (pc 6)) := by
        have h1 := G6.out.box.cell (pkg_at _ _ _ _ _ _ (show 6 < 7 by decide))
        rw [G6.out.left _ (Nat.le_refl _)] at h1
        exact h1
      have f6 : u6.frozen? ⟨wr.heap.size, 10, none⟩ = false := G6.out.box.frozen _
      obtain ⟨v7, hvv7⟩ : ∃ v, (G6.out.set (show 6 < 7 by decide) (x := .slice a6 (p.n 6) c6) (hv6.keep (fun b hb => ⟨by have := C6.out.box.lt; have := hb.1; omega, hb.2⟩) (fun _ _ _ => rfl))) = v := ⟨_, rfl⟩
      clear hvv7
      obtain ⟨W7, e7⟩ : ∃ W, u6.setCell ⟨wr.heap.size, 10, none⟩ (.slice a6 (p.n 6) c6) = W := ⟨_, rfl⟩
      obtain ⟨y7, C7⟩ : ∃ y, Hid (CpAt wr W7 p (fun i => .slice (pa i) (p.n i) (pc i)) y (.slice af nf cf) wr.heap.size 7) := by
        rw [← e7]
        exact ⟨_, v7⟩
      clear v7 G6 hv6 hb6 C6 HC6
      obtain ⟨na, nc, hy⟩ : ∃ (na : Fin 7 → Option Addr) (nc : Fin 7 → Nat), y7 = fun i => .slice (na i) (p.n i) (nc i) := by
        have hd : ∀ j : Fin 7, DepsV W7 (New (wr.heap.size + 1) W7) (p.n j) (p.deps j) (y7 j) := fun j => C7.out.done j j.2
        refine ⟨fun i => (hd i).choose, fun i => (hd i).choose_spec.choose, ?_⟩
        funext i
        exact (hd i).choose_spec.choose_spec.1
      subst hy
      have s7 : W7.cell? ⟨wr.heap.size, 11, none⟩ = some (.slice af nf cf) := C7.out.box.cell (j := 11) rfl
      have s7b : (W7.alloc (.cells #[] 9)).cell? ⟨wr.heap.size, 11, none⟩ = some (.slice af nf cf) := cell_tr (below1 W7 _) s7
      obtain ⟨fa, fc, w9, hrun, hfv, hfb⟩ := files_append W7 p.files af nf cf S (HPA.out.pkg.files.below C7.out.below)
      have HFV := Lib.hid hfv
      have HFB := Lib.hid hfb
      have r9 : w9.cell? ⟨wr.heap.size, 11, none⟩ = some (.slice af nf cf) := (hfb.cell (p := ⟨wr.heap.size, 11, none⟩) C7.out.box.lt).trans s7
      have f9 : w9.frozen? ⟨wr.heap.size, 11, none⟩ = false := (C7.out.box.below hfb).frozen _
      obtain ⟨W9, e9⟩ : ∃ W, w9.setCell ⟨wr.heap.size, 11, none⟩ (.slice fa nf fc) = W := ⟨_, rfl⟩
      have HX : Hid (Below wr.heap.size wr W9 ∧ BoxN W9 wr.heap.size (pkgCells p.name p.evr p.arch p.vendor (fun i => .slice (na i) (p.n i) (nc i)) (.slice fa nf fc)) 44 ∧ PkgV W9 (New wr.heap.size W9) p (fun i => .slice (na i) (p.n i) (nc i)) (.slice fa nf fc)) := by
        rw [← e9]
        have hk : ∀ c, New (wr.heap.size + 1) w9 c → c < w9.heap.size → (w9.setCell ⟨wr.heap.size, 11, none⟩ (.slice fa nf fc)).heap[c]? = w9.heap[c]? := fun c hc _ => set_other _ (by have h1 := hc.1; omega)
        have hnw : ∀ c, New (wr.heap.size + 1) w9 c → New wr.heap.size (w9.setCell ⟨wr.heap.size, 11, none⟩ (.slice fa nf fc)) c := fun c hc => ⟨by have := hc.1; omega, hc.2.set _ _ _⟩
        refine ⟨below_sc (below_tr C7.out.below HFB.out) (Nat.le_refl _) _ _, set_cells (o := 11) (C7.out.box.below HFB.out) (.slice fa nf fc), ⟨HPA.out.pkg.name, HPA.out.pkg.evr, HPA.out.pkg.arch, HPA.out.pkg.vendor, fun j => ((C7.out.done j j.2).new HFB.out).keep hnw hk, ?_⟩⟩
        refine StrsV.keep (S := New (wr.heap.size + 1) w9) hnw hk (HFV.out.keep (fun b hb => ⟨?_, hb.2⟩) (fun _ _ _ => rfl))
        have h1 := C7.out.box.lt
        have h2 := hb.1
        omega
      clear hfv hfb C7
      have HO : Hid (∀ W : World, Below wr.heap.size wr W → W.cell? ⟨O, 3, none⟩ = some (.slice ao i co) ∧ W.frozen? ⟨O, 3, none⟩ = false) := fun W hb => ⟨(HT.out.obox.below hb).cell (j := 3) rfl, (HT.out.obox.below hb).frozen 3⟩
      have o3 := (HO.out W9 HX.out.1).1
      have x0 := HX.out.2.1.cell (j := 0) rfl
      have x1 := HX.out.2.1.cell (j := 1) rfl
      have x2 := HX.out.2.1.cell (j := 2) rfl
      have x3 := HX.out.2.1.cell (j := 3) rfl
      have x4 := HX.out.2.1.cell (j := 4) rfl
      have x5 := HX.out.2.1.cell (j := 5) rfl
      have x6 := HX.out.2.1.cell (j := 6) rfl
      have x7 := HX.out.2.1.cell (j := 7) rfl
      have x8 := HX.out.2.1.cell (j := 8) rfl
      have x9 := HX.out.2.1.cell (j := 9) rfl
      have x10 := HX.out.2.1.cell (j := 10) rfl
      have x11 := HX.out.2.1.cell (j := 11) rfl
      obtain ⟨i0, hi0, hz0, hz1, hz2⟩ := info_parts info44
      have HB10 : Hid (Below wr.heap.size wr (W9.alloc (.cells #[.string p.name, .string p.evr, .string p.arch, .string p.vendor, .slice (na 0) (p.n 0) (nc 0), .slice (na 1) (p.n 1) (nc 1), .slice (na 2) (p.n 2) (nc 2), .slice (na 3) (p.n 3) (nc 3), .slice (na 4) (p.n 4) (nc 4), .slice (na 5) (p.n 5) (nc 5), .slice (na 6) (p.n 6) (nc 6), .slice fa nf fc] 44))) := below_tr HX.out.1 (below1 _ _)
      have HROW : Hid (PkgRow (W9.alloc (.cells #[.string p.name, .string p.evr, .string p.arch, .string p.vendor, .slice (na 0) (p.n 0) (nc 0), .slice (na 1) (p.n 1) (nc 1), .slice (na 2) (p.n 2) (nc 2), .slice (na 3) (p.n 3) (nc 3), .slice (na 4) (p.n 4) (nc 4), .slice (na 5) (p.n 5) (nc 5), .slice (na 6) (p.n 6) (nc 6), .slice fa nf fc] 44)) L (.slice ao i co) i ps xs) := HT.out.row.below HB10.out
      have HLL : Hid (L ≤ W9.heap.size) := Nat.le_trans HT.out.lt.2.2.2 HX.out.1.size
      have HG : Hid (∀ w10, (W9.alloc (.cells #[.string p.name, .string p.evr, .string p.arch, .string p.vendor, .slice (na 0) (p.n 0) (nc 0), .slice (na 1) (p.n 1) (nc 1), .slice (na 2) (p.n 2) (nc 2), .slice (na 3) (p.n 3) (nc 3), .slice (na 4) (p.n 4) (nc 4), .slice (na 5) (p.n 5) (nc 5), .slice (na 6) (p.n 6) (nc 6), .slice fa nf fc] 44)).grownBy w10 (Value.slice ao i co).ownBlock → ∀ b, b < L → b < wr.heap.size → w10.heap[b]? = wr.heap[b]?) := fun w10 hgrow b hb hb2 =>
        (hgrow.block b (Nat.lt_of_lt_of_le hb2 HB10.out.size) (fun e => by have := (HROW.out.row.lt b e.symm).1; omega)).trans (HB10.out.block b hb2)
      have HG3 : Hid (∀ w10, (W9.alloc (.cells #[.string p.name, .string p.evr, .string p.arch, .string p.vendor, .slice (na 0) (p.n 0) (nc 0), .slice (na 1) (p.n 1) (nc 1), .slice (na 2) (p.n 2) (nc 2), .slice (na 3) (p.n 3) (nc 3), .slice (na 4) (p.n 4) (nc 4), .slice (na 5) (p.n 5) (nc 5), .slice (na 6) (p.n 6) (nc 6), .slice fa nf fc] 44)).grownBy w10 (Value.slice ao i co).ownBlock → w10.cell? ⟨O, 3, none⟩ = some (.slice ao i co) ∧ w10.frozen? ⟨O, 3, none⟩ = false) := fun w10 hgrow => by
        have h1 := HT.out.obox.to (HG.out w10 hgrow O (by have := HT.out.lt; omega) HT.out.obox.lt)
        exact ⟨h1.cell (j := 3) rfl, h1.frozen 3⟩
      go_wp2_with (at_builtin; first | (refine Lib.wpList_append_run _ rfl (.tmp 48) (.tmp 50) 42 42 rfl _ _ rfl rfl _ _ hrun ?_) | (refine wpList_append_lies _ rfl (.tmp 54) (.tmp 56) 31 rfl L 44 i0 _ 12 256 Tryz.underlying31 hi0 hz0 hz1 hz2 rfl (by decide) (.slice ao i co) i xs rfl HROW.out.row ⟨W9.heap.size, 0, none⟩ 1 1 [.string p.name, .string p.evr, .string p.arch, .string p.vendor, .slice (na 0) (p.n 0) (nc 0), .slice (na 1) (p.n 1) (nc 1), .slice (na 2) (p.n 2) (nc 2), .slice (na 3) (p.n 3) (nc 3), .slice (na 4) (p.n 4) (nc 4), .slice (na 5) (p.n 5) (nc 5), .slice (na 6) (p.n 6) (nc 6), .slice fa nf fc] rfl rfl (World.news_of_block (cs := #[.string p.name, .string p.evr, .string p.arch, .string p.vendor, .slice (na 0) (p.n 0) (nc 0), .slice (na 1) (p.n 1) (nc 1), .slice (na 2) (p.n 2) (nc 2), .slice (na 3) (p.n 3) (nc 3), .slice (na 4) (p.n 4) (nc 4), .slice (na 5) (p.n 5) (nc 5), .slice (na 6) (p.n 6) (nc 6), .slice fa nf fc]) (t := 44) (fr := (0, 0)) (heap_alloc_new W9 _)) (by intro u hu; simp only [List.mem_cons, List.not_mem_nil, or_false] at hu; rcases hu with rfl | rfl | rfl | rfl | rfl | rfl | rfl | rfl | rfl | rfl | rfl | rfl <;> rfl) (by omega) (by unfold maxLen; omega) (by omega) (by have := HLL.out; simp; omega) (W9.heap.size + 1) (by simp) ?_; intro g cap w10 hown hgrow hat hglt; have o10 := (HG3.out w10 hgrow).1; have p10 := (HG3.out w10 hgrow).2; replace hown := Lib.hid hown; replace hgrow := Lib.hid hgrow; replace hat := Lib.hid hat))
      have HN : Hid (RpAt w (w10.setCell ⟨O, 3, none⟩ (.slice (some ⟨g, 0, none⟩) (i + 1) cap)) O R L nm pr ins (some ⟨b, off, none⟩) n c ps (i + 1) (.slice (some ⟨g, 0, none⟩) (i + 1) cap) (xs ++ [.string p.name, .string p.evr, .string p.arch, .string p.vendor, .slice (na 0) (p.n 0) (nc 0), .slice (na 1) (p.n 1) (nc 1), .slice (na 2) (p.n 2) (nc 2), .slice (na 3) (p.n 3) (nc 3), .slice (na 4) (p.n 4) (nc 4), .slice (na 5) (p.n 5) (nc 5), .slice (na 6) (p.n 6) (nc 6), .slice fa nf fc])) := by
        have hlts := HT.out.lt
        have hg := HG.out w10 hgrow.out
        have hw10 : Below w.heap.size w w10 := by
          refine (HT.out.below.trans (below_to HB10.out HT.out.below.size)).trans ⟨hgrow.out.os, hgrow.out.tape, hgrow.out.output, hgrow.out.size, fun b hb => ?_⟩
          refine hgrow.out.block b (Nat.lt_of_lt_of_le hb (Nat.le_trans HT.out.below.size HB10.out.size)) (fun e => ?_)
          have h1 := (HROW.out.row.lt b e.symm).1
          omega
        have hrow := HT.out.row.step (w9 := w10) (g := g) (cap := cap) (v := fun i => .slice (na i) (p.n i) (nc i)) (vf := .slice fa nf fc) HT.out.lt.2.2.2 HB10.out hil (by rw [HP.out]; exact HX.out.2.2.new (below1 _ _)) (by rw [HP.out]; exact hown.out) hgrow.out (hat.out.imp id (fun h => by rw [h]; simp))
        rw [HP.out] at hrow
        refine ⟨below_sc hw10 (by omega) _ _, ⟨hlts.1, hlts.2.1, hlts.2.2.1, by rw [set_size]; have := HLL.out; have := hgrow.out.size; simp at this; omega⟩, (HT.out.dbox.to (hg _ (by omega) HT.out.dbox.lt)).to (set_other _ (by omega)), (HT.out.rbox.to (hg _ (by omega) HT.out.rbox.lt)).to (set_other _ (by omega)), (HT.out.obox.to (hg _ (by omega) HT.out.obox.lt)).set 3 _, hrow.keep fun b hb _ => set_other _ (by omega)⟩
      clear hown hgrow hat hglt
      go_roundw
      case rel => exact ⟨i + 1, by go_num, by omega, _, _, HN.out⟩
      case measure => simp [intOf]; omega
    · have hi1 : ¬ (i : Int) < (n : Int) := by omega
      obtain rfl : i = n := by omega
      obtain ⟨ao, co, rfl⟩ := HT.out.row.form
      have HOWN := Lib.hid (HT.out.row.own HNL.out.symm)
      have b0 := HT.out.obox.cell (j := 0) rfl
      have b1 := HT.out.obox.cell (j := 1) rfl
      have b2 := HT.out.obox.cell (j := 2) rfl
      have b3 := HT.out.obox.cell (j := 3) rfl
      have z0 := HT.out.rbox.cell (j := 0) rfl
      have z1 := HT.out.rbox.cell (j := 1) rfl
      have z2 := HT.out.rbox.cell (j := 2) rfl
      have z3 := HT.out.rbox.cell (j := 3) rfl
      have y0 := HT.out.rbox.frozen 0
      have y1 := HT.out.rbox.frozen 1
      have y2 := HT.out.rbox.frozen 2
      have y3 := HT.out.rbox.frozen 3
      obtain ⟨w8, e8⟩ : ∃ w8, ((((wr.setCell ⟨R, 0, none⟩ (.string nm)).setCell ⟨R, 1, none⟩ (.int .i64 pr)).setCell ⟨R, 2, none⟩ (.bool ins)).setCell ⟨R, 3, none⟩ (.slice ao i co)) = w8 := ⟨_, rfl⟩
      have HW : Hid (Below w.heap.size w w8 ∧ BoxN w8 R [.string nm, .int .i64 pr, .bool ins, .slice ao i co] 33 ∧ OwnPk w8 w.heap.size ps ao) := by
        have hlts := HT.out.lt
        rw [← e8]
        have hrow := HT.out.row.keep (w' := ((((wr.setCell ⟨R, 0, none⟩ (.string nm)).setCell ⟨R, 1, none⟩ (.int .i64 pr)).setCell ⟨R, 2, none⟩ (.bool ins)).setCell ⟨R, 3, none⟩ (.slice ao i co))) (fun b hb _ => fill4_other (by omega) _ _ _ _)
        refine ⟨HT.out.below.trans (fill4_below (by omega) _ _ _ _), fill4 HT.out.rbox _ _ _ _, ?_⟩
        obtain ⟨S', h1, h2, h3⟩ := hrow.own HNL.out.symm
        exact ⟨S', fun b hb => ⟨by have := (h1 b hb).1; omega, (h1 b hb).2⟩, h2, fun b off e => ⟨by have := (h3 b off e).1; omega, (h3 b off e).2⟩⟩
      go_wp2_with fail
      have x0 := HW.out.2.1.cell (j := 0) rfl
      have x1 := HW.out.2.1.cell (j := 1) rfl
      have x2 := HW.out.2.1.cell (j := 2) rfl
      have x3 := HW.out.2.1.cell (j := 3) rfl
      refine bodyPost_ret (v := .agg #[.string nm, .int .i64 pr, .bool ins, .slice ao i co]) (by simp [results, Tryz.results7, go_sem, x0, x1, x2, x3]) rfl ?_
      exact ⟨⟨ao, ⟨co, rfl⟩, HW.out.2.2⟩, HW.out.1⟩
end Go.Proofs.YtgeimldijagkkaaGreat
