/-
  The document's reader of packages in memory. Helper text (printed by gen_rrdA.py); the conditions are those typed.
  The document's reader: the package that is read is whole; the reader's state. Helper text (printed by gen_rrdB.py); the conditions are those typed.
-/
import Derived.Test.YtjcefgjgjhdbpaaGreatDoorRdrB
import Derived.Test.YtjcefgjgjhdbpaaGreatDoorPutE
import Derived.Test.YtjcefgjgjhdbpaaGreatDoorChkE
import Derived.Test.YtjcefgjgjhdbpaaGreatDoorPackC
namespace Go.Proofs.YtjcefgjgjhdbpaaGreatDoor
set_option linter.unusedVariables false
set_option linter.unusedSimpArgs false
open Go.RowKit Go.Maps

theorem lt_of_obj {w : World} {b : Nat} {X : Obj} (h : w.heap[b]? = some X) : b < w.heap.size := by
  rcases Nat.lt_or_ge b w.heap.size with h' | h'
  · exact h'
  · rw [Array.getElem?_eq_none h'] at h; cases h
variable {X : Obj}
/-- What is read: the packages; the map; all but the package that is being read. -/
structure OutR (X : Obj) (w : World) (L B M : Nat) (K : Nat → Prop) (out : List PkgT) (vo : Value) : Prop where
  lB : L ≤ B
  lM : L ≤ M
  map : w.heap[M]? = some X
  row : ∃ xs, w.ownsRow L 36 12 vo out.length xs ∧ ∀ j (h : j < out.length), ∃ v vf, PkgV w K out[j] v vf ∧ ∀ r u, (pkgCells out[j].name out[j].evr out[j].arch out[j].vendor v vf)[r]? = some u → xs[j * 12 + r]? = some u
  fresh : ∀ b, K b → New L w b
  bm : B ≠ M
  vB : vo.ownBlock ≠ some B
  vM : vo.ownBlock ≠ some M
  kB : ¬ K B
  kM : ¬ K M
  kv : ∀ b, K b → vo.ownBlock ≠ some b
/-- The reader's box. -/
def rrdCells (vo : Value) (p12 : List Value) (has : Bool) : List Value := vo :: (p12 ++ [.bool has])
structure RdR (X : Obj) (w : World) (L B M : Nat) (K : Nat → Prop) (out : List PkgT) (p : SP) (has : Bool) (vo : Value) (v : Fin 7 → Value) (vf : Value) : Prop where
  box : BoxN w B (rrdCells vo (pkgCells p.name p.evr p.arch p.vendor v vf) has) 52
  outs : OutR X w L B M K out vo
  cur : CurO w L B M K vo p v vf

/-- What turns neither the map, nor the packages, nor what they hold. -/
theorem OutR.keep {w w' : World} {L B M : Nat} {K : Nat → Prop} {out : List PkgT} {vo : Value} (h : OutR X w L B M K out vo) (hk : ∀ b, b < w.heap.size → (b = M ∨ K b ∨ vo.ownBlock = some b) → w'.heap[b]? = w.heap[b]?) : OutR X w' L B M K out vo := by
  have hK : ∀ b, K b → w'.heap[b]? = w.heap[b]? := fun b hb => hk b (h.fresh b hb).2.lt (.inr (.inl hb))
  refine ⟨h.lB, h.lM, ?_, ?_, fun b hb => ⟨(h.fresh b hb).1, (h.fresh b hb).2.keep (hK b hb)⟩, h.bm, h.vB, h.vM, h.kB, h.kM, h.kv⟩
  · exact (hk M (lt_of_obj h.map) (.inl rfl)).trans h.map
  · obtain ⟨xs, h1, h2⟩ := h.row
    refine ⟨xs, ownsRow_to h1 fun g hg => hk g (h1.lt g hg).2 (.inr (.inr hg)), fun j hj => ?_⟩
    obtain ⟨v, vf, h3, h4⟩ := h2 j hj
    exact ⟨v, vf, h3.keep (fun _ hb => hb) (fun b hb _ => hK b hb), h4⟩
theorem OutR.below {w w' : World} {L B M : Nat} {K : Nat → Prop} {out : List PkgT} {vo : Value} (h : OutR X w L B M K out vo) (hb : Below w.heap.size w w') : OutR X w' L B M K out vo := h.keep fun b hl _ => hb.block b hl
theorem RdR.below {w w' : World} {L B M : Nat} {K : Nat → Prop} {out : List PkgT} {p : SP} {has : Bool} {vo : Value} {v : Fin 7 → Value} {vf : Value} (h : RdR X w L B M K out p has vo v vf) (hb : Below w.heap.size w w') : RdR X w' L B M K out p has vo v vf :=
  ⟨h.box.below hb, h.outs.below hb, h.cur.below hb⟩

theorem OutR.maplt {w : World} {L B M : Nat} {K : Nat → Prop} {out : List PkgT} {vo : Value} (h : OutR X w L B M K out vo) : M < w.heap.size := by
  exact lt_of_obj h.map
/-- One package more. -/
theorem OutR.more {w wa w9 : World} {L B M : Nat} {K K' : Nat → Prop} {out : List PkgT} {vo : Value} (h : OutR X w L B M K out vo) (hBl : B < w.heap.size) (hK : ∀ b, K b → K' b) (hfr : ∀ b, K' b → New L w b) (hkB : ¬ K' B) (hkM : ¬ K' M) (hkv : ∀ b, K' b → vo.ownBlock ≠ some b)
    {pk : PkgT} {v : Fin 7 → Value} {vf : Value} (hpk : PkgV w K' pk v vf) (hb : Below w.heap.size w wa) {xs : List Value} (hrow : w.ownsRow L 36 12 vo out.length xs) (hhas : ∀ j (h : j < out.length), ∃ v vf, PkgV w K out[j] v vf ∧ ∀ r u, (pkgCells out[j].name out[j].evr out[j].arch out[j].vendor v vf)[r]? = some u → xs[j * 12 + r]? = some u)
    {g cap : Nat} (hown : w9.ownsRow L 36 12 (.slice (some ⟨g, 0, none⟩) (out.length + 1) cap) (out.length + 1) (xs ++ pkgCells pk.name pk.evr pk.arch pk.vendor v vf)) (hgrow : wa.grownBy w9 vo.ownBlock) (hat : vo.ownBlock = some g ∨ g = wa.heap.size) :
    OutR X w9 L B M K' (out ++ [pk]) (.slice (some ⟨g, 0, none⟩) (out.length + 1) cap) := by
  have hsz := hb.size
  have hxl : xs.length = out.length * 12 := hrow.1
  have hMl := h.maplt
  have hk : ∀ b, b < w.heap.size → vo.ownBlock ≠ some b → w9.heap[b]? = w.heap[b]? := fun b hl hn => (hgrow.block b (Nat.lt_of_lt_of_le hl hsz) (fun e => hn e.symm)).trans (hb.block b hl)
  have hkk : ∀ b, K' b → w9.heap[b]? = w.heap[b]? := fun b hb' => hk b (hfr b hb').2.lt (hkv b hb')
  have hne : ∀ b, b < w.heap.size → vo.ownBlock ≠ some b → g ≠ b := fun b hl hn e => by
    rcases hat with h1 | h1
    · exact hn (by rw [h1, e])
    · omega
  have hgo : ∀ b, (Value.slice (some ⟨g, 0, none⟩) (out.length + 1) cap).ownBlock ≠ some b ↔ g ≠ b := fun b => by
    show some g ≠ some b ↔ g ≠ b
    constructor
    · intro h e; exact h (by rw [e])
    · intro h e; exact h (Option.some.inj e)
  refine ⟨h.lB, h.lM, (hk M hMl h.vM).trans h.map, ⟨_, by rw [List.length_append, List.length_singleton]; exact hown, fun j hj => ?_⟩, fun b hb' => ⟨(hfr b hb').1, (hfr b hb').2.keep (hkk b hb')⟩, h.bm, (hgo B).2 (hne B hBl h.vB), (hgo M).2 (hne M hMl h.vM), hkB, hkM, fun b hb' => (hgo b).2 (hne b (hfr b hb').2.lt (hkv b hb'))⟩
  rw [List.length_append, List.length_singleton] at hj
  by_cases e : j = out.length
  · subst e
    have he : (out ++ [pk])[out.length] = pk := by simp
    rw [he]
    refine ⟨v, vf, hpk.keep (fun _ hb => hb) (fun b hb' _ => hkk b hb'), fun r u hr => ?_⟩
    rw [List.getElem?_append_right (by omega), hxl, show out.length * 12 + r - out.length * 12 = r by omega]
    exact hr
  · have hj' : j < out.length := by omega
    have he : (out ++ [pk])[j] = out[j] := List.getElem_append_left hj'
    rw [he]
    obtain ⟨v2, vf2, h1, h2⟩ := hhas j hj'
    refine ⟨v2, vf2, h1.keep hK (fun b hb' _ => hkk b (hK b hb')), fun r u hr => ?_⟩
    have hr12 : r < 12 := (List.getElem?_eq_some_iff.1 hr).1
    rw [List.getElem?_append_left (by omega)]
    exact h2 r u hr
theorem OutR.setB {w : World} {L B M : Nat} {K : Nat → Prop} {out : List PkgT} {vo : Value} (h : OutR X w L B M K out vo) (o : Nat) (x : Value) : OutR X (w.setCell ⟨B, o, none⟩ x) L B M K out vo :=
  h.keep fun b hl hb' => set_other _ (fun e => by
    subst e
    rcases hb' with e | e | e
    · exact h.bm e
    · exact h.kB e
    · exact h.vB e)
theorem OutR.grow {w w' : World} {L B M : Nat} {K K' : Nat → Prop} {out : List PkgT} {vo : Value} (h : OutR X w L B M K out vo) (hBl : B < w.heap.size) (hK : ∀ b, K b → K' b) (hn : ∀ b, K' b → K b ∨ (w.heap.size ≤ b ∧ New L w' b))
    (hk : ∀ b, b < w.heap.size → (b = M ∨ K b ∨ vo.ownBlock = some b) → w'.heap[b]? = w.heap[b]?) : OutR X w' L B M K' out vo := by
  have h2 := h.keep hk
  have hMl := h.maplt
  obtain ⟨xs, hr, hx⟩ := h.row
  refine ⟨h2.lB, h2.lM, h2.map, ?_, fun b hb => ?_, h.bm, h.vB, h.vM, fun hb => ?_, fun hb => ?_, fun b hb e => ?_⟩
  · obtain ⟨ys, h3, h4⟩ := h2.row
    refine ⟨ys, h3, fun j hj => ?_⟩
    obtain ⟨v, vf, h5, h6⟩ := h4 j hj
    exact ⟨v, vf, h5.keep hK (fun _ _ _ => rfl), h6⟩
  · rcases hn b hb with h1 | h1
    · exact h2.fresh b h1
    · exact h1.2
  · rcases hn B hb with h1 | h1
    · exact h.kB h1
    · omega
  · rcases hn M hb with h1 | h1
    · exact h.kM h1
    · omega
  · rcases hn b hb with h1 | h1
    · exact h.kv b h1 e
    · have := (hr.lt b e).2
      omega
theorem OutR.ownlt {w : World} {L B M : Nat} {K : Nat → Prop} {out : List PkgT} {vo : Value} (h : OutR X w L B M K out vo) {x : Nat} (hx : vo.ownBlock = some x) : x < w.heap.size := by
  obtain ⟨xs, hr, _⟩ := h.row
  exact (hr.lt x hx).2
theorem rbox_put (vo : Value) (nm ev ar ve : ByteArray) (v : Fin 7 → Value) (vf x hb : Value) (i : Fin 7) : ((vo :: (pkgCells nm ev ar ve v vf ++ [hb])).set (5 + i.val) x) = vo :: (pkgCells nm ev ar ve (putV v i x) vf ++ [hb]) := by
  match i with
  | 0 => rfl
  | 1 => rfl
  | 2 => rfl
  | 3 => rfl
  | 4 => rfl
  | 5 => rfl
  | 6 => rfl
theorem rbox_at (vo : Value) (nm ev ar ve : ByteArray) (v : Fin 7 → Value) (vf hb : Value) (i : Fin 7) : (vo :: (pkgCells nm ev ar ve v vf ++ [hb]))[5 + i.val]? = some (v i) := by
  match i with
  | 0 => rfl
  | 1 => rfl
  | 2 => rfl
  | 3 => rfl
  | 4 => rfl
  | 5 => rfl
  | 6 => rfl
/-- A list grows. -/
theorem CurO.addDepR {w w' : World} {L B M : Nat} {K K' : Nat → Prop} {out : List PkgT} {vo : Value} {p : SP} {v : Fin 7 → Value} {vf : Value} (h : CurO w L B M K vo p v vf) (ho : OutR X w L B M K out vo) (hBl : B < w.heap.size) (hK : ∀ b, K b → K' b) (hn : ∀ b, K' b → K b ∨ w.heap.size ≤ b)
    (i : Fin 7) (d : DepT) {cs xs : List Value} (hd : DepC w' K' d cs) {g cap : Nat} (hrow : w.ownsRow L 73 5 (v i) (p.L i).length xs) (hhas : ∀ j (h : j < (p.L i).length), ∃ cs, DepC w K (p.L i)[j] cs ∧ ∀ r u, cs[r]? = some u → xs[j * 5 + r]? = some u)
    (hown : w'.ownsRow L 73 5 (.slice (some ⟨g, 0, none⟩) ((p.L i).length + 1) cap) ((p.L i).length + 1) (xs ++ cs)) (hg : Grew w K' (v i) g)
    (hk : ∀ b, b < w.heap.size → b ≠ B → (v i).ownBlock ≠ some b → w'.heap[b]? = w.heap[b]?) :
    CurO w' L B M K' vo (p.add i d) (putV v i (.slice (some ⟨g, 0, none⟩) ((p.L i).length + 1) cap)) vf := by
  have hi : ∀ x, (v i).ownBlock = some x → x ≠ B ∧ x ≠ M ∧ vo.ownBlock ≠ some x ∧ ¬ K x := fun x hx => h.away (some i) x hx
  have hkK : ∀ b, K b → w'.heap[b]? = w.heap[b]? := fun b hb => hk b (ho.fresh b hb).2.lt (fun e => ho.kB (e ▸ hb)) (fun e => (hi b e).2.2.2 hb)
  have hkr : ∀ r b, r ≠ some i → rbk v vf r = some b → w'.heap[b]? = w.heap[b]? := fun r b hr hb => hk b (h.rlt hb).2 (h.away r b hb).1 (fun e => h.apart (some i) r (Ne.symm hr) b e hb)
  have hnew : ∀ s b, s ≠ some i → rbk v vf s = some b → g ≠ b := fun s b hs hb e => by
    subst e
    rcases hg with h1 | h1
    · exact h.apart (some i) s (Ne.symm hs) g h1 hb
    · have := (h.rlt hb).2
      omega
  have hlen : xs.length = (p.L i).length * 5 := hrow.1
  have key : ∀ s x, rbk (putV v i (.slice (some ⟨g, 0, none⟩) ((p.L i).length + 1) cap)) vf s = some x → (s = some i ∧ x = g) ∨ (s ≠ some i ∧ rbk v vf s = some x) := by
    intro s x hx
    cases s with
    | none => exact .inr ⟨by simp, hx⟩
    | some k =>
      by_cases e : k = i
      · subst e
        have hx : (putV v k (.slice (some ⟨g, 0, none⟩) ((p.L k).length + 1) cap) k).ownBlock = some x := hx
        rw [putV_same] at hx
        exact .inl ⟨rfl, (Option.some.inj hx).symm⟩
      · have hx : (putV v i (.slice (some ⟨g, 0, none⟩) ((p.L i).length + 1) cap) k).ownBlock = some x := hx
        have e3 := putV_ne v (.slice (some ⟨g, 0, none⟩) ((p.L i).length + 1) cap) e
        exact .inr ⟨fun e2 => e (Option.some.inj e2), (congrArg Value.ownBlock e3).symm.trans hx⟩
  refine ⟨h.name, h.evr, h.arch, h.vendor, h.texts, fun k => ?_, ownsRow_to h.files fun b hb => hkr none b (by simp) hb, fun r s hrs x hx hy => ?_, fun r x hx => ?_⟩
  · by_cases e : k = i
    · subst e
      rw [putV_same, add_L]
      refine ⟨xs ++ cs, by rw [List.length_append, List.length_singleton]; exact hown, fun j hj => ?_⟩
      rw [List.length_append, List.length_singleton] at hj
      by_cases e2 : j = (p.L k).length
      · subst e2
        refine ⟨cs, by simpa using hd, fun r u hu => ?_⟩
        rw [List.getElem?_append_right (by omega), hlen, show (p.L k).length * 5 + r - (p.L k).length * 5 = r by omega]
        exact hu
      · have hj' : j < (p.L k).length := by omega
        obtain ⟨cs2, h1, h2⟩ := hhas j hj'
        refine ⟨cs2, ?_, fun r u hu => ?_⟩
        · rw [List.getElem_append_left hj']
          exact h1.keep hK (fun b hb _ => hkK b hb) (fun _ _ => trivial)
        · have h3 := h2 r u hu
          have := (List.getElem?_eq_some_iff.1 h3).1
          rw [List.getElem?_append_left this]
          exact h3
    · rw [putV_ne _ _ e, add_Lne _ _ e]
      obtain ⟨ys, h1, h2⟩ := h.rows k
      refine ⟨ys, ownsRow_to h1 fun b hb => hkr (some k) b (fun e2 => e (Option.some.inj e2)) hb, fun j hj => ?_⟩
      obtain ⟨cs2, h3, h4⟩ := h2 j hj
      exact ⟨cs2, h3.keep hK (fun b hb _ => hkK b hb) (fun _ _ => trivial), h4⟩
  · rcases key r x hx with ⟨h1, h2⟩ | ⟨h1, h2⟩ <;> rcases key s x hy with ⟨h3, h4⟩ | ⟨h3, h4⟩
    · exact hrs (h1.trans h3.symm)
    · exact hnew s x h3 h4 h2.symm
    · exact hnew r x h1 h2 h4.symm
    · exact h.apart r s hrs x h2 h4
  · rcases key r x hx with ⟨h1, rfl⟩ | ⟨h1, h2⟩
    · rcases hg with h3 | h3
      · obtain ⟨a1, a2, a3, a4⟩ := hi x h3
        refine ⟨a1, a2, a3, fun hb => ?_⟩
        rcases hn x hb with h5 | h5
        · exact a4 h5
        · have := (h.rlt (r := some i) h3).2
          omega
      · refine ⟨by omega, by have := ho.maplt; omega, fun e => ?_, h3.2⟩
        have := ho.ownlt e
        omega
    · obtain ⟨a1, a2, a3, a4⟩ := h.away r x h2
      refine ⟨a1, a2, a3, fun hb => ?_⟩
      rcases hn x hb with h5 | h5
      · exact a4 h5
      · have := (h.rlt h2).2
        omega
/-- The files grow. -/
theorem CurO.addFileR {w w' : World} {L B M : Nat} {K : Nat → Prop} {out : List PkgT} {vo : Value} {p : SP} {v : Fin 7 → Value} {vf : Value} (h : CurO w L B M K vo p v vf) (ho : OutR X w L B M K out vo) (hBl : B < w.heap.size)
    (t : ByteArray) (ht : t.size ≤ maxLen) {g cap : Nat} (hown : w'.ownsRow L 9 1 (.slice (some ⟨g, 0, none⟩) (p.files.length + 1) cap) (p.files.length + 1) (p.files.map .string ++ [.string t])) (hg : Grew w K vf g)
    (hk : ∀ b, b < w.heap.size → b ≠ B → vf.ownBlock ≠ some b → w'.heap[b]? = w.heap[b]?) :
    CurO w' L B M K vo { p with files := p.files ++ [t] } v (.slice (some ⟨g, 0, none⟩) (p.files.length + 1) cap) := by
  have hi : ∀ x, vf.ownBlock = some x → x ≠ B ∧ x ≠ M ∧ vo.ownBlock ≠ some x ∧ ¬ K x := fun x hx => h.away none x hx
  have hkK : ∀ b, K b → w'.heap[b]? = w.heap[b]? := fun b hb => hk b (ho.fresh b hb).2.lt (fun e => ho.kB (e ▸ hb)) (fun e => (hi b e).2.2.2 hb)
  have hkr : ∀ k b, (v k).ownBlock = some b → w'.heap[b]? = w.heap[b]? := fun k b hb => hk b (h.rlt (r := some k) hb).2 (h.away (some k) b hb).1 (fun e => h.apart none (some k) (by simp) b e hb)
  have hnew : ∀ k b, (v k).ownBlock = some b → g ≠ b := fun k b hb e => by
    subst e
    rcases hg with h1 | h1
    · exact h.apart none (some k) (by simp) g h1 hb
    · have := (h.rlt (r := some k) hb).2
      omega
  refine ⟨h.name, h.evr, h.arch, h.vendor, fun s hs => ?_, fun k => ?_, ?_, fun r s hrs x hx hy => ?_, fun r x hx => ?_⟩
  · rcases List.mem_append.1 hs with hs | hs
    · exact h.texts s hs
    · rw [List.mem_singleton] at hs
      rw [hs]; exact ht
  · obtain ⟨ys, h1, h2⟩ := h.rows k
    refine ⟨ys, ownsRow_to h1 fun b hb => hkr k b hb, fun j hj => ?_⟩
    obtain ⟨cs2, h3, h4⟩ := h2 j hj
    exact ⟨cs2, h3.keep (fun _ hb => hb) (fun b hb _ => hkK b hb) (fun _ _ => trivial), h4⟩
  · show w'.ownsRow L 9 1 _ (p.files ++ [t]).length ((p.files ++ [t]).map .string)
    rw [List.length_append, List.length_singleton, List.map_append, List.map_singleton]
    exact hown
  · cases r with
    | none =>
      cases s with
      | none => exact hrs rfl
      | some k => exact hnew k x hy (Option.some.inj hx)
    | some j =>
      cases s with
      | none => exact hnew j x hx (Option.some.inj hy)
      | some k => exact h.apart (some j) (some k) hrs x hx hy
  · cases r with
    | none =>
      obtain rfl : g = x := Option.some.inj hx
      rcases hg with h3 | h3
      · exact hi g h3
      · refine ⟨by omega, by have := ho.maplt; omega, fun e => ?_, h3.2⟩
        have := ho.ownlt e
        omega
    | some k => exact h.away (some k) x hx
end Go.Proofs.YtjcefgjgjhdbpaaGreatDoor
namespace Go.Proofs.YtjcefgjgjhdbpaaGreatDoor
set_option linter.unusedVariables false
set_option linter.unusedSimpArgs false
open Go.RowKit Go.Maps
variable {X : Obj}

theorem rwhole_no (B : Nat) (cs : List Value) (w : World) (h : BoxN w B cs 52) (h13 : cs[13]? = some (.bool false)) : Calls Tryz.prog 26 #[.pointer (some ⟨B, 0, none⟩)] w fun e w' => e = .returned (.int .i64 0) ∧ w' = w := by
  have c13 := h.cell h13
  clear h h13
  go_enter Tryz.func26, Tryz.ntmps26
  go_wp2_with fail
  go_ret
  exact ⟨rfl, rfl⟩
set_option maxHeartbeats 4000000 in
set_option maxRecDepth 100000 in
theorem rwhole_bad (L B M : Nat) (K : Nat → Prop) (out : List PkgT) (p : SP) (vo : Value) (v : Fin 7 → Value) (vf : Value) (w : World) (h : RdR X w L B M K out p true vo v vf) (hn : ∀ i, (p.L i).length ≤ 1000000) (hf : p.files.length ≤ 1000000) (he : pkgCheck p.pkg ≠ 0) :
    Calls Tryz.prog 26 #[.pointer (some ⟨B, 0, none⟩)] w fun e w' => e = .returned (.int .i64 (pkgCheck p.pkg)) ∧ Below w.heap.size w w' := by
  have hpk := h.cur.pkg hn hf
  have hfr := h.cur.fresh h.outs.fresh
  obtain ⟨a, c, af, cf, rfl, rfl⟩ := slices12 hpk
  have HC := Lib.hid (rcheck_c p.pkg a c af _ cf _ w hpk)
  have hbx := h.box
  have p0 := hbx.cell (j := 1) rfl
  have p1 := hbx.cell (j := 2) rfl
  have p2 := hbx.cell (j := 3) rfl
  have p3 := hbx.cell (j := 4) rfl
  have p4 := hbx.cell (j := 5) rfl
  have p5 := hbx.cell (j := 6) rfl
  have p6 := hbx.cell (j := 7) rfl
  have p7 := hbx.cell (j := 8) rfl
  have p8 := hbx.cell (j := 9) rfl
  have p9 := hbx.cell (j := 10) rfl
  have p10 := hbx.cell (j := 11) rfl
  have p11 := hbx.cell (j := 12) rfl
  have p13 := hbx.cell (j := 13) rfl
  have e1 : (pkgCheck p.pkg == 0) = false := by simpa using he
  have e2 : (pkgCheck p.pkg != 0) = true := by simpa using he
  generalize pkgCheck p.pkg = E at HC e1 e2 ⊢
  clear he hbx hfr hpk h hn hf
  go_enter Tryz.func26, Tryz.ntmps26
  go_wp2_with fail
  refine HC.out.mono ?_
  rintro e w' ⟨rfl, hb⟩
  have HB := Lib.hid hb
  clear hb
  go_wp2_with fail
  go_ret
  exact ⟨rfl, HB.out⟩
set_option maxHeartbeats 8000000 in
set_option maxRecDepth 100000 in
theorem rwhole_ok (L B M : Nat) (K : Nat → Prop) (out : List PkgT) (p : SP) (vo : Value) (v : Fin 7 → Value) (vf : Value) (w : World) (h : RdR X w L B M K out p true vo v vf) (hn : ∀ i, (p.L i).length ≤ 1000000) (hf : p.files.length ≤ 1000000) (ho : out.length ≤ 1000000) (he : pkgCheck p.pkg = 0) :
    Calls Tryz.prog 26 #[.pointer (some ⟨B, 0, none⟩)] w fun e w' => e = .returned (.int .i64 0) ∧ Below L w w' ∧ ∃ vo', BoxN w' B (rrdCells vo' (pkgCells p.name p.evr p.arch p.vendor v vf) true) 52 ∧ OutR X w' L B M (withCur K v vf) (out ++ [p.pkg]) vo' := by
  have hpk := h.cur.pkg hn hf
  have hfr := h.cur.fresh h.outs.fresh
  have hkB : ¬ withCur K v vf B := by
    rintro (hb | ⟨r, hr⟩)
    · exact h.outs.kB hb
    · exact (h.cur.away r B hr).1 rfl
  have hkM : ¬ withCur K v vf M := by
    rintro (hb | ⟨r, hr⟩)
    · exact h.outs.kM hb
    · exact (h.cur.away r M hr).2.1 rfl
  have hkv : ∀ b, withCur K v vf b → vo.ownBlock ≠ some b := by
    rintro b (hb | ⟨r, hr⟩)
    · exact h.outs.kv b hb
    · exact (h.cur.away r b hr).2.2.1
  obtain ⟨a, c, af, cf, rfl, rfl⟩ := slices12 hpk
  have HC := Lib.hid (rcheck_c p.pkg a c af _ cf _ w hpk)
  rw [he] at HC
  have hbx := h.box
  obtain ⟨xs, hrow, hhas⟩ := h.outs.row
  obtain ⟨va, vc, rfl⟩ := ownsRow_slice hrow
  have HO := Lib.hid h.outs
  obtain ⟨i34, hi34, hz340, hz341, hz342⟩ := info_parts info44
  have HNX : Hid (∀ (wa w9 : World) (g cap : Nat), Below w.heap.size w wa → w9.ownsRow L 36 12 (.slice (some ⟨g, 0, none⟩) (out.length + 1) cap) (out.length + 1) (xs ++ pkgCells p.pkg.name p.pkg.evr p.pkg.arch p.pkg.vendor (fun i => .slice (a i) (p.pkg.n i) (c i)) (.slice af p.pkg.files.length cf)) → wa.grownBy w9 (Value.slice va out.length vc).ownBlock → ((Value.slice va out.length vc).ownBlock = some g ∨ g = wa.heap.size) →
      BoxN w9 B (rrdCells (.slice va out.length vc) (pkgCells p.name p.evr p.arch p.vendor (fun i => .slice (a i) (p.pkg.n i) (c i)) (.slice af p.pkg.files.length cf)) true) 52 ∧ Below L w (w9.setCell ⟨B, 0, none⟩ (.slice (some ⟨g, 0, none⟩) (out.length + 1) cap)) ∧ OutR X (w9.setCell ⟨B, 0, none⟩ (.slice (some ⟨g, 0, none⟩) (out.length + 1) cap)) L B M (withCur K (fun i => .slice (a i) (p.pkg.n i) (c i)) (.slice af p.pkg.files.length cf)) (out ++ [p.pkg]) (.slice (some ⟨g, 0, none⟩) (out.length + 1) cap)) := Lib.hid <| by
    intro wa w9 g cap hb hown hgrow hat
    have hO9 := HO.out.more hbx.lt (fun b hb => .inl hb) hfr hkB hkM hkv hpk hb hrow hhas hown hgrow hat
    have hsz := hb.size
    have hBl := hbx.lt
    have hB9 : w9.heap[B]? = w.heap[B]? := (hgrow.block B (Nat.lt_of_lt_of_le hBl hsz) (fun e => HO.out.vB e.symm)).trans (hb.block B hBl)
    refine ⟨hbx.to hB9, ?_, ?_⟩
    · have h1 : Below L wa w9 := ⟨hgrow.os, hgrow.tape, hgrow.output, hgrow.size, fun b hbl => hgrow.block b (by have := HO.out.lB; omega) (fun e => by have := (hrow.lt b e.symm).1; omega)⟩
      have h2 : Below L w wa := hb.mono (by have := HO.out.lB; omega)
      exact below_sc (h2.trans h1) HO.out.lB _ _
    · refine hO9.keep fun b hl hb' => set_other _ ?_
      rcases hb' with e | e | e
      · intro e2; exact HO.out.bm (by rw [← e2, e])
      · intro e2; exact hkB (by rw [← e2]; exact e)
      · intro e2; exact hO9.vB (by rw [← e2]; exact e)
  have hLw : L ≤ w.heap.size := Nat.le_trans HO.out.lB (Nat.le_of_lt hbx.lt)
  have HROW := Lib.hid hrow
  have HBX := Lib.hid hbx
  clear hhas hkv hkM hkB hfr hpk h hn hf HO hrow
  have p0 := hbx.cell (j := 1) rfl
  have p1 := hbx.cell (j := 2) rfl
  have p2 := hbx.cell (j := 3) rfl
  have p3 := hbx.cell (j := 4) rfl
  have p4 := hbx.cell (j := 5) rfl
  have p5 := hbx.cell (j := 6) rfl
  have p6 := hbx.cell (j := 7) rfl
  have p7 := hbx.cell (j := 8) rfl
  have p8 := hbx.cell (j := 9) rfl
  have p9 := hbx.cell (j := 10) rfl
  have p10 := hbx.cell (j := 11) rfl
  have p11 := hbx.cell (j := 12) rfl
  have p13 := hbx.cell (j := 13) rfl
  clear hbx he
  go_enter Tryz.func26, Tryz.ntmps26
  go_wp2_with fail
  refine HC.out.mono ?_
  rintro e w2 ⟨rfl, hb⟩
  have HB2 := Lib.hid hb
  clear hb HC p0 p1 p2 p3 p4 p5 p6 p7 p8 p9 p10 p11 p13
  have HBX2 := Lib.hid (HBX.out.below HB2.out)
  have HSW : Hid (∀ W : World, W.heap[B]? = w2.heap[B]? → W.cell? ⟨B, 0, none⟩ = some (.slice va out.length vc) ∧ W.cell? ⟨B, 1, none⟩ = some (.string p.name) ∧ W.cell? ⟨B, 2, none⟩ = some (.string p.evr) ∧ W.cell? ⟨B, 3, none⟩ = some (.string p.arch) ∧ W.cell? ⟨B, 4, none⟩ = some (.string p.vendor) ∧ W.cell? ⟨B, 5, none⟩ = some (.slice (a 0) (p.pkg.n 0) (c 0)) ∧ W.cell? ⟨B, 6, none⟩ = some (.slice (a 1) (p.pkg.n 1) (c 1)) ∧ W.cell? ⟨B, 7, none⟩ = some (.slice (a 2) (p.pkg.n 2) (c 2)) ∧ W.cell? ⟨B, 8, none⟩ = some (.slice (a 3) (p.pkg.n 3) (c 3)) ∧ W.cell? ⟨B, 9, none⟩ = some (.slice (a 4) (p.pkg.n 4) (c 4)) ∧ W.cell? ⟨B, 10, none⟩ = some (.slice (a 5) (p.pkg.n 5) (c 5)) ∧ W.cell? ⟨B, 11, none⟩ = some (.slice (a 6) (p.pkg.n 6) (c 6)) ∧ W.cell? ⟨B, 12, none⟩ = some (.slice af p.pkg.files.length cf)) := Lib.hid fun W hW => by
    have hx := HBX2.out.to hW
    exact ⟨hx.cell (j := 0) rfl, hx.cell (j := 1) rfl, hx.cell (j := 2) rfl, hx.cell (j := 3) rfl, hx.cell (j := 4) rfl, hx.cell (j := 5) rfl, hx.cell (j := 6) rfl, hx.cell (j := 7) rfl, hx.cell (j := 8) rfl, hx.cell (j := 9) rfl, hx.cell (j := 10) rfl, hx.cell (j := 11) rfl, hx.cell (j := 12) rfl⟩
  go_upto_region 6 with fail
  refine wp_region_ord (fun W => W.heap[B]? = w2.heap[B]?) 13 [(true, 0), (true, 1), (true, 2), (true, 3), (true, 4), (true, 5), (true, 6), (true, 7), (true, 8), (false, 9), (false, 10), (false, 11), (false, 12), (false, 13)] (by kernel_rfl) (by kernel_rfl) (fun _ _ d _ _ h => by cases d <;> exact h) rfl ?_
  intro wd hwd hS
  simp only [ordOps, List.map_cons, List.map_nil, Array.getD_eq_getD_getElem?, List.getElem?_toArray, List.getElem?_cons_succ, List.getElem?_cons_zero, Option.getD_some]
  iterate 9 (refine wpOrd_q rfl _ (fun w' hS' K hK => (by obtain ⟨x0, x1, x2, x3, x4, x5, x6, x7, x8, x9, x10, x11, x12⟩ := HSW.out w' hS'; clear hS'; go_simp; exact hK)) (fun K hK => ?_); go_simp; refine hK _ ?_; clear hK K)
  have HBd : Hid (Below w.heap.size w wd) := Lib.hid (by rw [hwd.out]; exact below_dr1 HB2.out)
  have HSd : Hid (wd.heap[B]? = w2.heap[B]?) := Lib.hid hS
  clear hS hwd
  obtain ⟨w4, e4⟩ : ∃ w4, wd.alloc (.cells #[.string p.name, .string p.evr, .string p.arch, .string p.vendor, .slice (a 0) (p.pkg.n 0) (c 0), .slice (a 1) (p.pkg.n 1) (c 1), .slice (a 2) (p.pkg.n 2) (c 2), .slice (a 3) (p.pkg.n 3) (c 3), .slice (a 4) (p.pkg.n 4) (c 4), .slice (a 5) (p.pkg.n 5) (c 5), .slice (a 6) (p.pkg.n 6) (c 6), .slice af p.pkg.files.length cf] 36) = w4 := ⟨_, rfl⟩
  have HB4 : Hid (Below w.heap.size w w4 ∧ BoxN w4 wd.heap.size [.string p.name, .string p.evr, .string p.arch, .string p.vendor, .slice (a 0) (p.pkg.n 0) (c 0), .slice (a 1) (p.pkg.n 1) (c 1), .slice (a 2) (p.pkg.n 2) (c 2), .slice (a 3) (p.pkg.n 3) (c 3), .slice (a 4) (p.pkg.n 4) (c 4), .slice (a 5) (p.pkg.n 5) (c 5), .slice (a 6) (p.pkg.n 6) (c 6), .slice af p.pkg.files.length cf] 36 ∧ w4.heap[B]? = w2.heap[B]?) := Lib.hid <| by
    rw [← e4]
    have hl : B < wd.heap.size := Nat.lt_of_lt_of_le HBX.out.lt HBd.out.size
    exact ⟨below_tr HBd.out (below1 _ _), boxN_alloc _ _ _, ((below1 wd _).block B hl).trans HSd.out⟩
  refine wpOrd_l rfl (fun K hK => ?_)
  go_simp
  refine hK _ _ ⟨fun _ => HB4.out.2.2, ?_⟩
  clear hK K e4
  have HR4 : Hid (w4.ownsRow L 36 12 (.slice va out.length vc) out.length xs) := Lib.hid (ownsRow_below HROW.out HB4.out.1)
  have HZ4 : Hid (L ≤ w4.heap.size) := Lib.hid (Nat.le_trans hLw HB4.out.1.size)
  refine wpOrd_l rfl (fun K hK => ?_)
  refine wp_append_lies _ (.tmp 21) (.tmp 26) 23 rfl L 36 i34 _ 12 256 Tryz.underlying23 hi34 hz340 hz341 hz342 rfl (by decide) (.slice va out.length vc) out.length xs rfl HR4.out ⟨wd.heap.size, 0, none⟩ 1 1 [.string p.name, .string p.evr, .string p.arch, .string p.vendor, .slice (a 0) (p.pkg.n 0) (c 0), .slice (a 1) (p.pkg.n 1) (c 1), .slice (a 2) (p.pkg.n 2) (c 2), .slice (a 3) (p.pkg.n 3) (c 3), .slice (a 4) (p.pkg.n 4) (c 4), .slice (a 5) (p.pkg.n 5) (c 5), .slice (a 6) (p.pkg.n 6) (c 6), .slice af p.pkg.files.length cf] rfl rfl (World.news_of_block (cs := #[.string p.name, .string p.evr, .string p.arch, .string p.vendor, .slice (a 0) (p.pkg.n 0) (c 0), .slice (a 1) (p.pkg.n 1) (c 1), .slice (a 2) (p.pkg.n 2) (c 2), .slice (a 3) (p.pkg.n 3) (c 3), .slice (a 4) (p.pkg.n 4) (c 4), .slice (a 5) (p.pkg.n 5) (c 5), .slice (a 6) (p.pkg.n 6) (c 6), .slice af p.pkg.files.length cf]) (t := 36) (fr := (0, 0)) HB4.out.2.1) (by intro u hu; simp only [List.mem_cons, List.not_mem_nil, or_false] at hu; rcases hu with rfl | rfl | rfl | rfl | rfl | rfl | rfl | rfl | rfl | rfl | rfl | rfl <;> rfl) (by decide) (by unfold maxLen; omega) (by omega) HZ4.out _ rfl ?_
  intro g9 c9 w9 hown9 hgrow9 hat9 hlt9
  have H9 := Lib.hid (HNX.out w4 w9 g9 c9 HB4.out.1 hown9 hgrow9 hat9)
  clear hown9 hgrow9 hat9 hlt9 HNX
  have HS9 : Hid (w9.heap[B]? = w2.heap[B]?) := Lib.hid (H9.out.1.trans HBX2.out.symm)
  refine hK _ _ ⟨fun _ => HS9.out, ?_⟩
  clear hK K
  refine wpOrd_l rfl (fun K hK => ?_)
  go_simp
  refine hK _ _ ⟨fun _ => HS9.out, ?_⟩
  clear hK K
  refine wpOrd_l rfl (fun K hK => ?_)
  go_simp
  refine hK _ _ ⟨fun _ => HS9.out, ?_⟩
  clear hK K
  have y0 := H9.out.1.cell (j := 0) rfl
  have f0 := H9.out.1.frozen 0
  refine wpOrd_l rfl (fun K hK => ?_)
  go_simp
  refine hK _ _ ⟨fun h => absurd rfl h, ?_⟩
  clear hK K
  refine wpOrd_nil ?_
  obtain ⟨wz, ez⟩ : ∃ wz, w9.setCell ⟨B, 0, none⟩ (.slice (some ⟨g9, 0, none⟩) (out.length + 1) c9) = wz := ⟨_, rfl⟩
  have HZ : Hid (Below L w wz ∧ BoxN wz B (rrdCells (.slice (some ⟨g9, 0, none⟩) (out.length + 1) c9) (pkgCells p.name p.evr p.arch p.vendor (fun i => .slice (a i) (p.pkg.n i) (c i)) (.slice af p.pkg.files.length cf)) true) 52 ∧ OutR X wz L B M (withCur K (fun i => .slice (a i) (p.pkg.n i) (c i)) (.slice af p.pkg.files.length cf)) (out ++ [p.pkg]) (.slice (some ⟨g9, 0, none⟩) (out.length + 1) c9)) := Lib.hid <| by
    rw [← ez]
    exact ⟨H9.out.2.1, H9.out.1.set 0 _, H9.out.2.2⟩
  try rw [ez]
  clear y0 f0 ez
  go_wp2_with fail
  go_ret
  exact ⟨rfl, HZ.out.1, _, HZ.out.2.1, HZ.out.2.2⟩
/-- What the package's end leaves. -/
def WholeR (X : Obj) (w : World) (L B M : Nat) (E : Int) (out : List PkgT) (e : Ending) (w' : World) : Prop :=
  e = .returned (.int .i64 E) ∧ Below L w w' ∧ (E = 0 → ∃ vo K z0 z1 z2 z3 z4 z5 z6 z7 z8 z9 z10 z11 has, BoxN w' B [vo, z0, z1, z2, z3, z4, z5, z6, z7, z8, z9, z10, z11, .bool has] 52 ∧ OutR X w' L B M K out vo)
/-- The reader in memory; no list is longer than n. -/
def RdRt (X : Obj) (w : World) (L B M : Nat) (st : SSt) (n : Nat) : Prop :=
  ∃ K p vo v vf, RdR X w L B M K st.out p st.cur.isSome vo v vf ∧ (∀ q, st.cur = some q → q = p) ∧ (∀ i, (p.L i).length ≤ n) ∧ p.files.length ≤ n ∧ st.out.length ≤ 200
theorem RdRt.below {w w' : World} {L B M : Nat} {st : SSt} {n : Nat} (h : RdRt X w L B M st n) (hb : Below w.heap.size w w') : RdRt X w' L B M st n := by
  obtain ⟨K, p, vo, v, vf, h1, h2⟩ := h
  exact ⟨K, p, vo, v, vf, h1.below hb, h2⟩
theorem RdRt.more {w : World} {L B M : Nat} {st : SSt} {n m : Nat} (h : RdRt X w L B M st n) (hm : n ≤ m) : RdRt X w L B M st m := by
  obtain ⟨K, p, vo, v, vf, h1, h2, h3, h4, h5⟩ := h
  exact ⟨K, p, vo, v, vf, h1, h2, fun i => Nat.le_trans (h3 i) hm, Nat.le_trans h4 hm, h5⟩
theorem RdRt.lt {w : World} {L B M : Nat} {st : SSt} {n : Nat} (h : RdRt X w L B M st n) : L ≤ B ∧ B < w.heap.size := by
  obtain ⟨K, p, vo, v, vf, h1, _⟩ := h
  exact ⟨h1.outs.lB, h1.box.lt⟩
/-- The end of a package. -/
theorem rwhole_c {w : World} {L B M : Nat} {st : SSt} {n : Nat} (h : RdRt X w L B M st n) (hn : n ≤ 1000000) : Calls Tryz.prog 26 #[.pointer (some ⟨B, 0, none⟩)] w (WholeR X w L B M (wholeS st).2 (wholeS st).1) := by
  obtain ⟨K, p, vo, v, vf, h1, h2, h3, h4, h5⟩ := h
  obtain ⟨out, cur⟩ := st
  cases cur with
  | none =>
    have h1 : RdR X w L B M K out p false vo v vf := h1
    refine (rwhole_no B _ w h1.box rfl).mono ?_
    rintro e w' ⟨rfl, rfl⟩
    exact ⟨rfl, Below.refl _ _, fun _ => ⟨vo, K, _, _, _, _, _, _, _, _, _, _, _, _, _, h1.box, h1.outs⟩⟩
  | some q =>
    obtain rfl : q = p := h2 q rfl
    have h1 : RdR X w L B M K out q true vo v vf := h1
    have hw := whole_some (st := ⟨out, some q⟩) rfl
    rw [hw]
    by_cases hc : pkgCheck q.pkg = 0
    · rw [if_pos hc]
      refine (rwhole_ok L B M K out q vo v vf w h1 (fun i => Nat.le_trans (h3 i) hn) (Nat.le_trans h4 hn) (by have : out.length ≤ 200 := h5; omega) hc).mono ?_
      rintro e w' ⟨rfl, hb, vo', hbx, ho⟩
      exact ⟨rfl, hb, fun _ => ⟨vo', _, _, _, _, _, _, _, _, _, _, _, _, _, _, hbx, ho⟩⟩
    · rw [if_neg hc]
      refine (rwhole_bad L B M K out q vo v vf w h1 (fun i => Nat.le_trans (h3 i) hn) (Nat.le_trans h4 hn) hc).mono ?_
      rintro e w' ⟨rfl, hb⟩
      exact ⟨rfl, below_to hb (by have := h1.outs.lB; have := h1.box.lt; omega), fun h => absurd h hc⟩
/-- What a step of the reader answers. -/
def StepR (X : Obj) (w : World) (L B M : Nat) (r : SRes) (n : Nat) (e : Ending) (w' : World) : Prop :=
  Below L w w' ∧ match r with
    | .err x => e = .returned (.int .i64 x)
    | .ok st => e = .returned (.int .i64 0) ∧ RdRt X w' L B M st n
end Go.Proofs.YtjcefgjgjhdbpaaGreatDoor
