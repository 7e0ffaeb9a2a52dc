/-
  A value is taken: a row of the package that is read grows. Helper text; the conditions are those typed.
  A value is taken: a file. Helper text; the conditions are those typed.
  A value is taken: a dependency of a list. Helper text; the conditions are those typed.
-/
import Derived.Test.YtjcefgjgjhdbpaaGreatDoorPutB
import Derived.Test.YtjcefgjgjhdbpaaGreatDoorOrd3
import Derived.Test.YtjcefgjgjhdbpaaGreatDoorPackA
namespace Go.Proofs.YtjcefgjgjhdbpaaGreatDoor
set_option linter.unusedVariables false
set_option linter.unusedSimpArgs false
open Go.RowKit Go.Maps

theorem OutO.grow {w w' : World} {L B M : Nat} {K K' : Nat → Prop} {out : List PkgT} {vo : Value} (h : OutO w L B M K out vo) (hBl : B < w.heap.size) (hK : ∀ b, K b → K' b) (hn : ∀ b, K' b → K b ∨ (w.heap.size ≤ b ∧ New L w' b))
    (hk : ∀ b, b < w.heap.size → (b = M ∨ K b ∨ vo.ownBlock = some b) → w'.heap[b]? = w.heap[b]?) : OutO w' L B M K' out vo := by
  have h2 := h.keep hk
  obtain ⟨F, hm, _⟩ := h.map
  have hMl := hm.lt
  obtain ⟨xs, hr, hx⟩ := h.row
  refine ⟨h2.lB, h2.lM, h2.map, ?_, fun b hb => ?_, h.bm, h.vB, h.vM, fun hb => ?_, fun hb => ?_, fun b hb e => ?_⟩
  · obtain ⟨ys, h3, h4⟩ := h2.row
    refine ⟨ys, h3, fun j hj => ?_⟩
    obtain ⟨v, vf, h5, h6⟩ := h4 j hj
    exact ⟨v, vf, h5.keep hK (fun _ _ _ => rfl), h6⟩
  · rcases hn b hb with h1 | h1
    · exact h2.fresh b h1
    · exact h1.2
  · rcases hn B hb with h1 | h1
    · exact h.kB h1
    · omega
  · rcases hn M hb with h1 | h1
    · exact h.kM h1
    · omega
  · rcases hn b hb with h1 | h1
    · exact h.kv b h1 e
    · have := (hr.lt b e).2
      omega
theorem OutO.ownlt {w : World} {L B M : Nat} {K : Nat → Prop} {out : List PkgT} {vo : Value} (h : OutO w L B M K out vo) {x : Nat} (hx : vo.ownBlock = some x) : x < w.heap.size := by
  obtain ⟨xs, hr, _⟩ := h.row
  exact (hr.lt x hx).2
theorem OutO.maplt {w : World} {L B M : Nat} {K : Nat → Prop} {out : List PkgT} {vo : Value} (h : OutO w L B M K out vo) : M < w.heap.size := by
  obtain ⟨F, hm, _⟩ := h.map
  exact hm.lt
/-- Where the row that grew lies. -/
def Grew (w : World) (K' : Nat → Prop) (old : Value) (g : Nat) : Prop := old.ownBlock = some g ∨ (w.heap.size ≤ g ∧ ¬ K' g)
/-- The rows' values, one of them another. -/
def putV (v : Fin 7 → Value) (i : Fin 7) (x : Value) : Fin 7 → Value := fun k => if k = i then x else v k
theorem putV_same (v : Fin 7 → Value) (i : Fin 7) (x : Value) : putV v i x i = x := if_pos rfl
theorem putV_ne (v : Fin 7 → Value) {i k : Fin 7} (x : Value) (h : k ≠ i) : putV v i x k = v k := if_neg h
theorem box_put (vo M : Value) (nm ev ar ve : ByteArray) (v : Fin 7 → Value) (vf x hb : Value) (i : Fin 7) : ((vo :: (pkgCells nm ev ar ve v vf ++ [hb, M])).set (5 + i.val) x) = vo :: (pkgCells nm ev ar ve (putV v i x) vf ++ [hb, M]) := by
  match i with
  | 0 => rfl
  | 1 => rfl
  | 2 => rfl
  | 3 => rfl
  | 4 => rfl
  | 5 => rfl
  | 6 => rfl
theorem box_at (vo M : Value) (nm ev ar ve : ByteArray) (v : Fin 7 → Value) (vf hb : Value) (i : Fin 7) : (vo :: (pkgCells nm ev ar ve v vf ++ [hb, M]))[5 + i.val]? = some (v i) := by
  match i with
  | 0 => rfl
  | 1 => rfl
  | 2 => rfl
  | 3 => rfl
  | 4 => rfl
  | 5 => rfl
  | 6 => rfl
theorem add_L (p : SP) (i : Fin 7) (d : DepT) : (p.add i d).L i = p.L i ++ [d] := if_pos rfl
theorem add_Lne (p : SP) {i k : Fin 7} (d : DepT) (h : k ≠ i) : (p.add i d).L k = p.L k := if_neg h
/-- A list grows. -/
theorem CurO.addDep {w w' : World} {L B M : Nat} {K K' : Nat → Prop} {out : List PkgT} {vo : Value} {p : SP} {v : Fin 7 → Value} {vf : Value} (h : CurO w L B M K vo p v vf) (ho : OutO w L B M K out vo) (hBl : B < w.heap.size) (hK : ∀ b, K b → K' b) (hn : ∀ b, K' b → K b ∨ w.heap.size ≤ b)
    (i : Fin 7) (d : DepT) {cs xs : List Value} (hd : DepC w' K' d cs) {g cap : Nat} (hrow : w.ownsRow L 73 5 (v i) (p.L i).length xs) (hhas : ∀ j (h : j < (p.L i).length), ∃ cs, DepC w K (p.L i)[j] cs ∧ ∀ r u, cs[r]? = some u → xs[j * 5 + r]? = some u)
    (hown : w'.ownsRow L 73 5 (.slice (some ⟨g, 0, none⟩) ((p.L i).length + 1) cap) ((p.L i).length + 1) (xs ++ cs)) (hg : Grew w K' (v i) g)
    (hk : ∀ b, b < w.heap.size → b ≠ B → (v i).ownBlock ≠ some b → w'.heap[b]? = w.heap[b]?) :
    CurO w' L B M K' vo (p.add i d) (putV v i (.slice (some ⟨g, 0, none⟩) ((p.L i).length + 1) cap)) vf := by
  have hi : ∀ x, (v i).ownBlock = some x → x ≠ B ∧ x ≠ M ∧ vo.ownBlock ≠ some x ∧ ¬ K x := fun x hx => h.away (some i) x hx
  have hkK : ∀ b, K b → w'.heap[b]? = w.heap[b]? := fun b hb => hk b (ho.fresh b hb).2.lt (fun e => ho.kB (e ▸ hb)) (fun e => (hi b e).2.2.2 hb)
  have hkr : ∀ r b, r ≠ some i → rbk v vf r = some b → w'.heap[b]? = w.heap[b]? := fun r b hr hb => hk b (h.rlt hb).2 (h.away r b hb).1 (fun e => h.apart (some i) r (Ne.symm hr) b e hb)
  have hnew : ∀ s b, s ≠ some i → rbk v vf s = some b → g ≠ b := fun s b hs hb e => by
    subst e
    rcases hg with h1 | h1
    · exact h.apart (some i) s (Ne.symm hs) g h1 hb
    · have := (h.rlt hb).2
      omega
  have hlen : xs.length = (p.L i).length * 5 := hrow.1
  have key : ∀ s x, rbk (putV v i (.slice (some ⟨g, 0, none⟩) ((p.L i).length + 1) cap)) vf s = some x → (s = some i ∧ x = g) ∨ (s ≠ some i ∧ rbk v vf s = some x) := by
    intro s x hx
    cases s with
    | none => exact .inr ⟨by simp, hx⟩
    | some k =>
      by_cases e : k = i
      · subst e
        have hx : (putV v k (.slice (some ⟨g, 0, none⟩) ((p.L k).length + 1) cap) k).ownBlock = some x := hx
        rw [putV_same] at hx
        exact .inl ⟨rfl, (Option.some.inj hx).symm⟩
      · have hx : (putV v i (.slice (some ⟨g, 0, none⟩) ((p.L i).length + 1) cap) k).ownBlock = some x := hx
        have e3 := putV_ne v (.slice (some ⟨g, 0, none⟩) ((p.L i).length + 1) cap) e
        exact .inr ⟨fun e2 => e (Option.some.inj e2), (congrArg Value.ownBlock e3).symm.trans hx⟩
  refine ⟨h.name, h.evr, h.arch, h.vendor, h.texts, fun k => ?_, ownsRow_to h.files fun b hb => hkr none b (by simp) hb, fun r s hrs x hx hy => ?_, fun r x hx => ?_⟩
  · by_cases e : k = i
    · subst e
      rw [putV_same, add_L]
      refine ⟨xs ++ cs, by rw [List.length_append, List.length_singleton]; exact hown, fun j hj => ?_⟩
      rw [List.length_append, List.length_singleton] at hj
      by_cases e2 : j = (p.L k).length
      · subst e2
        refine ⟨cs, by simpa using hd, fun r u hu => ?_⟩
        rw [List.getElem?_append_right (by omega), hlen, show (p.L k).length * 5 + r - (p.L k).length * 5 = r by omega]
        exact hu
      · have hj' : j < (p.L k).length := by omega
        obtain ⟨cs2, h1, h2⟩ := hhas j hj'
        refine ⟨cs2, ?_, fun r u hu => ?_⟩
        · rw [List.getElem_append_left hj']
          exact h1.keep hK (fun b hb _ => hkK b hb) (fun _ _ => trivial)
        · have h3 := h2 r u hu
          have := (List.getElem?_eq_some_iff.1 h3).1
          rw [List.getElem?_append_left this]
          exact h3
    · rw [putV_ne _ _ e, add_Lne _ _ e]
      obtain ⟨ys, h1, h2⟩ := h.rows k
      refine ⟨ys, ownsRow_to h1 fun b hb => hkr (some k) b (fun e2 => e (Option.some.inj e2)) hb, fun j hj => ?_⟩
      obtain ⟨cs2, h3, h4⟩ := h2 j hj
      exact ⟨cs2, h3.keep hK (fun b hb _ => hkK b hb) (fun _ _ => trivial), h4⟩
  · rcases key r x hx with ⟨h1, h2⟩ | ⟨h1, h2⟩ <;> rcases key s x hy with ⟨h3, h4⟩ | ⟨h3, h4⟩
    · exact hrs (h1.trans h3.symm)
    · exact hnew s x h3 h4 h2.symm
    · exact hnew r x h1 h2 h4.symm
    · exact h.apart r s hrs x h2 h4
  · rcases key r x hx with ⟨h1, rfl⟩ | ⟨h1, h2⟩
    · rcases hg with h3 | h3
      · obtain ⟨a1, a2, a3, a4⟩ := hi x h3
        refine ⟨a1, a2, a3, fun hb => ?_⟩
        rcases hn x hb with h5 | h5
        · exact a4 h5
        · have := (h.rlt (r := some i) h3).2
          omega
      · refine ⟨by omega, by have := ho.maplt; omega, fun e => ?_, h3.2⟩
        have := ho.ownlt e
        omega
    · obtain ⟨a1, a2, a3, a4⟩ := h.away r x h2
      refine ⟨a1, a2, a3, fun hb => ?_⟩
      rcases hn x hb with h5 | h5
      · exact a4 h5
      · have := (h.rlt h2).2
        omega
/-- The files grow. -/
theorem CurO.addFile {w w' : World} {L B M : Nat} {K : Nat → Prop} {out : List PkgT} {vo : Value} {p : SP} {v : Fin 7 → Value} {vf : Value} (h : CurO w L B M K vo p v vf) (ho : OutO w L B M K out vo) (hBl : B < w.heap.size)
    (t : ByteArray) (ht : t.size ≤ maxLen) {g cap : Nat} (hown : w'.ownsRow L 9 1 (.slice (some ⟨g, 0, none⟩) (p.files.length + 1) cap) (p.files.length + 1) (p.files.map .string ++ [.string t])) (hg : Grew w K vf g)
    (hk : ∀ b, b < w.heap.size → b ≠ B → vf.ownBlock ≠ some b → w'.heap[b]? = w.heap[b]?) :
    CurO w' L B M K vo { p with files := p.files ++ [t] } v (.slice (some ⟨g, 0, none⟩) (p.files.length + 1) cap) := by
  have hi : ∀ x, vf.ownBlock = some x → x ≠ B ∧ x ≠ M ∧ vo.ownBlock ≠ some x ∧ ¬ K x := fun x hx => h.away none x hx
  have hkK : ∀ b, K b → w'.heap[b]? = w.heap[b]? := fun b hb => hk b (ho.fresh b hb).2.lt (fun e => ho.kB (e ▸ hb)) (fun e => (hi b e).2.2.2 hb)
  have hkr : ∀ k b, (v k).ownBlock = some b → w'.heap[b]? = w.heap[b]? := fun k b hb => hk b (h.rlt (r := some k) hb).2 (h.away (some k) b hb).1 (fun e => h.apart none (some k) (by simp) b e hb)
  have hnew : ∀ k b, (v k).ownBlock = some b → g ≠ b := fun k b hb e => by
    subst e
    rcases hg with h1 | h1
    · exact h.apart none (some k) (by simp) g h1 hb
    · have := (h.rlt (r := some k) hb).2
      omega
  refine ⟨h.name, h.evr, h.arch, h.vendor, fun s hs => ?_, fun k => ?_, ?_, fun r s hrs x hx hy => ?_, fun r x hx => ?_⟩
  · rcases List.mem_append.1 hs with hs | hs
    · exact h.texts s hs
    · rw [List.mem_singleton] at hs
      rw [hs]; exact ht
  · obtain ⟨ys, h1, h2⟩ := h.rows k
    refine ⟨ys, ownsRow_to h1 fun b hb => hkr k b hb, fun j hj => ?_⟩
    obtain ⟨cs2, h3, h4⟩ := h2 j hj
    exact ⟨cs2, h3.keep (fun _ hb => hb) (fun b hb _ => hkK b hb) (fun _ _ => trivial), h4⟩
  · show w'.ownsRow L 9 1 _ (p.files ++ [t]).length ((p.files ++ [t]).map .string)
    rw [List.length_append, List.length_singleton, List.map_append, List.map_singleton]
    exact hown
  · cases r with
    | none =>
      cases s with
      | none => exact hrs rfl
      | some k => exact hnew k x hy (Option.some.inj hx)
    | some j =>
      cases s with
      | none => exact hnew j x hx (Option.some.inj hy)
      | some k => exact h.apart (some j) (some k) hrs x hx hy
  · cases r with
    | none =>
      obtain rfl : g = x := Option.some.inj hx
      rcases hg with h3 | h3
      · exact hi g h3
      · refine ⟨by omega, by have := ho.maplt; omega, fun e => ?_, h3.2⟩
        have := ho.ownlt e
        omega
    | some k => exact h.away (some k) x hx
end Go.Proofs.YtjcefgjgjhdbpaaGreatDoor
namespace Go.Proofs.YtjcefgjgjhdbpaaGreatDoor
set_option linter.unusedVariables false
set_option linter.unusedSimpArgs false
open Go.RowKit Go.Maps

theorem info9q : (Tryz.prog.info? 9).map (fun i => (i.zero, i.size, i.bytes)) = some (some (.string ⟨#[]⟩), 1, 16) := by kernel_rfl
theorem info63p : (Tryz.prog.info? 73).map (fun i => (i.zero, i.size, i.bytes)) = some (some (.agg #[.int .i64 0, .string ⟨#[]⟩, .int .i64 0, .string ⟨#[]⟩, .slice none 0 0]), 5, 72) := by kernel_rfl
theorem trimT_len (l : List UInt8) : (trimT l).length ≤ l.length := by
  unfold trimT
  refine Nat.le_trans (List.dropWhile_sublist _).length_le ?_
  rw [List.length_reverse]
  exact Nat.le_trans (List.dropWhile_sublist _).length_le (by rw [List.length_reverse]; exact Nat.le_refl _)
theorem size_mkB' (w : Wd) : (mkB w).size = w.length := rfl
/-- A row that grows, and its place in the reader's box. -/
theorem grow_step {w w6 w9 : World} {L B : Nat} {old : Value} (hBl : L ≤ B ∧ B < w.heap.size) (hb : Below w.heap.size w w6) (hold : ∀ b, old.ownBlock = some b → L ≤ b ∧ b ≠ B) (hg : w6.grownBy w9 old.ownBlock) (o : Nat) (x : Value) :
    (∀ b, b < w.heap.size → b ≠ B → old.ownBlock ≠ some b → (w9.setCell ⟨B, o, none⟩ x).heap[b]? = w.heap[b]?) ∧ Below L w (w9.setCell ⟨B, o, none⟩ x) ∧ w9.heap[B]? = w.heap[B]? := by
  have hs := hb.size
  have k1 : ∀ b, b < w.heap.size → old.ownBlock ≠ some b → w9.heap[b]? = w.heap[b]? := fun b hl hn => (hg.block b (Nat.lt_of_lt_of_le hl hs) (fun e => hn e.symm)).trans (hb.block b hl)
  refine ⟨fun b hl hn ho => (set_other _ hn).trans (k1 b hl ho), ⟨hg.os.trans hb.os, hg.tape.trans hb.tape, hg.output.trans hb.output, by rw [set_size]; exact Nat.le_trans hs hg.size, fun b hl => ?_⟩, k1 B hBl.2 (fun e => (hold B e).2 rfl)⟩
  exact (set_other _ (by omega)).trans (k1 b (by omega) (fun e => by have := (hold b e).1; omega))
set_option maxHeartbeats 4000000 in
set_option maxRecDepth 100000 in
theorem put_fls (L B M : Nat) (K : Nat → Prop) (out : List PkgT) (p : SP) (vo : Value) (v : Fin 7 → Value) (vf : Value) (x : ByteArray) (hx : x.size ≤ maxLen) (hnf : p.files.length ≤ 1000000) (w : World) (h : Rdr w L B M K out p true vo v vf) :
    Calls Tryz.prog 19 #[.pointer (some ⟨B, 0, none⟩), .string ⟨#[70, 108, 115]⟩, .string x] w fun e w' => e = .returned (.int .i64 0) ∧ Below L w w' ∧ ∃ vf', Rdr w' L B M K out { p with files := p.files ++ [mkB (trimT (bs x))] } true vo v vf' := by
  have hl := look_c h.outs ⟨#[70, 108, 115]⟩ (by decide)
  have ht : (tagFn ⟨#[70, 108, 115]⟩).getD Value.nilFunc = .nilFunc := rfl
  rw [ht] at hl
  have hrow := h.cur.files
  obtain ⟨va, vc, rfl⟩ := ownsRow_slice hrow
  have c14 := h.box.cell (j := 14) rfl
  have hBl := h.box.lt
  have hLw : L ≤ w.heap.size := Nat.le_trans h.outs.lB (Nat.le_of_lt hBl)
  have HC := Lib.hid (fun W => trim_c x hx W)
  have hy : (mkB (trimT (bs x))).size ≤ maxLen := by
    rw [size_mkB']
    have h1 := trimT_len (bs x)
    rw [bs_len] at h1
    omega
  generalize mkB (trimT (bs x)) = y at HC hy ⊢
  have HNX : Hid (∀ w6 w9 : World, ∀ g c : Nat, Below w.heap.size w w6 → w9.ownsRow L 9 1 (.slice (some ⟨g, 0, none⟩) (p.files.length + 1) c) (p.files.length + 1) (p.files.map .string ++ [.string y]) → w6.grownBy w9 (Value.slice va p.files.length vc).ownBlock → ((Value.slice va p.files.length vc).ownBlock = some g ∨ g = w6.heap.size) →
      w9.heap[B]? = w.heap[B]? ∧ Below L w (w9.setCell ⟨B, 12, none⟩ (.slice (some ⟨g, 0, none⟩) (p.files.length + 1) c)) ∧ Rdr (w9.setCell ⟨B, 12, none⟩ (.slice (some ⟨g, 0, none⟩) (p.files.length + 1) c)) L B M K out { p with files := p.files ++ [y] } true vo v (.slice (some ⟨g, 0, none⟩) (p.files.length + 1) c)) := Lib.hid fun w6 w9 g c hb hown hg hat => by
    obtain ⟨k1, k2, k3⟩ := grow_step ⟨h.outs.lB, hBl⟩ hb (fun b e => ⟨(hrow.lt b e).1, (h.cur.away none b e).1⟩) hg 12 (.slice (some ⟨g, 0, none⟩) (p.files.length + 1) c)
    have hgw : Grew w K (.slice va p.files.length vc) g := by
      rcases hat with h1 | h1
      · exact .inl h1
      · have := hb.size
        exact .inr ⟨by omega, fun hk => by have := (h.outs.fresh g hk).2.lt; omega⟩
    have hgB : g ≠ B := by
      rcases hgw with h1 | h1
      · exact (h.cur.away none g h1).1
      · omega
    have hcur := h.cur.addFile (w' := w9.setCell ⟨B, 12, none⟩ (.slice (some ⟨g, 0, none⟩) (p.files.length + 1) c)) h.outs hBl y hy (ownsRow_to hown (fun b hb => set_other _ (by have h3 : g = b := Option.some.inj hb; omega))) hgw k1
    refine ⟨k3, k2, (h.box.to k3).set 12 _, h.outs.grow hBl (fun _ hb => hb) (fun b hb => .inl hb) (fun b hl hb' => k1 b hl (fun e => ?_) (fun e => ?_)), hcur⟩
    · subst e
      rcases hb' with e | e | e
      · exact h.outs.bm e
      · exact h.outs.kB e
      · exact h.outs.vB e
    · obtain ⟨_, a2, a3, a4⟩ := h.cur.away none b e
      rcases hb' with e | e | e
      · exact a2 e
      · exact a4 e
      · exact a3 e
  have HROW := Lib.hid hrow
  have HB := Lib.hid h.box
  have HSW : Hid (∀ W : World, W.heap[B]? = w.heap[B]? → W.cell? ⟨B, 12, none⟩ = some (.slice va p.files.length vc) ∧ W.frozen? ⟨B, 12, none⟩ = false) := Lib.hid fun W hW => ⟨(HB.out.to hW).cell (j := 12) rfl, (HB.out.to hW).frozen 12⟩
  obtain ⟨i0, hi9, hz90, hz91, hz92⟩ := info_parts info9q
  clear h ht hrow hy
  generalize p.files.length = n at *
  generalize p.files.map Value.string = xs at *
  go_enter Tryz.func19, Tryz.ntmps19
  go_upto_region 5 with fail
  refine wp_region_ord (fun W => W.heap[B]? = w.heap[B]?) 13 [(true, 0), (true, 1), (true, 2), (true, 3), (true, 4), (true, 5), (true, 6), (false, 7), (false, 8), (false, 9), (false, 10), (false, 11), (false, 12), (false, 13)] (by kernel_rfl) (by kernel_rfl) (fun _ _ d _ _ h => by cases d <;> exact h) rfl ?_
  intro wd hwd hS
  simp only [ordOps, List.map_cons, List.map_nil, Array.getD_eq_getD_getElem?, List.getElem?_toArray, List.getElem?_cons_succ, List.getElem?_cons_zero, Option.getD_some]
  iterate 7 (refine wpOrd_q rfl _ (fun w' hS' K hK => (by obtain ⟨x0, _⟩ := HSW.out w' hS'; clear hS'; go_simp; exact hK)) (fun K hK => ?_); go_simp; refine hK _ ?_; clear hK K)
  have HBd : Hid (Below w.heap.size w wd) := Lib.hid (by rw [hwd.out]; exact below_dr1 (Below.refl _ _))
  clear hS hwd
  refine wpOrd_l rfl (fun K hK => ?_)
  go_simp
  refine (HC.out wd).mono ?_
  rintro e w5 ⟨rfl, hb5⟩
  have HB5 : Hid (Below w.heap.size w w5) := Lib.hid (below_tr HBd.out hb5)
  clear hb5
  go_simp
  refine hK _ _ ⟨fun _ => HB5.out.block B hBl, ?_⟩
  clear hK K
  obtain ⟨w6, e6⟩ : ∃ w6, w5.alloc (.cells #[.string y] 9) = w6 := ⟨_, rfl⟩
  have HB6 : Hid (Below w.heap.size w w6 ∧ BoxN w6 w5.heap.size [.string y] 9) := Lib.hid <| by
    rw [← e6]
    exact ⟨below_tr HB5.out (below1 _ _), boxN_alloc _ _ _⟩
  refine wpOrd_l rfl (fun K hK => ?_)
  go_simp
  refine hK _ _ ⟨fun _ => HB6.out.1.block B hBl, ?_⟩
  clear hK K e6
  refine wpOrd_l rfl (fun K hK => ?_)
  refine wp_append_lies _ (.tmp 32) (.tmp 35) 34 rfl L 9 i0 (.string ⟨#[]⟩) 1 16 Tryz.underlying34 hi9 hz90 hz91 hz92 rfl (by decide) (.slice va n vc) n xs rfl (ownsRow_below HROW.out HB6.out.1) ⟨w5.heap.size, 0, none⟩ 1 1 [.string y] rfl rfl (World.news_of_block (cs := #[.string y]) (t := 9) (fr := (0, 0)) HB6.out.2) (by intro u hu; simp only [List.mem_cons, List.not_mem_nil, or_false] at hu; rw [hu]; rfl) (by decide) (by unfold maxLen; omega) (by omega) (Nat.le_trans hLw HB6.out.1.size) _ rfl ?_
  intro g9 c9 w9 hown9 hgrow9 hat9 hlt9
  have H9 := Lib.hid (HNX.out w6 w9 g9 c9 HB6.out.1 hown9 hgrow9 hat9)
  clear hown9 hgrow9 hat9 hlt9 HNX
  refine hK _ _ ⟨fun _ => H9.out.1, ?_⟩
  clear hK K
  refine wpOrd_l rfl (fun K hK => ?_)
  go_simp
  refine hK _ _ ⟨fun _ => H9.out.1, ?_⟩
  clear hK K
  refine wpOrd_l rfl (fun K hK => ?_)
  go_simp
  refine hK _ _ ⟨fun _ => H9.out.1, ?_⟩
  clear hK K
  refine wpOrd_l rfl (fun K hK => ?_)
  go_simp
  refine hK _ _ ⟨fun _ => H9.out.1, ?_⟩
  clear hK K
  obtain ⟨y0, f0⟩ := HSW.out w9 H9.out.1
  refine wpOrd_l rfl (fun K hK => ?_)
  go_simp
  refine hK _ _ ⟨fun h => absurd rfl h, ?_⟩
  clear hK K y0 f0
  refine wpOrd_nil ?_
  go_wp2_with fail
  go_ret
  exact ⟨rfl, H9.out.2.1, _, H9.out.2.2⟩
end Go.Proofs.YtjcefgjgjhdbpaaGreatDoor
namespace Go.Proofs.YtjcefgjgjhdbpaaGreatDoor
set_option linter.unusedVariables false
set_option linter.unusedSimpArgs false
open Go.RowKit Go.Maps

theorem list_ne {t : Wd} {i : Fin 7} (h : listOf t = some i) : t ≠ vndW ∧ t ≠ flsW ∧ t ≠ pkgW := by
  refine ⟨fun e => ?_, fun e => ?_, fun e => ?_⟩ <;> · subst e; revert h; revert i; decide
theorem lit_ne {t : ByteArray} {l : Wd} (h : bs t ≠ l) : (t.toList == l) = false := by
  rw [Lib.toList_data]
  show (bs t == l) = false
  simpa using h
set_option maxHeartbeats 1000000 in
set_option maxRecDepth 100000 in
theorem put_bad (L B M : Nat) (K : Nat → Prop) (out : List PkgT) (p : SP) (vo : Value) (v : Fin 7 → Value) (vf : Value) (i : Fin 7) (t x : ByteArray) (ht : t.size ≤ maxLen) (hti : listOf (bs t) = some i) (hx : x.size ≤ 1099511627776) (hd : (depParse x).2 ≠ 0) (w : World) (h : Rdr w L B M K out p true vo v vf) :
    Calls Tryz.prog 19 #[.pointer (some ⟨B, 0, none⟩), .string t, .string x] w fun e w' => e = .returned (.int .i64 130) ∧ Below w.heap.size w w' := by
  have hl := look_c h.outs t ht
  have hn : (tagFn t).getD Value.nilFunc = .func (.func (36 + i.val)) #[] #[] := by
    unfold tagFn
    rw [hti]
    rfl
  rw [hn] at hl
  obtain ⟨n1, n2, _⟩ := list_ne hti
  have e1 := lit_ne (t := t) (l := [86, 110, 100]) n1
  have e2 := lit_ne (t := t) (l := [70, 108, 115]) n2
  have c14 := h.box.cell (j := 14) rfl
  have HC := Lib.hid (depParse_c x hx w)
  generalize depParse x = r at HC hd
  obtain ⟨d, q⟩ := r
  have hd : q ≠ 0 := hd
  have q1 : (q == 0) = false := by simpa using hd
  have q2 : (q != 0) = true := by simpa using hd
  clear h n1 n2 hn hti
  generalize 36 + i.val = fn at hl
  have hbn : ∀ w, (binOp .neq 70 (.func (.func fn) #[] #[]) .nilFunc).run Tryz.prog w = .ok (.bool true) w := fun w => rfl
  go_enter Tryz.func19, Tryz.ntmps19
  go_wp2_with fail
  refine HC.out.mono ?_
  rintro e w7 ⟨⟨k, nm, op, ev, a, n, c, rfl, hdc⟩, hb7⟩
  have HB7 := Lib.hid hb7
  clear hdc hb7 HC
  go_wp2_with fail
  go_ret
  exact ⟨rfl, below_tr HB7.out (below1 _ _)⟩
set_option maxRecDepth 100000 in
theorem call_place (i : Fin 7) (a : Array Value) (w : World) : (callFunc (36 + i.val) a).run Tryz.prog w = .ok (.enter (36 + i.val) a) w := by
  match i with
  | 0 =>
    show (callFunc 36 a).run Tryz.prog w = .ok (.enter 36 a) w
    simp [callFunc, go_sem, Tryz.func36, Tryz.f36]
  | 1 =>
    show (callFunc 37 a).run Tryz.prog w = .ok (.enter 37 a) w
    simp [callFunc, go_sem, Tryz.func37, Tryz.f37]
  | 2 =>
    show (callFunc 38 a).run Tryz.prog w = .ok (.enter 38 a) w
    simp [callFunc, go_sem, Tryz.func38, Tryz.f38]
  | 3 =>
    show (callFunc 39 a).run Tryz.prog w = .ok (.enter 39 a) w
    simp [callFunc, go_sem, Tryz.func39, Tryz.f39]
  | 4 =>
    show (callFunc 40 a).run Tryz.prog w = .ok (.enter 40 a) w
    simp [callFunc, go_sem, Tryz.func40, Tryz.f40]
  | 5 =>
    show (callFunc 41 a).run Tryz.prog w = .ok (.enter 41 a) w
    simp [callFunc, go_sem, Tryz.func41, Tryz.f41]
  | 6 =>
    show (callFunc 42 a).run Tryz.prog w = .ok (.enter 42 a) w
    simp [callFunc, go_sem, Tryz.func42, Tryz.f42]
set_option maxHeartbeats 4000000 in
set_option maxRecDepth 100000 in
theorem put_one (L B M : Nat) (K : Nat → Prop) (out : List PkgT) (p : SP) (vo : Value) (v : Fin 7 → Value) (vf : Value) (i : Fin 7) (t x : ByteArray) (ht : t.size ≤ maxLen) (hti : listOf (bs t) = some i) (hx : x.size ≤ 1099511627776) (d : DepT) (hd : depParse x = (d, 0)) (hn : (p.L i).length ≤ 1000000) (w : World) (h : Rdr w L B M K out p true vo v vf) :
    Calls Tryz.prog 19 #[.pointer (some ⟨B, 0, none⟩), .string t, .string x] w fun e w' => e = .returned (.int .i64 0) ∧ Below L w w' ∧ ∃ K' v', Rdr w' L B M K' out (p.add i d) true vo v' vf := by
  have hl := look_c h.outs t ht
  have hnn : (tagFn t).getD Value.nilFunc = .func (.func (36 + i.val)) #[] #[] := by
    unfold tagFn
    rw [hti]
    rfl
  rw [hnn] at hl
  obtain ⟨n1, n2, _⟩ := list_ne hti
  have e1 := lit_ne (t := t) (l := [86, 110, 100]) n1
  have e2 := lit_ne (t := t) (l := [70, 108, 115]) n2
  obtain ⟨xs, hrow, hhas⟩ := h.cur.rows i
  obtain ⟨va, vc, hva⟩ := ownsRow_slice hrow
  have c14 := h.box.cell (j := 14) rfl
  have hBl := h.box.lt
  have hLw : L ≤ w.heap.size := Nat.le_trans h.outs.lB (Nat.le_of_lt hBl)
  have HC := Lib.hid (depParse_c x hx w)
  rw [hd] at HC
  have hlen := hrow.1
  have HNX : Hid (∀ w7 w8 w9 : World, ∀ g c : Nat, ∀ cs : List Value, Below w.heap.size w w7 → Below w7.heap.size w7 w8 → DepC w7 (New w.heap.size w7) d cs → w9.ownsRow L 73 5 (.slice (some ⟨g, 0, none⟩) ((p.L i).length + 1) c) ((p.L i).length + 1) (xs ++ cs) → w8.grownBy w9 (v i).ownBlock → ((v i).ownBlock = some g ∨ g = w8.heap.size) →
      w9.heap[B]? = w.heap[B]? ∧ Below L w (w9.setCell ⟨B, 5 + i.val, none⟩ (.slice (some ⟨g, 0, none⟩) ((p.L i).length + 1) c)) ∧ ∃ K' v', Rdr (w9.setCell ⟨B, 5 + i.val, none⟩ (.slice (some ⟨g, 0, none⟩) ((p.L i).length + 1) c)) L B M K' out (p.add i d) true vo v' vf) := Lib.hid fun w7 w8 w9 g c cs hb7 hb8 hdc hown hg hat => by
    have hb := below_tr hb7 hb8
    obtain ⟨k1, k2, k3⟩ := grow_step ⟨h.outs.lB, hBl⟩ hb (fun b e => ⟨(hrow.lt b e).1, (h.cur.away (some i) b e).1⟩) hg (5 + i.val) (.slice (some ⟨g, 0, none⟩) ((p.L i).length + 1) c)
    have z7 := hb7.size
    have z8 := hb8.size
    have hgw : Grew w (fun b => K b ∨ New w.heap.size w7 b) (v i) g := by
      rcases hat with h1 | h1
      · exact .inl h1
      · refine .inr ⟨by omega, fun hk => ?_⟩
        rcases hk with hk | hk
        · have := (h.outs.fresh g hk).2.lt
          omega
        · have := hk.2.lt
          omega
    have hgB : g ≠ B := by
      rcases hgw with h1 | h1
      · exact (h.cur.away (some i) g h1).1
      · omega
    have hnb : ∀ b, New w.heap.size w7 b → (w9.setCell ⟨B, 5 + i.val, none⟩ (.slice (some ⟨g, 0, none⟩) ((p.L i).length + 1) c)).heap[b]? = w7.heap[b]? := fun b hb' => by
      have h1 := hb'.1
      have h2 := hb'.2.lt
      rw [set_other _ (by omega), hg.block b (by omega) (fun e => by have := (hrow.lt b e.symm).2; omega), hb8.block b h2]
    have hcur := h.cur.addDep (w' := w9.setCell ⟨B, 5 + i.val, none⟩ (.slice (some ⟨g, 0, none⟩) ((p.L i).length + 1) c)) (K' := fun b => K b ∨ New w.heap.size w7 b) h.outs hBl (fun _ hb => .inl hb) (fun b hb => hb.imp id (fun h => h.1)) i d
      (hdc.keep (fun b hb => .inr hb) (fun b hb _ => hnb b hb) (fun _ _ => trivial)) hrow hhas (ownsRow_to hown (fun b hb => set_other _ (by have h3 : g = b := Option.some.inj hb; omega))) hgw k1
    refine ⟨k3, k2, _, _, ?_, h.outs.grow hBl (fun _ hb => .inl hb) (fun b hb => ?_) (fun b hl hb' => k1 b hl (fun e => ?_) (fun e => ?_)), hcur⟩
    · have hs := (h.box.to k3).set (5 + i.val) (.slice (some ⟨g, 0, none⟩) ((p.L i).length + 1) c)
      unfold rdrCells at hs ⊢
      rw [box_put] at hs
      exact hs
    · rcases hb with hb | hb
      · exact .inl hb
      · exact .inr ⟨hb.1, by have := hb.1; omega, hb.2.keep (hnb b hb)⟩
    · subst e
      rcases hb' with e | e | e
      · exact h.outs.bm e
      · exact h.outs.kB e
      · exact h.outs.vB e
    · obtain ⟨_, a2, a3, a4⟩ := h.cur.away (some i) b e
      rcases hb' with e | e | e
      · exact a2 e
      · exact a4 e
      · exact a3 e
  have HROW := Lib.hid hrow
  have HB := Lib.hid h.box
  have HSW : Hid (∀ W : World, W.heap[B]? = w.heap[B]? → W.cell? ⟨B, 5 + i.val, none⟩ = some (.slice va (p.L i).length vc) ∧ W.frozen? ⟨B, 5 + i.val, none⟩ = false) := Lib.hid fun W hW => ⟨(HB.out.to hW).cell (by rw [← hva]; exact box_at _ _ _ _ _ _ _ _ _ _), (HB.out.to hW).frozen _⟩
  have HPL := Lib.hid (fun W => place_c i B W)
  have hcf := call_place i
  obtain ⟨i0, hi9, hz90, hz91, hz92⟩ := info_parts info63p
  rw [hva] at HNX HROW
  clear h hrow hhas n1 n2 hnn hti hva
  generalize (p.L i).length = n at *
  generalize 5 + i.val = o at *
  generalize 36 + i.val = fn at hl HPL hcf
  have hbn : ∀ w, (binOp .neq 70 (.func (.func fn) #[] #[]) .nilFunc).run Tryz.prog w = .ok (.bool true) w := fun w => rfl
  go_enter Tryz.func19, Tryz.ntmps19
  go_wp2_with fail
  refine HC.out.mono ?_
  rintro e w7 ⟨⟨k, nm, op, ev, a, nn, c, rfl, hdc⟩, hb7⟩
  have HB7 := Lib.hid hb7
  have HDC := Lib.hid hdc
  clear hdc hb7 HC c14 hl e1 e2
  go_upto_region 10 with fail
  obtain ⟨w8, e8⟩ : ∃ w8, w7.alloc (.cells #[.int .i64 k, .string nm, .int .i64 op, .string ev, .slice a nn c] 73) = w8 := ⟨_, rfl⟩
  have HB8 : Hid (Below w7.heap.size w7 w8 ∧ BoxN w8 w7.heap.size [.int .i64 k, .string nm, .int .i64 op, .string ev, .slice a nn c] 73 ∧ Below w.heap.size w w8) := Lib.hid <| by
    rw [← e8]
    exact ⟨below1 _ _, boxN_alloc _ _ _, below_tr HB7.out (below1 _ _)⟩
  rw [e8]
  clear e8
  have HS8 : Hid (∀ W : World, W.heap[B]? = w.heap[B]? ∧ W.heap[w7.heap.size]? = w8.heap[w7.heap.size]? → W.cell? ⟨B, o, none⟩ = some (.slice va n vc) ∧ W.cell? ⟨w7.heap.size, 0, none⟩ = some (.int .i64 k) ∧ W.cell? ⟨w7.heap.size, 1, none⟩ = some (.string nm) ∧ W.cell? ⟨w7.heap.size, 2, none⟩ = some (.int .i64 op) ∧ W.cell? ⟨w7.heap.size, 3, none⟩ = some (.string ev) ∧ W.cell? ⟨w7.heap.size, 4, none⟩ = some (.slice a nn c)) := Lib.hid fun W hW => by
    have h1 := HB8.out.2.1.to hW.2
    exact ⟨(HSW.out W hW.1).1, h1.cell (j := 0) rfl, h1.cell (j := 1) rfl, h1.cell (j := 2) rfl, h1.cell (j := 3) rfl, h1.cell (j := 4) rfl⟩
  refine wp_region_ordE (fun W => W.heap[B]? = w.heap[B]? ∧ W.heap[w7.heap.size]? = w8.heap[w7.heap.size]?) 16 [(true, 0), (true, 1), (true, 2), (true, 3), (true, 4), (true, 5), (true, 6), (true, 7), (true, 8), (true, 9), (true, 10), (true, 11), (true, 12), (false, 13), (false, 14), (false, 15), (false, 16)] (by kernel_rfl) (by kernel_rfl) (fun _ _ d _ _ h => by cases d <;> exact h) ⟨HB8.out.2.2.block B hBl, rfl⟩ ?_
  intro wd hwd hS
  simp only [ordOps, List.map_cons, List.map_nil, Array.getD_eq_getD_getElem?, List.getElem?_toArray, List.getElem?_cons_succ, List.getElem?_cons_zero, Option.getD_some]
  iterate 4 (refine ordE_q rfl _ (fun w' hS' K hK => (by clear hS'; go_simp; exact hK)) (fun K hK => ?_); go_simp; refine hK _ ?_; clear hK K)
  refine ordE_c rfl (.pointer (some ⟨B, o, none⟩)) (fun w' hS' => (by clear hS'; go_simp; exact HPL.out w')) (fun K hK => ?_)
  go_simp
  refine hK _ ?_
  clear hK K
  iterate 4 (refine ordE_q rfl _ (fun w' hS' K hK => (by clear hS'; go_simp; exact hK)) (fun K hK => ?_); go_simp; refine hK _ ?_; clear hK K)
  refine ordE_c rfl (.pointer (some ⟨B, o, none⟩)) (fun w' hS' => (by clear hS'; go_simp; exact HPL.out w')) (fun K hK => ?_)
  go_simp
  refine hK _ ?_
  clear hK K
  iterate 3 (refine ordE_q rfl _ (fun w' hS' K hK => (by obtain ⟨y0, y1, y2, y3, y4, y5⟩ := HS8.out w' hS'; clear hS'; go_simp; exact hK)) (fun K hK => ?_); go_simp; refine hK _ ?_; clear hK K)
  have HBd : Hid (Below w8.heap.size w8 wd) := Lib.hid (by rw [hwd.out]; exact below_dr1 (Below.refl _ _))
  clear hS hwd
  have HBw : Hid (Below w7.heap.size w7 wd) := Lib.hid (below_tr HB8.out.1 HBd.out)
  have HBW : Hid (Below w.heap.size w wd) := Lib.hid (below_tr HB7.out HBw.out)
  have hsl : w7.heap.size < w8.heap.size := HB8.out.2.1.lt
  replace hsl := Lib.hid hsl
  obtain ⟨w6, e6⟩ : ∃ w6, wd.alloc (.cells #[.int .i64 k, .string nm, .int .i64 op, .string ev, .slice a nn c] 73) = w6 := ⟨_, rfl⟩
  have HB6 : Hid (Below w7.heap.size w7 w6 ∧ BoxN w6 wd.heap.size [.int .i64 k, .string nm, .int .i64 op, .string ev, .slice a nn c] 73 ∧ Below w.heap.size w w6 ∧ w6.heap[w7.heap.size]? = w8.heap[w7.heap.size]?) := Lib.hid <| by
    rw [← e6]
    exact ⟨below_tr HBw.out (below1 _ _), boxN_alloc _ _ _, below_tr HBW.out (below1 _ _), ((below1 wd _).block _ (Nat.lt_of_lt_of_le hsl.out HBd.out.size)).trans (HBd.out.block _ hsl.out)⟩
  refine ordE_l rfl (fun K hK => ?_)
  go_simp
  refine hK _ _ ⟨fun _ => ⟨HB6.out.2.2.1.block B hBl, HB6.out.2.2.2⟩, ?_⟩
  have HSZ6 : Hid (wd.heap.size ≤ w6.heap.size) := Lib.hid (by rw [← e6]; simp)
  clear hK K e6
  refine ordE_l rfl (fun K hK => ?_)
  refine wp_append_lies _ (.tmp 61) (.tmp 63) 33 rfl L 73 i0 _ 5 72 Tryz.underlying33 hi9 hz90 hz91 hz92 rfl (by decide) (.slice va n vc) n xs rfl (ownsRow_below HROW.out HB6.out.2.2.1) ⟨wd.heap.size, 0, none⟩ 1 1 [.int .i64 k, .string nm, .int .i64 op, .string ev, .slice a nn c] rfl rfl (World.news_of_block (cs := #[.int .i64 k, .string nm, .int .i64 op, .string ev, .slice a nn c]) (t := 73) (fr := (0, 0)) HB6.out.2.1) (by intro u hu; simp only [List.mem_cons, List.not_mem_nil, or_false] at hu; rcases hu with rfl | rfl | rfl | rfl | rfl <;> rfl) (by decide) (by unfold maxLen; omega) (by omega) (Nat.le_trans hLw HB6.out.2.2.1.size) _ rfl ?_
  intro g9 c9 w9 hown9 hgrow9 hat9 hlt9
  have H9 := Lib.hid (HNX.out w7 w6 w9 g9 c9 _ HB7.out HB6.out.1 HDC.out hown9 hgrow9 hat9)
  have HK9 : Hid (w9.heap[w7.heap.size]? = w8.heap[w7.heap.size]?) := Lib.hid ((hgrow9.block _ (Nat.lt_of_lt_of_le hsl.out (Nat.le_trans HBd.out.size HSZ6.out)) (fun e => by have := (HROW.out.lt _ e.symm).2; have := HB7.out.size; omega)).trans HB6.out.2.2.2)
  clear hown9 hgrow9 hat9 hlt9 HNX
  refine hK _ _ ⟨fun _ => ⟨H9.out.1, HK9.out⟩, ?_⟩
  clear hK K
  refine ordE_l rfl (fun K hK => ?_)
  go_simp
  refine hK _ _ ⟨fun _ => ⟨H9.out.1, HK9.out⟩, ?_⟩
  clear hK K
  obtain ⟨y0, f0⟩ := HSW.out w9 H9.out.1
  refine ordE_l rfl (fun K hK => ?_)
  go_simp
  refine hK _ _ ⟨fun h => absurd rfl h, ?_⟩
  clear hK K y0 f0
  refine ordE_nil ?_
  go_wp2_with fail
  go_ret
  exact ⟨rfl, H9.out.2.1, H9.out.2.2⟩
end Go.Proofs.YtjcefgjgjhdbpaaGreatDoor
