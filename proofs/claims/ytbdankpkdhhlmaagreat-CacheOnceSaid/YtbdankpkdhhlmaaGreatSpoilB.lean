/-
  Memory that its owner writes over: what stays, what is still of its kind. Helper text; the conditions are those typed.
  What was handed in is written over by its owner: the walk. Helper text; the conditions are those typed.
-/
import Derived.Test.YtbdankpkdhhlmaaGreatPoolSt
namespace Go.Proofs.YtbdankpkdhhlmaaGreat
set_option linter.unusedVariables false
set_option linter.unusedSimpArgs false
open Go.RowKit Go.Maps

/-- A block of cells that may be written. -/
def Fr (w : World) (b : Nat) : Prop := ∃ cur ty, w.heap[b]? = some (.cells cur ty (0, 0))
theorem Fr.lt {w : World} {b : Nat} (h : Fr w b) : b < w.heap.size := by
  obtain ⟨cur, ty, h⟩ := h
  exact lt_of_cells h
theorem Fr.frozen {w : World} {b : Nat} (h : Fr w b) (o : Nat) : w.frozen? ⟨b, o, none⟩ = false := by
  obtain ⟨cur, ty, h⟩ := h
  exact frozen_of h
theorem Fr.keep {w w' : World} {b : Nat} (h : Fr w b) (hk : w'.heap[b]? = w.heap[b]?) : Fr w' b := by
  obtain ⟨cur, ty, h⟩ := h
  exact ⟨cur, ty, hk.trans h⟩
theorem Fr.below {w w' : World} {b : Nat} (h : Fr w b) (hb : Below w.heap.size w w') : Fr w' b := h.keep (hb.block b h.lt)
theorem Fr.set {w : World} {b : Nat} (h : Fr w b) (g o : Nat) (v : Value) : Fr (w.setCell ⟨g, o, none⟩ v) b := by
  by_cases e : b = g
  · subst e
    obtain ⟨cur, ty, h⟩ := h
    exact ⟨_, ty, set_cells h v⟩
  · exact h.keep (set_other v e)
theorem Fr.of_box {w : World} {b : Nat} {cs : List Value} {ty : TypeId} (h : BoxN w b cs ty) : Fr w b := ⟨_, ty, h⟩
theorem cell_same {w : World} {x o : Nat} {v0 : Value} (hf : Fr w x) (h : w.cell? ⟨x, o, none⟩ = some v0) (v : Value) : (w.setCell ⟨x, o, none⟩ v).cell? ⟨x, o, none⟩ = some v := by
  obtain ⟨cur, ty, hc⟩ := hf
  have h1 : cur[o]? = some v0 := by
    unfold World.cell? at h
    simpa [hc] using h
  have hlt := (Array.getElem?_eq_some_iff.1 h1).1
  refine cell_of (set_cells hc v) ?_
  simp [Array.getElem?_setIfInBounds, hlt]
theorem cell_else {w : World} {x y o o' : Nat} {v0 : Value} (hf : Fr w x) (h : w.cell? ⟨x, o, none⟩ = some v0) (he : ¬ (x = y ∧ o = o')) (v : Value) : (w.setCell ⟨y, o', none⟩ v).cell? ⟨x, o, none⟩ = some v0 := by
  obtain ⟨cur, ty, hc⟩ := hf
  have h1 : cur[o]? = some v0 := by
    unfold World.cell? at h
    simpa [hc] using h
  by_cases e : x = y
  · subst e
    refine cell_of (set_cells hc v) ?_
    rw [Array.getElem?_setIfInBounds, if_neg (by intro e; exact he ⟨rfl, e.symm⟩)]
    exact h1
  · exact cell_of ((set_other v e).trans hc) h1
/-- Blocks from B on that may be written. -/
def New (B : Nat) (w : World) (b : Nat) : Prop := B ≤ b ∧ Fr w b
theorem New.below {B : Nat} {w w' : World} {b : Nat} (h : New B w b) (hb : Below w.heap.size w w') : New B w' b := ⟨h.1, h.2.below hb⟩
theorem DepsV.new {B : Nat} {w w' : World} {n : Nat} {args : Fin n → DepT} {v : Value} (h : DepsV w (New B w) n args v) (hb : Below w.heap.size w w') : DepsV w' (New B w') n args v :=
  h.keep (fun b hn => hn.below hb) (fun b hn _ => hb.block b hn.2.lt)
theorem DepC.new {B : Nat} {w w' : World} {d : DepT} {cs : List Value} (h : DepC w (New B w) d cs) (hb : Below w.heap.size w w') : DepC w' (New B w') d cs :=
  h.keep (fun b hn => hn.below hb) (fun b hn _ => hb.block b hn.2.lt) (fun _ _ => trivial)
theorem StrsV.new {B : Nat} {w w' : World} {l : List ByteArray} {v : Value} (h : StrsV w (New B w) l v) (hb : Below w.heap.size w w') : StrsV w' (New B w') l v :=
  h.keep (fun b hn => hn.below hb) (fun b hn _ => hb.block b hn.2.lt)
theorem PkgV.new {B : Nat} {w w' : World} {p : PkgT} {v : Fin 7 → Value} {vf : Value} (h : PkgV w (New B w) p v vf) (hb : Below w.heap.size w w') : PkgV w' (New B w') p v vf :=
  h.keep (fun b hn => hn.below hb) (fun b hn _ => hb.block b hn.2.lt)

/-- What a cell may have become. -/
def Deg : Value → Value → Prop
  | .string _, v => ∃ s, v = .string s
  | .int .i64 _, v => ∃ x, v = .int .i64 x
  | .slice a n c, v => v = .slice a n c ∨ v = .slice none 0 0
  | _, _ => True
/-- From one world to the next: the blocks of S may have been written over. -/
structure Spl (w w' : World) (S : Nat → Prop) : Prop where
  os : w'.os = w.os
  tape : w'.tape = w.tape
  output : w'.output = w.output
  size : w.heap.size ≤ w'.heap.size
  block : ∀ x, x < w.heap.size → ¬ S x → w'.heap[x]? = w.heap[x]?
/-- Written over in part: what lies in S is of its kind, the packages from lo on are as they were. -/
structure Dg (w0 w : World) (S : Nat → Prop) (b lo : Nat) : Prop where
  os : w.os = w0.os
  tape : w.tape = w0.tape
  output : w.output = w0.output
  size : w0.heap.size ≤ w.heap.size
  block : ∀ x, x < w0.heap.size → ¬ S x → x ≠ b → w.heap[x]? = w0.heap[x]?
  cell : ∀ x, S x → ∀ o v, w0.cell? ⟨x, o, none⟩ = some v → ∃ v', w.cell? ⟨x, o, none⟩ = some v' ∧ Deg v v'
  left : ∀ o v, lo ≤ o → w0.cell? ⟨b, o, none⟩ = some v → w.cell? ⟨b, o, none⟩ = some v
  free : ∀ x, S x ∨ x = b → Fr w x
theorem Deg.refl (v : Value) : Deg v v := by
  unfold Deg
  split
  · exact ⟨_, rfl⟩
  · exact ⟨_, rfl⟩
  · exact .inl rfl
  · trivial
theorem Dg.start {w0 : World} {S : Nat → Prop} {b lo : Nat} (hf : ∀ x, S x ∨ x = b → Fr w0 x) : Dg w0 w0 S b lo :=
  ⟨rfl, rfl, rfl, Nat.le_refl _, fun _ _ _ _ => rfl, fun x _ o v h => ⟨v, h, Deg.refl v⟩, fun _ _ _ h => h, hf⟩
theorem Dg.up {w0 w : World} {S : Nat → Prop} {b lo lo' : Nat} (h : Dg w0 w S b lo) (hl : lo ≤ lo') : Dg w0 w S b lo' :=
  ⟨h.os, h.tape, h.output, h.size, h.block, h.cell, fun o v ho => h.left o v (Nat.le_trans hl ho), h.free⟩
theorem set_os (w : World) (g o : Nat) (v : Value) : (w.setCell ⟨g, o, none⟩ v).os = w.os ∧ (w.setCell ⟨g, o, none⟩ v).tape = w.tape ∧ (w.setCell ⟨g, o, none⟩ v).output = w.output := ⟨rfl, rfl, rfl⟩
theorem Dg.set {w0 w : World} {S : Nat → Prop} {b lo : Nat} (h : Dg w0 w S b lo) (hb : ¬ S b) {x o : Nat} (hx : S x) {v : Value} (h0 : w0.cell? ⟨x, o, none⟩ = some v) {v' : Value} (hd : Deg v v') : Dg w0 (w.setCell ⟨x, o, none⟩ v') S b lo := by
  obtain ⟨h1, h2, h3⟩ := set_os w x o v'
  have hxb : x ≠ b := fun e => hb (by rw [← e]; exact hx)
  refine ⟨h1.trans h.os, h2.trans h.tape, h3.trans h.output, by rw [set_size]; exact h.size, fun y hy hS hyb => ?_, fun y hy o2 u hu => ?_, fun o2 u ho hu => ?_, fun y hy => (h.free y hy).set _ _ _⟩
  · rw [set_other v' (fun e => hS (by rw [e]; exact hx))]
    exact h.block y hy hS hyb
  · obtain ⟨u', hu1, hu2⟩ := h.cell y hy o2 u hu
    by_cases e : y = x ∧ o2 = o
    · obtain ⟨rfl, rfl⟩ := e
      rw [h0] at hu
      cases hu
      exact ⟨v', cell_same (h.free _ (.inl hy)) hu1 v', hd⟩
    · exact ⟨u', cell_else (h.free _ (.inl hy)) hu1 e v', hu2⟩
  · exact cell_else (h.free _ (.inr rfl)) (h.left o2 u ho hu) (fun e => hxb e.1.symm) v'
theorem Dg.setb {w0 w : World} {S : Nat → Prop} {b lo : Nat} (h : Dg w0 w S b lo) (hb : ¬ S b) {o : Nat} (ho : o < lo) (v' : Value) : Dg w0 (w.setCell ⟨b, o, none⟩ v') S b lo := by
  obtain ⟨h1, h2, h3⟩ := set_os w b o v'
  refine ⟨h1.trans h.os, h2.trans h.tape, h3.trans h.output, by rw [set_size]; exact h.size, fun y hy hS hyb => ?_, fun y hy o2 u hu => ?_, fun o2 u ho2 hu => ?_, fun y hy => (h.free y hy).set _ _ _⟩
  · rw [set_other v' hyb]
    exact h.block y hy hS hyb
  · obtain ⟨u', hu1, hu2⟩ := h.cell y hy o2 u hu
    exact ⟨u', cell_else (h.free _ (.inl hy)) hu1 (fun e => hb (by rw [← e.1]; exact hy)) v', hu2⟩
  · exact cell_else (h.free _ (.inr rfl)) (h.left o2 u ho2 hu) (fun e => by omega) v'
/-- A dependency is written over. -/
theorem Dg.dep {w0 w : World} {S : Nat → Prop} {b lo : Nat} (h : Dg w0 w S b lo) (hb : ¬ S b) {x o : Nat} (hx : S x) {d : DepT} {cs : List Value} (hd : DepC w0 S d cs) (hc : CellsAt w0 x o cs) (x0 x2 : Int) (s1 s3 : ByteArray) :
    Dg w0 (((((w.setCell ⟨x, o, none⟩ (.int .i64 x0)).setCell ⟨x, o + 1, none⟩ (.string s1)).setCell ⟨x, o + 2, none⟩ (.int .i64 x2)).setCell ⟨x, o + 3, none⟩ (.string s3)).setCell ⟨x, o + 4, none⟩ (.slice none 0 0)) S b lo := by
  cases d with
  | mk k nm op ev n args =>
    obtain ⟨a, c, rfl, _⟩ := hd
    exact ((((h.set hb hx (hc 0 _ rfl) ⟨_, rfl⟩).set hb hx (hc 1 _ rfl) ⟨_, rfl⟩).set hb hx (hc 2 _ rfl) ⟨_, rfl⟩).set hb hx (hc 3 _ rfl) ⟨_, rfl⟩).set hb hx (hc 4 _ rfl) (.inr rfl)
/-- What is read of a dependency. -/
theorem Dg.dcells {w0 w : World} {S : Nat → Prop} {b lo : Nat} (h : Dg w0 w S b lo) {x o : Nat} (hx : S x) {d : DepT} {cs : List Value} (hd : DepC w0 S d cs) (hc : CellsAt w0 x o cs) :
    (∃ u, w.cell? ⟨x, o, none⟩ = some u) ∧ (∃ u, w.cell? ⟨x, o + 1, none⟩ = some u) ∧ (∃ u, w.cell? ⟨x, o + 2, none⟩ = some u) ∧ (∃ u, w.cell? ⟨x, o + 3, none⟩ = some u) ∧ (∃ u, w.cell? ⟨x, o + 4, none⟩ = some u) := by
  cases d with
  | mk k nm op ev n args =>
    obtain ⟨a, c, rfl, _⟩ := hd
    have g : ∀ j v, ([.int .i64 k, .string nm, .int .i64 op, .string ev, .slice a n c] : List Value)[j]? = some v → ∃ u, w.cell? ⟨x, o + j, none⟩ = some u := fun j v hj => by
      obtain ⟨u, hu, _⟩ := h.cell x hx _ _ (hc j v hj)
      exact ⟨u, hu⟩
    exact ⟨g 0 _ rfl, g 1 _ rfl, g 2 _ rfl, g 3 _ rfl, g 4 _ rfl⟩
/-- Its list. -/
theorem Dg.dlist {w0 w : World} {S : Nat → Prop} {b lo : Nat} (h : Dg w0 w S b lo) {x o : Nat} (hx : S x) {a : Option Addr} {n c : Nat} (h0 : w0.cell? ⟨x, o, none⟩ = some (.slice a n c)) :
    ∃ a' n' c', w.cell? ⟨x, o, none⟩ = some (.slice a' n' c') ∧ (n' = 0 ∨ (a' = a ∧ n' = n ∧ c' = c)) := by
  obtain ⟨u, hu, hd⟩ := h.cell x hx _ _ h0
  rcases hd with rfl | rfl
  · exact ⟨a, n, c, hu, .inr ⟨rfl, rfl, rfl⟩⟩
  · exact ⟨none, 0, 0, hu, .inl rfl⟩
end Go.Proofs.YtbdankpkdhhlmaaGreat
namespace Go.Proofs.YtbdankpkdhhlmaaGreat
set_option linter.unusedVariables false
set_option linter.unusedSimpArgs false
open Go.RowKit Go.Maps

/-- The packages lie in a block of their own. -/
def PkgsA (w : World) (S : Nat → Prop) (ps : List PkgT) (a : Option Addr) : Prop :=
  ps ≠ [] → ∃ b off, a = some ⟨b, off, none⟩ ∧ ¬ S b ∧ Fr w b ∧ ∀ i (h : i < ps.length), ∃ v vf, PkgV w S ps[i] v vf ∧ CellsAt w b (off + i * 12) (pkgCells ps[i].name ps[i].evr ps[i].arch ps[i].vendor v vf)
/-- What the round knows. -/
structure SpAt (w0 w1 wr : World) (S : Nat → Prop) (b off L lo : Nat) (nm : ByteArray) (pr : Int) (ins : Bool) (n c : Nat) : Prop where
  dg : Dg w1 wr S b lo
  ns : ¬ S b
  lt : ∀ x, S x ∨ x = b → x < L
  size : L < w1.heap.size
  box : BoxN w1 L [.string nm, .int .i64 pr, .bool ins, .slice (some ⟨b, off, none⟩) n c] 40
theorem SpAt.boxr {w0 w1 wr : World} {S : Nat → Prop} {b off L lo : Nat} {nm : ByteArray} {pr : Int} {ins : Bool} {n c : Nat} (h : SpAt w0 w1 wr S b off L lo nm pr ins n c) : wr.cell? ⟨L, 3, none⟩ = some (.slice (some ⟨b, off, none⟩) n c) := by
  have : BoxN wr L [.string nm, .int .i64 pr, .bool ins, .slice (some ⟨b, off, none⟩) n c] 40 := h.box.to (h.dg.block L h.size (fun hs => Nat.lt_irrefl _ (h.lt L (.inl hs))) (fun e => Nat.lt_irrefl _ (h.lt L (.inr e))))
  exact this.cell (j := 3) rfl

set_option maxHeartbeats 4000000 in
set_option maxRecDepth 100000 in
theorem spoilt_c (ps : List PkgT) (nm : ByteArray) (pr : Int) (ins : Bool) (a : Option Addr) (n c : Nat) (S : Nat → Prop) (w : World) (hn : ps.length = n) (hn2 : n ≤ 1099511627776) (hp : PkgsA w S ps a) (hF : ∀ x, S x → Fr w x) :
    Calls Tryz.prog 44 #[.agg #[.string nm, .int .i64 pr, .bool ins, .slice a n c]] w fun e w' => e = .returned (.tuple #[]) ∧ Spl w w' (fun x => S x ∨ ∃ off, a = some ⟨x, off, none⟩) := by
  obtain ⟨w1, e1⟩ : ∃ w1, w.alloc (.cells #[.string nm, .int .i64 pr, .bool ins, .slice a n c] 40) = w1 := ⟨_, rfl⟩
  have HB1 : Hid (Below w.heap.size w w1 ∧ BoxN w1 w.heap.size [.string nm, .int .i64 pr, .bool ins, .slice a n c] 40) := by
    rw [← e1]
    exact ⟨below1 _ _, boxN_alloc _ _ _⟩
  have p3 := HB1.out.2.cell (j := 3) rfl
  by_cases h0 : n = 0
  · subst h0
    go_enter Tryz.func44, Tryz.ntmps44
    go_wp2_with fail
    go_loopw [2] (fun vi wr => vi = .int .i64 0 ∧ w1 = wr) (fun _ _ => 0)
    case atStart => exact ⟨rfl, rfl⟩
    case round =>
      obtain ⟨rfl, rfl⟩ := hrel
      go_wp2_with fail
      go_end0
      have hb := HB1.out.1
      exact ⟨rfl, hb.os, hb.tape, hb.output, hb.size, fun x hx _ => hb.block x hx⟩
  have hne : ps ≠ [] := by
    intro e
    rw [e] at hn
    exact h0 hn.symm
  obtain ⟨b, off, rfl, hnS, hfb, hpk⟩ := hp hne
  have H1 : Hid (SpAt w w1 w1 S b off w.heap.size (off + 0 * 12) nm pr ins n c) := by
    refine ⟨Dg.start fun x hx => ?_, hnS, fun x hx => ?_, ?_, HB1.out.2⟩
    · rcases hx with hx | rfl
      · exact (hF x hx).below HB1.out.1
      · exact hfb.below HB1.out.1
    · rcases hx with hx | rfl
      · exact (hF x hx).lt
      · exact hfb.lt
    · exact HB1.out.2.lt
  have HPK : Hid (∀ i, i < n → ∃ v vf p, PkgV w1 S p v vf ∧ CellsAt w1 b (off + i * 12) (pkgCells p.name p.evr p.arch p.vendor v vf)) := by
    intro i hi
    obtain ⟨v, vf, h1, h2⟩ := hpk i (by omega)
    refine ⟨v, vf, _, h1.below HB1.out.1, fun j u hj => cell_tr HB1.out.1 (h2 j u hj)⟩
  have HQ : Hid (∀ wr lo, SpAt w w1 wr S b off w.heap.size lo nm pr ins n c → Spl w wr (fun x => S x ∨ ∃ off', (some (⟨b, off, none⟩ : Addr)) = some ⟨x, off', none⟩)) := by
    intro wr lo h
    have hb := HB1.out.1
    refine ⟨h.dg.os.trans hb.os, h.dg.tape.trans hb.tape, h.dg.output.trans hb.output, Nat.le_trans hb.size h.dg.size, fun x hx hS => ?_⟩
    refine (h.dg.block x (Nat.lt_of_lt_of_le hx hb.size) (fun h => hS (.inl h)) (fun e => hS (.inr ⟨off, by rw [e]⟩))).trans (hb.block x hx)
  generalize (fun x => S x ∨ ∃ off', (some (⟨b, off, none⟩ : Addr)) = some ⟨x, off', none⟩) = T at HQ ⊢
  clear hp hF hpk hfb hnS hne hn
  go_enter Tryz.func44, Tryz.ntmps44
  go_wp2_with fail
  clear e1 p3
  go_loopw [2] (fun vi wr => ∃ i : Nat, vi = .int .i64 i ∧ i ≤ n ∧ Hid (SpAt w w1 wr S b off w.heap.size (off + i * 12) nm pr ins n c)) (fun vi _ => n - (intOf vi).toNat)
  case atStart => exact ⟨0, rfl, Nat.zero_le _, H1⟩
  case round =>
    clear H1
    obtain ⟨i, rfl, hin, HT⟩ := hrel
    have p3 := HT.out.boxr
    by_cases hlt : i < n
    · have hi1 : (i : Int) < (n : Int) := by omega
      obtain ⟨v, vf, p, hpv, hcs⟩ := HPK.out i hlt
      obtain ⟨aR, nR, cR, args, hv1, hRin⟩ : ∃ aR nR cR, ∃ args : Fin nR → DepT, v 1 = .slice aR nR cR ∧ Hid (nR * 72 ≤ 140737488355328 ∧ (nR ≠ 0 → ∃ bR offR, aR = some ⟨bR, offR, none⟩ ∧ S bR ∧ ∀ k : Fin nR, ∃ cs', DepC w1 S (args k) cs' ∧ CellsAt w1 bR (offR + k * 5) cs')) := by
        obtain ⟨a', c', h1, h2, h3⟩ := hpv.deps 1
        exact ⟨a', p.n 1, c', p.deps 1, h1, h2, h3⟩
      obtain ⟨aF, nF, cF, hvf, hFin⟩ : ∃ aF nF cF, vf = .slice aF nF cF ∧ Hid (nF * 16 ≤ 140737488355328 ∧ (nF ≠ 0 → ∃ bF offF, aF = some ⟨bF, offF, none⟩ ∧ S bF ∧ ∀ k, k < nF → ∃ s, w1.cell? ⟨bF, offF + k, none⟩ = some (.string s))) := by
        obtain ⟨a', c', h1, _, h2, h3⟩ := hpv.files
        refine ⟨a', p.files.length, c', h1, h2, fun h0 => ?_⟩
        obtain ⟨b', o', e1, e2, e3⟩ := h3 (fun e => h0 (by rw [e]; rfl))
        exact ⟨b', o', e1, e2, fun k hk => ⟨_, e3 k hk⟩⟩
      have HC5 : Hid (∀ wj, Dg w1 wj S b (off + i * 12) → wj.cell? ⟨b, off + i * 12 + 5, none⟩ = some (.slice aR nR cR) ∧ wj.cell? ⟨b, off + i * 12 + 11, none⟩ = some (.slice aF nF cF) ∧ ∀ j, j < 12 → ∃ u, wj.cell? ⟨b, off + i * 12 + j, none⟩ = some u) := by
        intro wj hd
        refine ⟨hd.left _ _ (by omega) (by rw [← hv1]; exact hcs 5 _ rfl), hd.left _ _ (by omega) (by rw [← hvf]; exact hcs 11 _ rfl), fun j hj => ?_⟩
        have hj' : j < (pkgCells p.name p.evr p.arch p.vendor v vf).length := hj
        exact ⟨_, hd.left _ _ (by omega) (hcs j _ (List.getElem?_eq_getElem hj'))⟩
      have hnF : nF ≤ 17592186044416 := by have := hFin.out.1; omega
      have hnR : nR ≤ 17592186044416 := by have := hRin.out.1; omega
      clear hpv hcs hv1 hvf
      go_wp2_with fail
      go_loopw [3] (fun vk wk => ∃ k : Nat, vk = .int .i64 k ∧ k ≤ nR ∧ Hid (SpAt w w1 wk S b off w.heap.size (off + i * 12) nm pr ins n c)) (fun vk _ => nR - (intOf vk).toNat)
      case atStart => exact ⟨0, rfl, Nat.zero_le _, HT.out⟩
      case round =>
        clear HT p3
        obtain ⟨k, rfl, hkn, HK⟩ := hrel
        have p3 := HK.out.boxr
        obtain ⟨q5, q11, _⟩ := HC5.out _ HK.out.dg
        by_cases hklt : k < nR
        · have hk1 : (k : Int) < (nR : Int) := by omega
          obtain ⟨bR, offR, rfl, hsR, hcR⟩ := hRin.out.2 (by omega)
          obtain ⟨cs', hdc, hca⟩ := hcR ⟨k, hklt⟩
          obtain ⟨aA, nA, cA, args', hnA, h04, hAin⟩ : ∃ aA nA cA, ∃ args' : Fin nA → DepT, nA ≤ 17592186044416 ∧ w1.cell? ⟨bR, offR + k * 5 + 4, none⟩ = some (.slice aA nA cA) ∧ Hid (nA ≠ 0 → ∃ bA offA, aA = some ⟨bA, offA, none⟩ ∧ S bA ∧ ∀ j : Fin nA, ∃ cs', DepC w1 S (args' j) cs' ∧ CellsAt w1 bA (offA + j * 5) cs') := by
            generalize args ⟨k, hklt⟩ = d at hdc
            cases d with
            | mk k' nm' op' ev' n' args' =>
              obtain ⟨a', c', rfl, _, _, _, h4, h5⟩ := hdc
              exact ⟨a', n', c', args', by omega, hca 4 _ rfl, h5⟩
          replace h04 := Lib.hid h04
          have HD5 : Hid (∀ wj, Dg w1 wj S b (off + i * 12) → (∃ u, wj.cell? ⟨bR, offR + k * 5, none⟩ = some u) ∧ (∃ u, wj.cell? ⟨bR, offR + k * 5 + 1, none⟩ = some u) ∧ (∃ u, wj.cell? ⟨bR, offR + k * 5 + 2, none⟩ = some u) ∧ (∃ u, wj.cell? ⟨bR, offR + k * 5 + 3, none⟩ = some u) ∧ (∃ u, wj.cell? ⟨bR, offR + k * 5 + 4, none⟩ = some u)) := fun wj hd => hd.dcells hsR hdc hca
          have HDW : Hid (∀ wj, SpAt w w1 wj S b off w.heap.size (off + i * 12) nm pr ins n c → SpAt w w1 (((((wj.setCell ⟨bR, offR + k * 5, none⟩ (.int .i64 0)).setCell ⟨bR, offR + k * 5 + 1, none⟩ (.string ⟨#[109, 105, 110, 101]⟩)).setCell ⟨bR, offR + k * 5 + 2, none⟩ (.int .i64 0)).setCell ⟨bR, offR + k * 5 + 3, none⟩ (.string ⟨#[]⟩)).setCell ⟨bR, offR + k * 5 + 4, none⟩ (.slice none 0 0)) S b off w.heap.size (off + i * 12) nm pr ins n c) := fun wj h =>
            ⟨h.dg.dep h.ns hsR hdc hca 0 0 _ _, h.ns, h.lt, h.size, h.box⟩
          clear hcR hdc hca
          go_wp2_with fail
          go_loopw [4] (fun vj wj => ∃ j : Nat, vj = .int .i64 j ∧ j ≤ nA ∧ Hid (SpAt w w1 wj S b off w.heap.size (off + i * 12) nm pr ins n c)) (fun vj _ => nA - (intOf vj).toNat)
          case atStart => exact ⟨0, rfl, Nat.zero_le _, HK.out⟩
          case round =>
            clear HK p3 q5 q11
            obtain ⟨j, rfl, hjn, HJ⟩ := hrel
            have p3 := HJ.out.boxr
            obtain ⟨q5, q11, _⟩ := HC5.out _ HJ.out.dg
            obtain ⟨a2, n2, c2, q4, hq4⟩ := HJ.out.dg.dlist hsR h04.out
            by_cases hjlt : j < n2
            · have hj1 : (j : Int) < (n2 : Int) := by omega
              rcases hq4 with rfl | ⟨rfl, rfl, rfl⟩
              · exact absurd hjlt (Nat.not_lt_zero _)
              obtain ⟨bA, offA, rfl, hsA, hcA⟩ := hAin.out (by omega)
              obtain ⟨cs2, hd2, hc2⟩ := hcA ⟨j, hjlt⟩
              obtain ⟨⟨t0, r0⟩, ⟨t1, r1⟩, ⟨t2, r2⟩, ⟨t3, r3⟩, ⟨t4, r4⟩⟩ := HJ.out.dg.dcells hsA hd2 hc2
              have hfr : Hid (∀ o, wr.frozen? ⟨bA, o, none⟩ = false) := fun o => (HJ.out.dg.free _ (.inl hsA)).frozen _
              have f0 := hfr.out (offA + j * 5)
              have f1 := hfr.out (offA + j * 5 + 1)
              have f2 := hfr.out (offA + j * 5 + 2)
              have f3 := hfr.out (offA + j * 5 + 3)
              have f4 := hfr.out (offA + j * 5 + 4)
              have HN : Hid (SpAt w w1 (((((wr.setCell ⟨bA, offA + j * 5, none⟩ (.int .i64 0)).setCell ⟨bA, offA + j * 5 + 1, none⟩ (.string ⟨#[109, 105, 110, 101]⟩)).setCell ⟨bA, offA + j * 5 + 2, none⟩ (.int .i64 0)).setCell ⟨bA, offA + j * 5 + 3, none⟩ (.string ⟨#[]⟩)).setCell ⟨bA, offA + j * 5 + 4, none⟩ (.slice none 0 0)) S b off w.heap.size (off + i * 12) nm pr ins n c) :=
                ⟨HJ.out.dg.dep HJ.out.ns hsA hd2 hc2 0 0 _ _, HJ.out.ns, HJ.out.lt, HJ.out.size, HJ.out.box⟩
              clear hcA hd2 hc2
              go_wp2_with fail
              go_roundw
              case rel => exact ⟨j + 1, by go_num, by omega, HN.out⟩
              case measure => simp [intOf]; omega
            · have hj1 : ¬ (j : Int) < (n2 : Int) := by omega
              have HN := Lib.hid (HDW.out _ HJ.out)
              obtain ⟨⟨t0, r0⟩, ⟨t1, r1⟩, ⟨t2, r2⟩, ⟨t3, r3⟩, ⟨t4, r4⟩⟩ := HD5.out _ HJ.out.dg
              obtain rfl : t4 = .slice a2 n2 c2 := by rw [q4] at r4; cases r4; rfl
              have hfr : Hid (∀ o, wr.frozen? ⟨bR, o, none⟩ = false) := fun o => (HJ.out.dg.free _ (.inl hsR)).frozen _
              have f0 := hfr.out (offR + k * 5)
              have f1 := hfr.out (offR + k * 5 + 1)
              have f2 := hfr.out (offR + k * 5 + 2)
              have f3 := hfr.out (offR + k * 5 + 3)
              have f4 := hfr.out (offR + k * 5 + 4)
              clear r4 hq4
              go_wp2_with fail
              go_roundw
              case rel => exact ⟨k + 1, by go_num, by omega, HN.out⟩
              case measure => simp [intOf]; omega
        · have hk1 : ¬ (k : Int) < (nR : Int) := by omega
          go_wp2_with fail
          go_loopw [5] (fun vf wf => ∃ f : Nat, vf = .int .i64 f ∧ f ≤ nF ∧ Hid (SpAt w w1 wf S b off w.heap.size (off + i * 12) nm pr ins n c)) (fun vf _ => nF - (intOf vf).toNat)
          case atStart => exact ⟨0, rfl, Nat.zero_le _, HK.out⟩
          case round =>
            clear HK p3 q5 q11
            obtain ⟨f, rfl, hfn, HG⟩ := hrel
            have p3 := HG.out.boxr
            obtain ⟨_, q11, _⟩ := HC5.out _ HG.out.dg
            by_cases hflt : f < nF
            · have hf1 : (f : Int) < (nF : Int) := by omega
              obtain ⟨bF, offF, rfl, hsF, hsc⟩ := hFin.out.2 (by omega)
              obtain ⟨s0, hs0⟩ := hsc f hflt
              obtain ⟨u, hu, _⟩ := HG.out.dg.cell _ hsF _ _ hs0
              have hfr : wr.frozen? ⟨bF, offF + f, none⟩ = false := (HG.out.dg.free _ (.inl hsF)).frozen _
              have HN : Hid (SpAt w w1 (wr.setCell ⟨bF, offF + f, none⟩ (.string ⟨#[109, 105, 110, 101]⟩)) S b off w.heap.size (off + i * 12) nm pr ins n c) := 
                ⟨HG.out.dg.set HG.out.ns hsF hs0 ⟨_, rfl⟩, HG.out.ns, HG.out.lt, HG.out.size, HG.out.box⟩
              clear hsc hs0
              go_wp2_with fail
              go_roundw
              case rel => exact ⟨f + 1, by go_num, by omega, HN.out⟩
              case measure => simp [intOf]; omega
            · have hf1 : ¬ (f : Int) < (nF : Int) := by omega
              have hu := (HC5.out _ HG.out.dg).2.2
              have hfr : Hid (∀ o, wr.frozen? ⟨b, o, none⟩ = false) := fun o => (HG.out.dg.free _ (.inr rfl)).frozen _
              obtain ⟨t0, r0⟩ := hu 0 (by omega)
              obtain ⟨t1, r1⟩ := hu 1 (by omega)
              obtain ⟨t2, r2⟩ := hu 2 (by omega)
              obtain ⟨t3, r3⟩ := hu 3 (by omega)
              obtain ⟨t4, r4⟩ := hu 4 (by omega)
              obtain ⟨t6, r6⟩ := hu 6 (by omega)
              obtain ⟨t7, r7⟩ := hu 7 (by omega)
              obtain ⟨t8, r8⟩ := hu 8 (by omega)
              obtain ⟨t9, r9⟩ := hu 9 (by omega)
              obtain ⟨t10, r10⟩ := hu 10 (by omega)
              have r5 := (HC5.out _ HG.out.dg).1
              rw [Nat.add_zero] at r0
              have f0 := hfr.out (off + i * 12)
              have f1 := hfr.out (off + i * 12 + 1)
              have f2 := hfr.out (off + i * 12 + 2)
              have f3 := hfr.out (off + i * 12 + 3)
              have f4 := hfr.out (off + i * 12 + 4)
              have f5 := hfr.out (off + i * 12 + 5)
              have f6 := hfr.out (off + i * 12 + 6)
              have f7 := hfr.out (off + i * 12 + 7)
              have f8 := hfr.out (off + i * 12 + 8)
              have f9 := hfr.out (off + i * 12 + 9)
              have f10 := hfr.out (off + i * 12 + 10)
              have f11 := hfr.out (off + i * 12 + 11)
              have HN : Hid (SpAt w w1 ((((((((((((wr.setCell ⟨b, off + i * 12, none⟩ (.string ⟨#[109, 105, 110, 101]⟩)).setCell ⟨b, off + i * 12 + 1, none⟩ (.string ⟨#[]⟩)).setCell ⟨b, off + i * 12 + 2, none⟩ (.string ⟨#[]⟩)).setCell ⟨b, off + i * 12 + 3, none⟩ (.string ⟨#[]⟩)).setCell ⟨b, off + i * 12 + 4, none⟩ (.slice none 0 0)).setCell ⟨b, off + i * 12 + 5, none⟩ (.slice none 0 0)).setCell ⟨b, off + i * 12 + 6, none⟩ (.slice none 0 0)).setCell ⟨b, off + i * 12 + 7, none⟩ (.slice none 0 0)).setCell ⟨b, off + i * 12 + 8, none⟩ (.slice none 0 0)).setCell ⟨b, off + i * 12 + 9, none⟩ (.slice none 0 0)).setCell ⟨b, off + i * 12 + 10, none⟩ (.slice none 0 0)).setCell ⟨b, off + i * 12 + 11, none⟩ (.slice none 0 0)) S b off w.heap.size (off + (i + 1) * 12) nm pr ins n c) := by
                have hd0 : Dg w1 wr S b (off + (i + 1) * 12) := HG.out.dg.up (by omega)
                have hns := HG.out.ns
                exact ⟨(((((((((((hd0.setb hns (by omega) _).setb hns (by omega) _).setb hns (by omega) _).setb hns (by omega) _).setb hns (by omega) _).setb hns (by omega) _).setb hns (by omega) _).setb hns (by omega) _).setb hns (by omega) _).setb hns (by omega) _).setb hns (by omega) _).setb hns (by omega) _, hns, HG.out.lt, HG.out.size, HG.out.box⟩
              clear hu hfr
              go_wp2_with fail
              go_roundw
              case rel => exact ⟨i + 1, by go_num, by omega, HN.out⟩
              case measure => simp [intOf]; omega
    · have hi1 : ¬ (i : Int) < (n : Int) := by omega
      go_wp2_with fail
      go_end0
      exact ⟨rfl, HQ.out _ _ HT.out⟩
end Go.Proofs.YtbdankpkdhhlmaaGreat
