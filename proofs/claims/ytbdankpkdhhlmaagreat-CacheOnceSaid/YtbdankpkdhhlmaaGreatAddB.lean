/-
  Adding a repository: what is asked of those that are there. Helper text; the conditions are those typed.
  Adding a repository: what a pool that is given more is; the plain parts. Helper text; the conditions are those typed.
-/
import Derived.Test.YtbdankpkdhhlmaaGreatPoolSt
namespace Go.Proofs.YtbdankpkdhhlmaaGreat
set_option linter.unusedVariables false
set_option linter.unusedSimpArgs false
open Go.RowKit Go.Maps

theorem flatL_len {α : Type} {k : Nat} (f : α → List Value) (hl : ∀ x, (f x).length = k) : ∀ l : List α, (l.flatMap f).length = l.length * k
  | [] => by simp
  | x :: l => by rw [List.flatMap_cons, List.length_append, hl, flatL_len f hl l, List.length_cons, Nat.succ_mul]; omega
theorem flatL_at {α : Type} {k : Nat} (f : α → List Value) (hl : ∀ x, (f x).length = k) : ∀ (l : List α) (i r : Nat) (h : i < l.length), r < k → (l.flatMap f)[i * k + r]? = (f l[i])[r]?
  | [], i, r, h, _ => absurd h (Nat.not_lt_zero _)
  | x :: l, 0, r, h, hr => by
    rw [List.flatMap_cons, Nat.zero_mul, Nat.zero_add, List.getElem?_append_left (by rw [hl]; exact hr)]
    rfl
  | x :: l, i + 1, r, h, hr => by
    rw [List.flatMap_cons, List.getElem?_append_right (by rw [hl, Nat.succ_mul]; omega), hl]
    rw [show (i + 1) * k + r - k = i * k + r by rw [Nat.succ_mul]; omega]
    exact flatL_at f hl l i r (by simpa using h) hr
theorem ownsRow_cell {w : World} {B : Nat} {e : TypeId} {k g n cap : Nat} {xs : List Value} (h : w.ownsRow B e k (.slice (some ⟨g, 0, none⟩) n cap) n xs) {j : Nat} {v : Value} (hv : xs[j]? = some v) : w.cell? ⟨g, j, none⟩ = some v := by
  rcases h.2 with ⟨h1, _⟩ | ⟨g', cap', cur, h1, _, hg, _, _, _, ht⟩
  · cases h1
  · cases h1
    rw [← ht] at hv
    have hlt := (List.getElem?_eq_some_iff.1 hv).1
    rw [List.length_take] at hlt
    rw [List.getElem?_take_of_lt (by omega), Array.getElem?_toList] at hv
    exact cell_of hg hv
theorem ownsRow_form {w : World} {B : Nat} {e : TypeId} {k n : Nat} {v : Value} {xs : List Value} (h : w.ownsRow B e k v n xs) : (v = .slice none 0 0 ∧ n = 0) ∨ ∃ g cap, v = .slice (some ⟨g, 0, none⟩) n cap ∧ n ≤ cap ∧ cap ≤ maxLen := by
  rcases h.2 with h1 | ⟨g, cap, cur, h1, _, _, hc, hm, _⟩
  · exact .inl h1
  · exact .inr ⟨g, cap, h1, hc, hm⟩

theorem idxR_zero (a : Option Addr) (c : Nat) (fv : Value) (w : World) : Calls Tryz.prog 80 #[.slice a 0 c, fv] w fun e w' => e = .returned (.int .i64 (-1)) ∧ w = w' := by
  go_enter Tryz.func80, Tryz.ntmps80
  go_wp2_with fail
  go_loopw [8] (fun vi wr => vi = .int .i64 0 ∧ w = wr) (fun _ _ => 0)
  case atStart => exact ⟨rfl, rfl⟩
  case round =>
    obtain ⟨rfl, rfl⟩ := hrel
    go_wp2_with fail
    go_ret
    exact ⟨rfl, rfl⟩
theorem anyR_zero (a : Option Addr) (c : Nat) (fv : Value) (w : World) : Calls Tryz.prog 59 #[.slice a 0 c, fv] w fun e w' => e = .returned (.bool false) ∧ w = w' := by
  go_enter Tryz.func59, Tryz.ntmps59
  go_wp2_with fail
  refine (idxR_zero a c fv w).mono ?_
  rintro e w' ⟨rfl, rfl⟩
  go_wp2_with fail
  go_ret
  exact ⟨rfl, rfl⟩

theorem enters40 : ∀ args w, (callFunc 60 args).run Tryz.prog w = .ok (.enter 60 args) w := fun args w => by kernel_rfl
theorem enters41 : ∀ args w, (callFunc 61 args).run Tryz.prog w = .ok (.enter 61 args) w := fun args w => by kernel_rfl

instance : Inhabited RepoH := ⟨⟨⟨#[]⟩, 0, false⟩⟩

/-- Is one of the repositories such? -/
theorem anyR_c (rs : List RepoH) (v : Value) (B : Nat) (w : World) (h : w.ownsRow B 40 4 v rs.length (rs.flatMap repoCells)) (hn : rs.length ≤ 8) (p : RepoH → Bool) (g : Nat) (lb : Array Value) (eg : ∀ args w, (callFunc g args).run Tryz.prog w = .ok (.enter g args) w)
    (hp : PredBelow Tryz.prog g lb (fun x => .agg (repoCells x).toArray) p w) :
    Calls Tryz.prog 59 #[v, .func (.func g) #[] lb] w fun e w' => e = .returned (.bool (rs.any p)) ∧ Below w.heap.size w w' := by
  rcases ownsRow_form h with ⟨rfl, h0⟩ | ⟨b, cap, rfl, hc, hm⟩
  · have : rs = [] := List.eq_nil_of_length_eq_zero h0
    subst this
    exact (anyR_zero none 0 _ w).mono fun e w' ⟨h1, h2⟩ => ⟨h1, by subst h2; exact Below.refl _ _⟩
  · by_cases h0 : rs.length = 0
    · have : rs = [] := List.eq_nil_of_length_eq_zero h0
      subst this
      exact (anyR_zero _ _ _ w).mono fun e w' ⟨h1, h2⟩ => ⟨h1, by subst h2; exact Below.refl _ _⟩
    · have hc : ∀ j, j < rs.length → ∀ i v, (repoCells rs[j]!)[i]? = some v → w.cell? ⟨b, 0 + j * 4 + i, none⟩ = some v := by
        intro j hj i v hv
        have hi : i < 4 := (List.getElem?_eq_some_iff.1 hv).1
        rw [getElem!_pos rs j hj, ← flatL_at repoCells (fun _ => rfl) rs j i hj hi] at hv
        rw [Nat.zero_add]
        exact ownsRow_cell h hv
      have hb : b < w.heap.size := by
        have := h.lt b rfl
        exact this.2
      have := AnyQ.slices_ContainsFunc Tryz.layAnyR 4 Tryz.isAgg40 Tryz.sizeOf40 repoCells (fun _ => rfl) p g lb eg b 0 rs.length cap rs w hp (Nat.le_refl _) (by omega) hb hc
      rw [List.take_length] at this
      exact this

theorem beqS {a b : ByteArray} : (a.toList == b.toList) = decide (a = b) := by
  by_cases h : a = b
  · subst h; simp
  · rw [decide_eq_false h]
    have h' : ¬ a.toList = b.toList := fun e => h (by
      have : bs a = bs b := by rw [← bs_toList, ← bs_toList, e]
      have e2 : a.data = b.data := by
        have : a.data.toList = b.data.toList := this
        exact Array.toList_inj.1 this
      cases a; cases b; cases e2; rfl)
    simpa using h'

set_option maxHeartbeats 1000000 in
/-- The closure: a repository of that name. -/
theorem sameName_at (nm : ByteArray) (b : Nat) (w : World) (hb : b < w.heap.size) (hc : w.cell? ⟨b, 0, none⟩ = some (.string nm)) :
    PredBelow Tryz.prog 60 #[.pointer (some ⟨b, 0, none⟩)] (fun x => .agg (repoCells x).toArray) (fun x => decide (x.name = nm)) w := by
  intro W x hB
  have q0 : W.cell? ⟨b, 0, none⟩ = some (.string nm) := (hB.cell (p := ⟨b, 0, none⟩) hb).trans hc
  show Calls Tryz.prog 60 #[.agg #[.string x.name, .int .i64 x.prio, .bool x.inst, .slice none 0 0], .pointer (some ⟨b, 0, none⟩)] W fun e w' => e = .returned (.bool (decide (x.name = nm))) ∧ Below w.heap.size w w'
  have hlt : b < W.heap.size := Nat.lt_of_lt_of_le hb hB.size
  obtain ⟨w1, e1⟩ : ∃ w1, W.alloc (.cells #[.string x.name, .int .i64 x.prio, .bool x.inst, .slice none 0 0] 40) = w1 := ⟨_, rfl⟩
  have HB1 : Hid (Below W.heap.size W w1 ∧ BoxN w1 W.heap.size [.string x.name, .int .i64 x.prio, .bool x.inst, .slice none 0 0] 40) := by
    rw [← e1]
    exact ⟨below1 _ _, boxN_alloc _ _ _⟩
  have p0 := HB1.out.2.cell (j := 0) rfl
  have q1 : w1.cell? ⟨b, 0, none⟩ = some (.string nm) := (HB1.out.1.cell (p := ⟨b, 0, none⟩) hlt).trans q0
  have HBB : Hid (Below w.heap.size w w1) := hB.trans (below_to HB1.out.1 hB.size)
  rw [← beqS]
  clear hB hc q0 hb hlt
  go_enter Tryz.func60, Tryz.ntmps60
  go_wp2_with fail
  go_ret
  exact ⟨rfl, HBB.out⟩

set_option maxHeartbeats 1000000 in
/-- The closure: an installed one. -/
theorem isInst_at (w : World) : PredBelow Tryz.prog 61 #[] (fun x => .agg (repoCells x).toArray) (fun x => x.inst) w := by
  intro W x hB
  show Calls Tryz.prog 61 #[.agg #[.string x.name, .int .i64 x.prio, .bool x.inst, .slice none 0 0]] W fun e w' => e = .returned (.bool x.inst) ∧ Below w.heap.size w w'
  obtain ⟨w1, e1⟩ : ∃ w1, W.alloc (.cells #[.string x.name, .int .i64 x.prio, .bool x.inst, .slice none 0 0] 40) = w1 := ⟨_, rfl⟩
  have HB1 : Hid (Below W.heap.size W w1 ∧ BoxN w1 W.heap.size [.string x.name, .int .i64 x.prio, .bool x.inst, .slice none 0 0] 40) := by
    rw [← e1]
    exact ⟨below1 _ _, boxN_alloc _ _ _⟩
  have p2 := HB1.out.2.cell (j := 2) rfl
  have HBB : Hid (Below w.heap.size w w1) := hB.trans (below_to HB1.out.1 hB.size)
  clear hB
  go_enter Tryz.func61, Tryz.ntmps61
  go_wp2_with fail
  go_ret
  exact ⟨rfl, HBB.out⟩
end Go.Proofs.YtbdankpkdhhlmaaGreat
namespace Go.Proofs.YtbdankpkdhhlmaaGreat
set_option linter.unusedVariables false
set_option linter.unusedSimpArgs false
open Go.RowKit Go.Maps

/-- A repository that comes. -/
structure RepoT where
  name : ByteArray
  prio : Int
  inst : Bool
  pkgs : List PkgT
def firstBad : List PkgT → Int
  | [] => 0
  | p :: l => if pkgCheck p ≠ 0 then pkgCheck p else firstBad l
theorem firstBad_at : ∀ (l : List PkgT) (i : Nat) (h : i < l.length), (∀ j (hj : j < l.length), j < i → pkgCheck l[j] = 0) → pkgCheck l[i] ≠ 0 → firstBad l = pkgCheck l[i]
  | [], i, h, _, _ => absurd h (Nat.not_lt_zero _)
  | p :: l, 0, h, _, h2 => by
    unfold firstBad
    exact if_pos (show pkgCheck p ≠ 0 from h2)
  | p :: l, i + 1, h, h1, h2 => by
    unfold firstBad
    have h0 : pkgCheck p = 0 := h1 0 (by simp) (by omega)
    rw [if_neg (fun h => h h0)]
    exact firstBad_at l i (by simpa using h) (fun j hj hji => h1 (j + 1) (by simpa using hj) (by omega)) h2
theorem firstBad_none : ∀ (l : List PkgT), (∀ j (hj : j < l.length), pkgCheck l[j] = 0) → firstBad l = 0
  | [], _ => rfl
  | p :: l, h1 => by
    unfold firstBad
    have h0 : pkgCheck p = 0 := h1 0 (by simp)
    rw [if_neg (fun h => h h0)]
    exact firstBad_none l (fun j hj => h1 (j + 1) (by simpa using hj))
/-- What Add answers. -/
def addErr (rs : List RepoH) (ks : List KeptT) (r : RepoT) : Int :=
  if nameB r.name = false ∨ (rs.any fun x => decide (x.name = r.name)) = true then 66 else if (r.inst && rs.any fun x => x.inst) = true then 67 else if 8 ≤ rs.length ∨ 200 < ks.length + r.pkgs.length then 68 else firstBad r.pkgs

/-- The packages that a slice value reads as. -/
def PkgsV (w : World) (S : Nat → Prop) (l : List PkgT) (v : Value) : Prop := ∃ a c, v = .slice a l.length c ∧ l.length * 256 ≤ 140737488355328 ∧
  (l ≠ [] → ∃ b off, a = some ⟨b, off, none⟩ ∧ S b ∧ ∀ i (h : i < l.length), ∃ v vf, PkgV w S l[i] v vf ∧ CellsAt w b (off + i * 12) (pkgCells l[i].name l[i].evr l[i].arch l[i].vendor v vf))
theorem PkgsV.keep {w w' : World} {S S' : Nat → Prop} (hS : ∀ b, S b → S' b) (hk : ∀ b, S b → b < w.heap.size → w'.heap[b]? = w.heap[b]?) {l : List PkgT} {v : Value} (h : PkgsV w S l v) : PkgsV w' S' l v := by
  obtain ⟨a, c, e, hn, h⟩ := h
  refine ⟨a, c, e, hn, fun hl => ?_⟩
  obtain ⟨b, off, ea, hb, hi⟩ := h hl
  have hlt : b < w.heap.size := by
    obtain ⟨v, vf, _, hc⟩ := hi 0 (List.length_pos_iff.2 hl)
    exact World.block_lt_of_cell? w _ (hc 0 _ rfl)
  refine ⟨b, off, ea, hS b hb, fun i h => ?_⟩
  obtain ⟨v, vf, h1, h2⟩ := hi i h
  exact ⟨v, vf, h1.keep hS hk, h2.keep (hk b hb hlt)⟩
theorem PkgsV.below {w w' : World} {S : Nat → Prop} {l : List PkgT} {v : Value} (h : PkgsV w S l v) (hb : Below w.heap.size w w') : PkgsV w' S l v :=
  h.keep (fun _ h => h) (fun b _ hl => hb.block b hl)

/-- The package at a place, its cells told. -/
structure PkgAt (w : World) (S : Nat → Prop) (p : PkgT) (b o : Nat) (a : Fin 7 → Option Addr) (c : Fin 7 → Nat) (af : Option Addr) (nf cf : Nat) : Prop where
  pkg : PkgV w S p (fun i => .slice (a i) (p.n i) (c i)) (.slice af nf cf)
  cells : CellsAt w b o (pkgCells p.name p.evr p.arch p.vendor (fun i => .slice (a i) (p.n i) (c i)) (.slice af nf cf))
theorem pkg_of {w : World} {S : Nat → Prop} {p : PkgT} {b o : Nat} {v : Fin 7 → Value} {vf : Value} (h : PkgV w S p v vf) (hc : CellsAt w b o (pkgCells p.name p.evr p.arch p.vendor v vf)) : ∃ a c af nf cf, PkgAt w S p b o a c af nf cf := by
  obtain ⟨a, c, rfl⟩ := h.slices
  obtain ⟨af, cf, hf, _⟩ := h.files
  subst hf
  exact ⟨a, c, af, _, cf, h, hc⟩
theorem PkgAt.keep {w w' : World} {S S' : Nat → Prop} {p : PkgT} {b o : Nat} {a : Fin 7 → Option Addr} {c : Fin 7 → Nat} {af : Option Addr} {nf cf : Nat} (h : PkgAt w S p b o a c af nf cf) (hS : ∀ b, S b → S' b) (hk : ∀ b, S b → b < w.heap.size → w'.heap[b]? = w.heap[b]?) (hb : w'.heap[b]? = w.heap[b]?) : PkgAt w' S' p b o a c af nf cf :=
  ⟨h.pkg.keep hS hk, h.cells.keep hb⟩
theorem PkgAt.below {w w' : World} {S : Nat → Prop} {p : PkgT} {b o : Nat} {a : Fin 7 → Option Addr} {c : Fin 7 → Nat} {af : Option Addr} {nf cf : Nat} (h : PkgAt w S p b o a c af nf cf) (hb : Below w.heap.size w w') : PkgAt w' S p b o a c af nf cf :=
  h.keep (fun _ h => h) (fun b _ hl => hb.block b hl) (hb.block b (World.block_lt_of_cell? w _ (h.cells 0 _ rfl)))
theorem pkgs_at {w : World} {S : Nat → Prop} {l : List PkgT} {a : Option Addr} {n c : Nat} (h : PkgsV w S l (.slice a n c)) : n = l.length ∧ n * 256 ≤ 140737488355328 ∧ (n ≠ 0 → ∃ b off, a = some ⟨b, off, none⟩ ∧ S b ∧ ∀ i (h : i < l.length), ∃ a c af nf cf, PkgAt w S l[i] b (off + i * 12) a c af nf cf) := by
  obtain ⟨a2, c2, e, hn, hi⟩ := h
  injection e with h1 h2 h3
  subst h1 h2 h3
  refine ⟨rfl, hn, fun h0 => ?_⟩
  obtain ⟨b, off, ea, hb, hi⟩ := hi (fun e => h0 (by rw [e]; rfl))
  refine ⟨b, off, ea, hb, fun i h => ?_⟩
  obtain ⟨v, vf, h1, h2⟩ := hi i h
  exact pkg_of h1 h2

/-- The worlds between: what is not the pool's stays; what becomes the pool's is new. -/
structure Moved (role : Nat → Role) (w : World) (role' : Nat → Role) (w' : World) : Prop where
  os : w'.os = w.os
  tape : w'.tape = w.tape
  output : w'.output = w.output
  size : w.heap.size ≤ w'.heap.size
  block : ∀ b, b < w.heap.size → role b = .free → w'.heap[b]? = w.heap[b]? ∧ role' b = .free
theorem Moved.refl (role : Nat → Role) (w : World) : Moved role w role w := ⟨rfl, rfl, rfl, Nat.le_refl _, fun b _ h => ⟨rfl, h⟩⟩
theorem Moved.trans {r0 r1 r2 : Nat → Role} {w0 w1 w2 : World} (h : Moved r0 w0 r1 w1) (k : Moved r1 w1 r2 w2) : Moved r0 w0 r2 w2 :=
  ⟨k.os.trans h.os, k.tape.trans h.tape, k.output.trans h.output, Nat.le_trans h.size k.size, fun b hb hr => by
    obtain ⟨h1, h2⟩ := h.block b hb hr
    obtain ⟨k1, k2⟩ := k.block b (Nat.lt_of_lt_of_le hb h.size) h2
    exact ⟨k1.trans h1, k2⟩⟩
theorem Moved.of_below {role : Nat → Role} {w w' : World} (h : Below w.heap.size w w') : Moved role w role w' := ⟨h.os, h.tape, h.output, h.size, fun b hb hr => ⟨h.block b hb, hr⟩⟩

section
variable {w w' : World} {B : Nat} {role : Nat → Role} {P M : Nat} {vr va : Value} {lv : ByteArray → Value} {kd : Int} {rs : List RepoH} {ks : List KeptT} {ns : List ByteArray}
theorem PoolIn.list_moved {w2 w3 : World} (h : PoolIn w B role P M vr va lv kd rs ks ns) (s : ByteArray) {cv : Value} (hcv : cv = if idsOf ns s = [] then .slice none 0 0 else lv s) {g : Nat}
    (hgrow : w.grownBy w2 cv.ownBlock) (hat : cv.ownBlock = some g ∨ w.heap.size ≤ g) (hg3 : w2.grownBy w3 (some M)) : Moved role w (fun b => if b = g then .list s else role b) w3 := by
  have hcvr : ∀ b, cv.ownBlock = some b → role b = .list s := by
    intro b hb
    by_cases h0 : idsOf ns s = []
    · rw [hcv, if_pos h0] at hb; cases hb
    · rw [hcv, if_neg h0] at hb
      exact h.rL s b h0 hb
  refine ⟨hg3.os.trans hgrow.os, hg3.tape.trans hgrow.tape, hg3.output.trans hgrow.output, Nat.le_trans hgrow.size hg3.size, fun b hb hr => ⟨?_, ?_⟩⟩
  · rw [hg3.block b (Nat.lt_of_lt_of_le hb hgrow.size) (fun e => by cases e; rw [h.rM] at hr; cases hr), hgrow.block b hb (fun e => by rw [hcvr b e.symm] at hr; cases hr)]
  · rw [if_neg (fun e => by
      subst e
      rcases hat with h1 | h1
      · rw [hcvr b h1] at hr; cases hr
      · omega)]
    exact hr
theorem PoolIn.all_moved {w1 w2 : World} (h : PoolIn w B role P M vr va lv kd rs ks ns) (hb1 : Below w.heap.size w w1) {g : Nat} {x : Value} (hgrow : w1.grownBy w2 va.ownBlock) (hat : va.ownBlock = some g ∨ w1.heap.size ≤ g) :
    Moved role w (fun b => if b = g then .all else if w.heap.size ≤ b ∧ b < w1.heap.size then .content else role b) (w2.setCell ⟨P, 2, none⟩ x) := by
  have h1 := hb1.size
  refine ⟨hgrow.os.trans hb1.os, hgrow.tape.trans hb1.tape, hgrow.output.trans hb1.output, by rw [set_size]; exact Nat.le_trans hb1.size hgrow.size, fun b hb hr => ⟨?_, ?_⟩⟩
  · rw [set_other _ (fun e => by subst e; rw [h.rP] at hr; cases hr), hgrow.block b (Nat.lt_of_lt_of_le hb hb1.size) (fun e => by rw [h.rA b e.symm] at hr; cases hr), hb1.block b hb]
  · rw [if_neg (fun e => by
      subst e
      rcases hat with h1 | h1
      · rw [h.rA b h1] at hr; cases hr
      · omega), if_neg (by omega)]
    exact hr
theorem PoolIn.repo_moved {w2 : World} (h : PoolIn w B role P M vr va lv kd rs ks ns) {g : Nat} {x : Value} (hgrow : w.grownBy w2 vr.ownBlock) (hat : vr.ownBlock = some g ∨ w.heap.size ≤ g) :
    Moved role w (fun b => if b = g then .repos else role b) (w2.setCell ⟨P, 1, none⟩ x) := by
  refine ⟨hgrow.os, hgrow.tape, hgrow.output, by rw [set_size]; exact hgrow.size, fun b hb hr => ⟨?_, ?_⟩⟩
  · rw [set_other _ (fun e => by subst e; rw [h.rP] at hr; cases hr), hgrow.block b hb (fun e => by rw [h.rR b e.symm] at hr; cases hr)]
  · rw [if_neg (fun e => by
      subst e
      rcases hat with h1 | h1
      · rw [h.rR b h1] at hr; cases hr
      · omega)]
    exact hr
end
end Go.Proofs.YtbdankpkdhhlmaaGreat
