/-
  A pool in memory: its blocks, each with its part; what stays, what grows. Helper text; the conditions are those typed.
-/
import Derived.Test.YtbdankpkdhhlmaaGreatOwnC
import Derived.Deep.AppendLies
namespace Go.Proofs.YtbdankpkdhhlmaaGreat
set_option linter.unusedVariables false
set_option linter.unusedSimpArgs false
open Go.RowKit Go.Maps

theorem DepC.inn {w : World} {S : Nat → Prop} : ∀ {d : DepT} {cs : List Value}, DepC w S d cs → DepC w (fun b => S b ∧ b < w.heap.size) d cs
  | .mk k nm op ev n args, cs, h => by
    obtain ⟨a, c, h1, hw, h2, h3, h4, h5⟩ := h
    refine ⟨a, c, h1, hw, h2, h3, h4, fun hn => ?_⟩
    obtain ⟨b, off, e, hs, hi⟩ := h5 hn
    have hb : b < w.heap.size := by
      obtain ⟨cs', hc, ha⟩ := hi ⟨0, Nat.pos_of_ne_zero hn⟩
      generalize args ⟨0, Nat.pos_of_ne_zero hn⟩ = d at hc
      cases d with
      | mk k nm op ev n args =>
        obtain ⟨a, c, rfl, _⟩ := hc
        exact World.block_lt_of_cell? w _ (ha 0 _ rfl)
    refine ⟨b, off, e, ⟨hs, hb⟩, fun i => ?_⟩
    obtain ⟨cs', hc, ha⟩ := hi i
    exact ⟨cs', DepC.inn hc, ha⟩
theorem DepsV.inn {w : World} {S : Nat → Prop} {n : Nat} {args : Fin n → DepT} {v : Value} (h : DepsV w S n args v) : DepsV w (fun b => S b ∧ b < w.heap.size) n args v := by
  have h' : DepC w S (.mk 0 ⟨#[]⟩ 0 ⟨#[]⟩ n args) [.int .i64 0, .string ⟨#[]⟩, .int .i64 0, .string ⟨#[]⟩, v] := depC_iff.2 ⟨v, rfl, by decide, by decide, by decide, h⟩
  obtain ⟨v', e, _, _, _, r⟩ := depC_iff.1 h'.inn
  simp only [List.cons.injEq, true_and, and_true] at e
  subst e
  exact r
theorem StrsV.inn {w : World} {S : Nat → Prop} {l : List ByteArray} {v : Value} (h : StrsV w S l v) : StrsV w (fun b => S b ∧ b < w.heap.size) l v := by
  obtain ⟨a, c, e, hs, hn, h⟩ := h
  refine ⟨a, c, e, hs, hn, fun hl => ?_⟩
  obtain ⟨b, off, ea, hb, hc⟩ := h hl
  exact ⟨b, off, ea, ⟨hb, World.block_lt_of_cell? w _ (hc 0 (List.length_pos_iff.2 hl))⟩, hc⟩
theorem PkgV.inn {w : World} {S : Nat → Prop} {p : PkgT} {v : Fin 7 → Value} {vf : Value} (h : PkgV w S p v vf) : PkgV w (fun b => S b ∧ b < w.heap.size) p v vf :=
  ⟨h.name, h.evr, h.arch, h.vendor, fun i => (h.deps i).inn, h.files.inn⟩

/-- A repository without its packages. -/
structure RepoH where
  name : ByteArray
  prio : Int
  inst : Bool
/-- A package of the pool, the place of its repository. -/
structure KeptT where
  pkg : PkgT
  at_ : Nat
/-- What a block is to the pool. -/
inductive Role where
  | free | pool | map | repos | all | list (s : ByteArray) | content
/-- the places of a name -/
def idsOf (ns : List ByteArray) (s : ByteArray) : List Nat := (List.range ns.length).filter fun i => decide (ns[i]? = some s)
theorem idsOf_snoc (ns : List ByteArray) (x s : ByteArray) : idsOf (ns ++ [x]) s = idsOf ns s ++ (if x = s then [ns.length] else []) := by
  unfold idsOf
  rw [List.length_append, List.length_singleton, List.range_succ, List.filter_append]
  congr 1
  · refine List.filter_congr fun i hi => ?_
    rw [List.getElem?_append_left (List.mem_range.1 hi)]
  · by_cases h : x = s
    · simp [h]
    · simp [h]
theorem idsOf_len (ns : List ByteArray) (s : ByteArray) : (idsOf ns s).length ≤ ns.length := by
  unfold idsOf
  exact Nat.le_trans (List.length_filter_le _ _) (by simp)
theorem idsOf_lt {ns : List ByteArray} {s : ByteArray} {i : Nat} (h : i ∈ idsOf ns s) : i < ns.length := by
  unfold idsOf at h
  exact List.mem_range.1 (List.mem_filter.1 h).1
theorem mem_idsOf {ns : List ByteArray} {s : ByteArray} {i : Nat} : i ∈ idsOf ns s ↔ ns[i]? = some s := by
  unfold idsOf
  rw [List.mem_filter, List.mem_range, decide_eq_true_eq]
  exact ⟨fun h => h.2, fun h => ⟨(List.getElem?_eq_some_iff.1 h).1, h⟩⟩

def repoCells (r : RepoH) : List Value := [.string r.name, .int .i64 r.prio, .bool r.inst, .slice none 0 0]
def keptCells (p : PkgT) (v : Fin 7 → Value) (vf : Value) (at_ : Nat) : List Value := [.string p.name, .string p.evr, .string p.arch, .string p.vendor, v 0, v 1, v 2, v 3, v 4, v 5, v 6, vf, .int .i64 at_]
def intsL (l : List Nat) : List Value := l.map fun (i : Nat) => .int .i64 (i : Int)
def namedF (ns : List ByteArray) (lv : ByteArray → Value) : Value → Option Value
  | .string s => if idsOf ns s = [] then none else some (lv s)
  | _ => none

theorem ownsRow_to {w w' : World} {B : Nat} {e : TypeId} {k : Nat} {v : Value} {n : Nat} {xs : List Value} (h : w.ownsRow B e k v n xs) (hb : ∀ g, v.ownBlock = some g → w'.heap[g]? = w.heap[g]?) : w'.ownsRow B e k v n xs := by
  refine ⟨h.1, ?_⟩
  rcases h.2 with hn | ⟨g, cap, cur, rfl, hB, hg, rest⟩
  · exact .inl hn
  · exact .inr ⟨g, cap, cur, rfl, hB, (hb g rfl).trans hg, rest⟩

/-- The pool at P. -/
structure PoolIn (w : World) (B : Nat) (role : Nat → Role) (P M : Nat) (vr va : Value) (lv : ByteArray → Value) (kd : Int) (rs : List RepoH) (ks : List KeptT) (ns : List ByteArray) : Prop where
  box : BoxN w P [.int .i64 kd, vr, va, .map (some M)] 98
  rrow : w.ownsRow B 40 4 vr rs.length (rs.flatMap repoCells)
  arow : ∃ xs, w.ownsRow B 101 13 va ks.length xs ∧ ∀ i (h : i < ks.length), ∃ v vf, PkgV w (fun b => role b = .content) ks[i].pkg v vf ∧ ∀ r u, (keptCells ks[i].pkg v vf ks[i].at_)[r]? = some u → xs[i * 13 + r]? = some u
  named : MapAt Tryz.prog 9 w M ns.length (namedF ns lv)
  lists : ∀ s, idsOf ns s ≠ [] → w.ownsRow B 3 1 (lv s) (idsOf ns s).length (intsL (idsOf ns s))
  rP : role P = .pool
  rM : role M = .map
  rR : ∀ g, vr.ownBlock = some g → role g = .repos
  rA : ∀ g, va.ownBlock = some g → role g = .all
  rL : ∀ s g, idsOf ns s ≠ [] → (lv s).ownBlock = some g → role g = .list s
  lo : ∀ b, role b ≠ .free → B ≤ b
  hi : ∀ b, role b ≠ .free → b < w.heap.size

section
variable {w w' : World} {B : Nat} {role : Nat → Role} {P M : Nat} {vr va : Value} {lv : ByteArray → Value} {kd : Int} {rs : List RepoH} {ks : List KeptT} {ns : List ByteArray}

/-- What leaves the pool's blocks alone leaves the pool. -/
theorem PoolIn.keep (h : PoolIn w B role P M vr va lv kd rs ks ns) (hs : w.heap.size ≤ w'.heap.size) (hk : ∀ b, role b ≠ .free → w'.heap[b]? = w.heap[b]?) : PoolIn w' B role P M vr va lv kd rs ks ns := by
  obtain ⟨xs, ha, hp⟩ := h.arow
  refine ⟨h.box.to (hk _ (by rw [h.rP]; simp)), ownsRow_to h.rrow fun g hg => hk g (by rw [h.rR g hg]; simp), ⟨xs, ownsRow_to ha fun g hg => hk g (by rw [h.rA g hg]; simp), fun i hi => ?_⟩, h.named.block (hk _ (by rw [h.rM]; simp)), fun s hs => ownsRow_to (h.lists s hs) fun g hg => hk g (by rw [h.rL s g hs hg]; simp),
    h.rP, h.rM, h.rR, h.rA, h.rL, h.lo, fun b hb => Nat.lt_of_lt_of_le (h.hi b hb) hs⟩
  obtain ⟨v, vf, h1, h2⟩ := hp i hi
  exact ⟨v, vf, h1.keep (fun _ h => h) (fun b hb _ => hk b (by have hb' : role b = .content := hb; rw [hb']; simp)), h2⟩
theorem PoolIn.below (h : PoolIn w B role P M vr va lv kd rs ks ns) (hb : Below w.heap.size w w') : PoolIn w' B role P M vr va lv kd rs ks ns :=
  h.keep hb.size fun b hr => hb.block b (h.hi b hr)

theorem intsL_snoc (l : List Nat) (i : Nat) : intsL (l ++ [i]) = intsL l ++ [.int .i64 (i : Int)] := by
  unfold intsL
  simp

open Classical in
/-- A name more: the list of the name has grown, the map is told. -/
theorem PoolIn.list_step {w2 w3 : World} (h : PoolIn w B role P M vr va lv kd rs ks ns) (s : ByteArray) {cv : Value} (hcv : cv = if idsOf ns s = [] then .slice none 0 0 else lv s) {g cap n : Nat} (hn : n = (idsOf ns s).length) (hB : B ≤ w.heap.size)
    (hown : w2.ownsRow B 3 1 (.slice (some ⟨g, 0, none⟩) (n + 1) cap) (n + 1) (intsL (idsOf ns s) ++ [.int .i64 (ns.length : Int)]))
    (hgrow : w.grownBy w2 cv.ownBlock) (hat : cv.ownBlock = some g ∨ w.heap.size ≤ g) (hlt : g < w2.heap.size)
    (hm : MapAt Tryz.prog 9 w3 M (ns.length + 1) (fun u => if u = .string s then some (.slice (some ⟨g, 0, none⟩) (n + 1) cap) else namedF ns lv u)) (hg3 : w2.grownBy w3 (some M)) :
    PoolIn w3 B (fun b => if b = g then .list s else role b) P M vr va (fun t => if t = s then .slice (some ⟨g, 0, none⟩) (n + 1) cap else lv t) kd rs ks (ns ++ [s]) := by
  have hgr : role g = .list s ∨ role g = .free := by
    rcases hat with h1 | h1
    · left
      by_cases h0 : idsOf ns s = []
      · rw [hcv, if_pos h0] at h1; cases h1
      · rw [hcv, if_neg h0] at h1
        exact h.rL s g h0 h1
    · right
      by_cases hr : role g = .free
      · exact hr
      · exact absurd (h.hi g hr) (by omega)
  have hcvr : ∀ b, cv.ownBlock = some b → role b = .list s := by
    intro b hb
    by_cases h0 : idsOf ns s = []
    · rw [hcv, if_pos h0] at hb; cases hb
    · rw [hcv, if_neg h0] at hb
      exact h.rL s b h0 hb
  have hne : ∀ b, role b ≠ .free → role b ≠ .list s → b ≠ g := fun b h1 h2 e => by
    subst e
    rcases hgr with h3 | h3
    · exact h2 h3
    · exact h1 h3
  -- blocks that stay
  have hk : ∀ b, role b ≠ .free → role b ≠ .list s → role b ≠ .map → w3.heap[b]? = w.heap[b]? := by
    intro b h1 h2 h3
    have hb := h.hi b h1
    rw [hg3.block b (Nat.lt_of_lt_of_le hb hgrow.size) (fun e => by cases e; exact h3 h.rM), hgrow.block b hb (fun e => h2 (hcvr b e.symm))]
  obtain ⟨xs, ha, hp⟩ := h.arow
  have hgM : g ≠ M := fun e => by
    subst e
    rcases hgr with h3 | h3 <;> rw [h.rM] at h3 <;> cases h3
  have hBg : B ≤ g := by
    rcases hown.2 with ⟨h1, _⟩ | ⟨g', cap', cur, h1, h2, _⟩
    · cases h1
    · cases h1; exact h2
  refine ⟨h.box.to (hk _ (by rw [h.rP]; simp) (by rw [h.rP]; simp) (by rw [h.rP]; simp)), ownsRow_to h.rrow fun b hb => hk b (by rw [h.rR b hb]; simp) (by rw [h.rR b hb]; simp) (by rw [h.rR b hb]; simp),
    ⟨xs, ownsRow_to ha fun b hb => hk b (by rw [h.rA b hb]; simp) (by rw [h.rA b hb]; simp) (by rw [h.rA b hb]; simp), fun i hi => ?_⟩, ?_, fun t ht => ?_, ?_, ?_, fun b hb => ?_, fun b hb => ?_, fun t b ht hb => ?_, fun b hb => ?_, fun b hb => ?_⟩
  · obtain ⟨v, vf, h1, h2⟩ := hp i hi
    refine ⟨v, vf, h1.keep (fun b hb => ?_) (fun b hb _ => ?_), h2⟩
    · have hb' : role b = .content := hb
      show (if b = g then _ else role b) = .content
      rw [if_neg (hne b (by rw [hb']; simp) (by rw [hb']; simp))]
      exact hb'
    · have hb' : role b = .content := hb
      exact hk b (by rw [hb']; simp) (by rw [hb']; simp) (by rw [hb']; simp)
  · rw [List.length_append, List.length_singleton]
    refine hm.congr fun u => ?_
    cases u with
    | string t =>
      show (if idsOf (ns ++ [s]) t = [] then none else some (if t = s then _ else lv t)) = _
      rw [idsOf_snoc]
      by_cases e : t = s
      · subst e
        simp
      · have e' : ¬ s = t := fun h => e h.symm
        have e2 : ¬ Value.string t = Value.string s := fun h => e (by injection h)
        simp [e, e', e2, namedF]
    | _ => rw [if_neg (fun h => by cases h)]; rfl
  · rw [idsOf_snoc] at ht ⊢
    by_cases e : t = s
    · subst e
      rw [if_pos rfl, if_pos rfl, List.length_append, List.length_singleton, ← hn, intsL_snoc]
      refine ownsRow_to hown fun b hb => ?_
      cases hb
      exact hg3.block g hlt (fun e => by cases e; exact hgM rfl)
    · have e' : ¬ s = t := fun h => e h.symm
      rw [if_neg e', List.append_nil] at ht ⊢
      rw [if_neg e]
      refine ownsRow_to (h.lists t ht) fun b hb => ?_
      have hr := h.rL t b ht hb
      refine hk b (by rw [hr]; simp) (by rw [hr]; simp [e]) (by rw [hr]; simp)
  · show (if P = g then _ else role P) = _
    rw [if_neg (hne P (by rw [h.rP]; simp) (by rw [h.rP]; simp))]
    exact h.rP
  · show (if M = g then _ else role M) = _
    rw [if_neg (Ne.symm hgM)]
    exact h.rM
  · have hr := h.rR b hb
    show (if b = g then _ else role b) = _
    rw [if_neg (hne b (by rw [hr]; simp) (by rw [hr]; simp))]
    exact hr
  · have hr := h.rA b hb
    show (if b = g then _ else role b) = _
    rw [if_neg (hne b (by rw [hr]; simp) (by rw [hr]; simp))]
    exact hr
  · show (if b = g then _ else role b) = _
    rw [idsOf_snoc] at ht
    by_cases e : t = s
    · subst e
      replace hb : (Value.slice (some ⟨g, 0, none⟩) (n + 1) cap).ownBlock = some b := by simpa using hb
      cases hb
      rw [if_pos rfl]
    · have e' : ¬ s = t := fun h => e h.symm
      rw [if_neg e', List.append_nil] at ht
      replace hb : (lv t).ownBlock = some b := by simpa [e] using hb
      have hr := h.rL t b ht hb
      rw [if_neg (hne b (by rw [hr]; simp) (by rw [hr]; simp [e]))]
      exact hr
  · by_cases e : b = g
    · subst e; exact hBg
    · rw [if_neg e] at hb
      exact h.lo b hb
  · by_cases e : b = g
    · subst e; exact Nat.lt_of_lt_of_le hlt hg3.size
    · rw [if_neg e] at hb
      exact Nat.lt_of_lt_of_le (h.hi b hb) (Nat.le_trans hgrow.size hg3.size)

/-- A package more. -/
theorem PoolIn.all_step {w1 w2 : World} (h : PoolIn w B role P M vr va lv kd rs ks ns) {xs : List Value} (ha : w.ownsRow B 101 13 va ks.length xs)
    (hp : ∀ i (h : i < ks.length), ∃ v vf, PkgV w (fun b => role b = .content) ks[i].pkg v vf ∧ ∀ r u, (keptCells ks[i].pkg v vf ks[i].at_)[r]? = some u → xs[i * 13 + r]? = some u)
    (hB : B ≤ w.heap.size) (hb1 : Below w.heap.size w w1) {pkg : PkgT} {v : Fin 7 → Value} {vf : Value} {at_ : Nat} (hv0 : PkgV w1 (fun b => w.heap.size ≤ b) pkg v vf) {g cap : Nat}
    (hown : w2.ownsRow B 101 13 (.slice (some ⟨g, 0, none⟩) (ks.length + 1) cap) (ks.length + 1) (xs ++ keptCells pkg v vf at_)) (hgrow : w1.grownBy w2 va.ownBlock) (hat : va.ownBlock = some g ∨ w1.heap.size ≤ g) (hlt : g < w2.heap.size) :
    PoolIn (w2.setCell ⟨P, 2, none⟩ (.slice (some ⟨g, 0, none⟩) (ks.length + 1) cap)) B (fun b => if b = g then .all else if w.heap.size ≤ b ∧ b < w1.heap.size then .content else role b) P M vr (.slice (some ⟨g, 0, none⟩) (ks.length + 1) cap) lv kd rs (ks ++ [⟨pkg, at_⟩]) ns := by
  have hgr : role g = .all ∨ role g = .free := by
    rcases hat with h1 | h1
    · exact .inl (h.rA g h1)
    · right
      by_cases hr : role g = .free
      · exact hr
      · exact absurd (h.hi g hr) (by have := hb1.size; omega)
  have hne : ∀ b, role b ≠ .free → role b ≠ .all → b ≠ g := fun b h1 h2 e => by
    subst e
    rcases hgr with h3 | h3
    · exact h2 h3
    · exact h1 h3
  have hold : ∀ b, role b ≠ .free → ¬ (w.heap.size ≤ b ∧ b < w1.heap.size) := fun b hb hc => by
    have := h.hi b hb
    omega
  have hv : PkgV w1 (fun b => w.heap.size ≤ b ∧ b < w1.heap.size) pkg v vf := hv0.inn
  have hPg : P ≠ g := hne P (by rw [h.rP]; simp) (by rw [h.rP]; simp)
  have hvab : ∀ b, va.ownBlock = some b → role b = .all := h.rA
  have hk : ∀ b, role b ≠ .free → role b ≠ .all → role b ≠ .pool → (w2.setCell ⟨P, 2, none⟩ (.slice (some ⟨g, 0, none⟩) (ks.length + 1) cap)).heap[b]? = w.heap[b]? := by
    intro b h1 h2 h3
    have hb := h.hi b h1
    rw [set_other _ (fun e => h3 (by rw [e]; exact h.rP)), hgrow.block b (Nat.lt_of_lt_of_le hb hb1.size) (fun e => h2 (hvab b e.symm)), hb1.block b hb]
  have hBg : B ≤ g := by
    rcases hown.2 with ⟨h1, _⟩ | ⟨g', cap', cur, h1, h2, _⟩
    · cases h1
    · cases h1; exact h2
  have hgc : ¬ (w.heap.size ≤ g ∧ g < w1.heap.size) := by
    rcases hat with h1 | h1
    · have := (ha.lt g h1).2
      omega
    · omega
  have hxl : xs.length = ks.length * 13 := ha.1
  have role_old : ∀ b, role b ≠ .free → role b ≠ .all → (if b = g then Role.all else if w.heap.size ≤ b ∧ b < w1.heap.size then .content else role b) = role b := fun b h1 h2 => by
    rw [if_neg (hne b h1 h2), if_neg (hold b h1)]
  refine ⟨?_, ownsRow_to h.rrow fun b hb => hk b (by rw [h.rR b hb]; simp) (by rw [h.rR b hb]; simp) (by rw [h.rR b hb]; simp), ⟨xs ++ keptCells pkg v vf at_, ?_, fun i hi => ?_⟩, h.named.block (hk _ (by rw [h.rM]; simp) (by rw [h.rM]; simp) (by rw [h.rM]; simp)),
    fun s hs => ownsRow_to (h.lists s hs) fun b hb => hk b (by rw [h.rL s b hs hb]; simp) (by rw [h.rL s b hs hb]; simp) (by rw [h.rL s b hs hb]; simp), ?_, ?_, fun b hb => ?_, fun b hb => ?_, fun s b hs hb => ?_, fun b hb => ?_, fun b hb => ?_⟩
  · have h1 : BoxN w2 P [.int .i64 kd, vr, va, .map (some M)] 98 := by
      have hb := h.hi P (by rw [h.rP]; simp)
      refine h.box.to ?_
      rw [hgrow.block P (Nat.lt_of_lt_of_le hb hb1.size) (fun e => by have := hvab P e.symm; rw [h.rP] at this; cases this), hb1.block P hb]
    exact h1.set 2 _
  · rw [List.length_append, List.length_singleton]
    refine ownsRow_to hown fun b hb => ?_
    cases hb
    exact set_other _ (Ne.symm hPg)
  · by_cases e : i < ks.length
    · rw [List.getElem_append_left e]
      obtain ⟨v', vf', h1, h2⟩ := hp i e
      refine ⟨v', vf', h1.keep (fun b hb => ?_) (fun b hb _ => ?_), fun r u hr => ?_⟩
      · have hb' : role b = .content := hb
        show (if b = g then Role.all else _) = .content
        rw [role_old b (by rw [hb']; simp) (by rw [hb']; simp)]
        exact hb'
      · have hb' : role b = .content := hb
        exact hk b (by rw [hb']; simp) (by rw [hb']; simp) (by rw [hb']; simp)
      · have hr13 : r < 13 := (List.getElem?_eq_some_iff.1 hr).1
        rw [List.getElem?_append_left (by omega)]
        exact h2 r u hr
    · have hi' : i = ks.length := by
        rw [List.length_append, List.length_singleton] at hi
        omega
      subst hi'
      simp only [List.getElem_append_right (Nat.le_refl _), Nat.sub_self, List.getElem_cons_zero]
      refine ⟨v, vf, hv.keep (fun b hb => ?_) (fun b hb hl => ?_), fun r u hr => ?_⟩
      · have hb' : w.heap.size ≤ b ∧ b < w1.heap.size := hb
        show (if b = g then Role.all else _) = .content
        rw [if_neg (fun (e : b = g) => by subst e; exact hgc hb'), if_pos hb']
      · have hb' : w.heap.size ≤ b := hb.1
        rw [set_other _ (fun e => by have := h.hi P (by rw [h.rP]; simp); omega), hgrow.block b hl (fun e => by have := (ha.lt b e.symm).2; omega)]
      · rw [List.getElem?_append_right (by omega), hxl]
        rw [show ks.length * 13 + r - ks.length * 13 = r by omega]
        exact hr
  · show (if P = g then Role.all else _) = _
    rw [role_old P (by rw [h.rP]; simp) (by rw [h.rP]; simp)]
    exact h.rP
  · show (if M = g then Role.all else _) = _
    rw [role_old M (by rw [h.rM]; simp) (by rw [h.rM]; simp)]
    exact h.rM
  · have hr := h.rR b hb
    show (if b = g then Role.all else _) = _
    rw [role_old b (by rw [hr]; simp) (by rw [hr]; simp)]
    exact hr
  · cases hb
    show (if g = g then Role.all else _) = _
    rw [if_pos rfl]
  · have hr := h.rL s b hs hb
    show (if b = g then Role.all else _) = _
    rw [role_old b (by rw [hr]; simp) (by rw [hr]; simp)]
    exact hr
  · by_cases e : b = g
    · subst e; exact hBg
    · rw [if_neg e] at hb
      by_cases e2 : w.heap.size ≤ b ∧ b < w1.heap.size
      · omega
      · rw [if_neg e2] at hb
        exact h.lo b hb
  · rw [set_size]
    by_cases e : b = g
    · subst e; exact hlt
    · rw [if_neg e] at hb
      by_cases e2 : w.heap.size ≤ b ∧ b < w1.heap.size
      · have := hgrow.size; omega
      · rw [if_neg e2] at hb
        have h1 := h.hi b hb
        have h2 := hb1.size
        have h3 := hgrow.size
        omega

/-- A repository more. -/
theorem PoolIn.repo_step {w2 : World} (h : PoolIn w B role P M vr va lv kd rs ks ns) {r : RepoH} {g cap : Nat}
    (hown : w2.ownsRow B 40 4 (.slice (some ⟨g, 0, none⟩) (rs.length + 1) cap) (rs.length + 1) (rs.flatMap repoCells ++ repoCells r)) (hgrow : w.grownBy w2 vr.ownBlock) (hat : vr.ownBlock = some g ∨ w.heap.size ≤ g) (hlt : g < w2.heap.size) :
    PoolIn (w2.setCell ⟨P, 1, none⟩ (.slice (some ⟨g, 0, none⟩) (rs.length + 1) cap)) B (fun b => if b = g then .repos else role b) P M (.slice (some ⟨g, 0, none⟩) (rs.length + 1) cap) va lv kd (rs ++ [r]) ks ns := by
  have hgr : role g = .repos ∨ role g = .free := by
    rcases hat with h1 | h1
    · exact .inl (h.rR g h1)
    · right
      by_cases hr : role g = .free
      · exact hr
      · exact absurd (h.hi g hr) (by omega)
  have hne : ∀ b, role b ≠ .free → role b ≠ .repos → b ≠ g := fun b h1 h2 e => by
    subst e
    rcases hgr with h3 | h3
    · exact h2 h3
    · exact h1 h3
  have hPg : P ≠ g := hne P (by rw [h.rP]; simp) (by rw [h.rP]; simp)
  have hk : ∀ b, role b ≠ .free → role b ≠ .repos → role b ≠ .pool → (w2.setCell ⟨P, 1, none⟩ (.slice (some ⟨g, 0, none⟩) (rs.length + 1) cap)).heap[b]? = w.heap[b]? := by
    intro b h1 h2 h3
    have hb := h.hi b h1
    rw [set_other _ (fun e => h3 (by rw [e]; exact h.rP)), hgrow.block b hb (fun e => h2 (h.rR b e.symm))]
  have hBg : B ≤ g := by
    rcases hown.2 with ⟨h1, _⟩ | ⟨g', cap', cur, h1, h2, _⟩
    · cases h1
    · cases h1; exact h2
  obtain ⟨xs, ha, hp⟩ := h.arow
  have role_old : ∀ b, role b ≠ .free → role b ≠ .repos → (if b = g then Role.repos else role b) = role b := fun b h1 h2 => by rw [if_neg (hne b h1 h2)]
  refine ⟨?_, ?_, ⟨xs, ownsRow_to ha fun b hb => hk b (by rw [h.rA b hb]; simp) (by rw [h.rA b hb]; simp) (by rw [h.rA b hb]; simp), fun i hi => ?_⟩, h.named.block (hk _ (by rw [h.rM]; simp) (by rw [h.rM]; simp) (by rw [h.rM]; simp)),
    fun s hs => ownsRow_to (h.lists s hs) fun b hb => hk b (by rw [h.rL s b hs hb]; simp) (by rw [h.rL s b hs hb]; simp) (by rw [h.rL s b hs hb]; simp), ?_, ?_, fun b hb => ?_, fun b hb => ?_, fun s b hs hb => ?_, fun b hb => ?_, fun b hb => ?_⟩
  · have h1 : BoxN w2 P [.int .i64 kd, vr, va, .map (some M)] 98 := by
      have hb := h.hi P (by rw [h.rP]; simp)
      refine h.box.to ?_
      rw [hgrow.block P hb (fun e => by have := h.rR P e.symm; rw [h.rP] at this; cases this)]
    exact h1.set 1 _
  · rw [List.length_append, List.length_singleton, List.flatMap_append, List.flatMap_singleton]
    refine ownsRow_to hown fun b hb => ?_
    cases hb
    exact set_other _ (Ne.symm hPg)
  · obtain ⟨v, vf, h1, h2⟩ := hp i hi
    refine ⟨v, vf, h1.keep (fun b hb => ?_) (fun b hb _ => ?_), h2⟩
    · have hb' : role b = .content := hb
      show (if b = g then Role.repos else _) = .content
      rw [role_old b (by rw [hb']; simp) (by rw [hb']; simp)]
      exact hb'
    · have hb' : role b = .content := hb
      exact hk b (by rw [hb']; simp) (by rw [hb']; simp) (by rw [hb']; simp)
  · show (if P = g then Role.repos else _) = _
    rw [role_old P (by rw [h.rP]; simp) (by rw [h.rP]; simp)]
    exact h.rP
  · show (if M = g then Role.repos else _) = _
    rw [role_old M (by rw [h.rM]; simp) (by rw [h.rM]; simp)]
    exact h.rM
  · cases hb
    show (if g = g then Role.repos else _) = _
    rw [if_pos rfl]
  · have hr := h.rA b hb
    show (if b = g then Role.repos else _) = _
    rw [role_old b (by rw [hr]; simp) (by rw [hr]; simp)]
    exact hr
  · have hr := h.rL s b hs hb
    show (if b = g then Role.repos else _) = _
    rw [role_old b (by rw [hr]; simp) (by rw [hr]; simp)]
    exact hr
  · by_cases e : b = g
    · subst e; exact hBg
    · rw [if_neg e] at hb
      exact h.lo b hb
  · rw [set_size]
    by_cases e : b = g
    · subst e; exact hlt
    · rw [if_neg e] at hb
      have h1 := h.hi b hb
      have h3 := hgrow.size
      omega

/-- A pool that is new. -/
theorem PoolIn.made (w : World) (B : Nat) (hB : B ≤ w.heap.size) (kd : Int) : PoolIn ((w.alloc (.map #[] 0)).alloc (.cells #[.int .i64 kd, .slice none 0 0, .slice none 0 0, .map (some w.heap.size)] 98)) B (fun b => if b = w.heap.size then .map else if b = w.heap.size + 1 then .pool else .free) (w.heap.size + 1) w.heap.size (.slice none 0 0) (.slice none 0 0) (fun _ => .slice none 0 0) kd [] [] [] := by
  refine ⟨?_, World.ownsRow_nil _ _ _ _, ⟨[], World.ownsRow_nil _ _ _ _, fun i hi => absurd hi (Nat.not_lt_zero _)⟩, ?_, fun s hs => absurd rfl hs, ?_, ?_, (fun b hb => by cases hb), (fun b hb => by cases hb), fun s b hs => absurd rfl hs, fun b hb => ?_, fun b hb => ?_⟩
  · have := boxN_alloc (w.alloc (.map #[] 0)) [.int .i64 kd, .slice none 0 0, .slice none 0 0, .map (some w.heap.size)] 98
    rw [World.size_alloc] at this
    exact this
  · have h1 := (MapAt.made Tryz.prog 9 w).block (w' := (w.alloc (.map #[] 0)).alloc (.cells #[.int .i64 kd, .slice none 0 0, .slice none 0 0, .map (some w.heap.size)] 98)) (Below.heap_alloc _ _ _ (by simp))
    refine h1.congr fun u => ?_
    cases u with
    | string s => rfl
    | _ => rfl
  · show (if w.heap.size + 1 = w.heap.size then Role.map else _) = _
    rw [if_neg (by omega), if_pos rfl]
  · show (if w.heap.size = w.heap.size then Role.map else _) = _
    rw [if_pos rfl]
  · by_cases e : b = w.heap.size
    · omega
    · rw [if_neg e] at hb
      by_cases e2 : b = w.heap.size + 1
      · omega
      · rw [if_neg e2] at hb
        exact absurd rfl hb
  · simp only [World.size_alloc]
    by_cases e : b = w.heap.size
    · omega
    · rw [if_neg e] at hb
      by_cases e2 : b = w.heap.size + 1
      · omega
      · rw [if_neg e2] at hb
        exact absurd rfl hb
end
end Go.Proofs.YtbdankpkdhhlmaaGreat
