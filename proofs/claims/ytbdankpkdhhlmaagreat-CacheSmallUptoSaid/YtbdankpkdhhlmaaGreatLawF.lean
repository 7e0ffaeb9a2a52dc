/-
  How long a pool's bytes are: no longer than its texts and its things say. Plain words; no conditions beyond those typed.
  The law's texts: the bytes of a dependency's texts, how many dependencies it is. Helper text; the conditions are those typed.
  The walk of the law CacheSmall. Helper text; the conditions are those typed.
-/
import Derived.Test.YtbdankpkdhhlmaaGreatCRound
import Derived.Test.YtbdankpkdhhlmaaGreatRDepC
import Derived.Test.YtbdankpkdhhlmaaGreatLawE
namespace Go.Proofs.YtbdankpkdhhlmaaGreat
set_option linter.unusedVariables false
set_option linter.unusedSimpArgs false

/-- The bytes of a dependency's texts. -/
def txtN : DepT → Nat
  | .mk k nm op ev n args => nm.size + ev.size + upto (fun j => if h : j < n then txtN (args ⟨j, h⟩) else 0) n
/-- The dependencies in one. -/
def depN : DepT → Nat
  | .mk k nm op ev n args => 1 + upto (fun j => if h : j < n then depN (args ⟨j, h⟩) else 0) n
def depsMost (n : Nat) (args : Fin n → DepT) (i : Nat) : Nat := upto (fun j => if h : j < n then 2 * txtN (args ⟨j, h⟩) + 24 * depN (args ⟨j, h⟩) else 0) i
def listMost (p : PkgT) (i : Nat) : Nat := upto (fun j => if h : j < 7 then depsMost (p.n ⟨j, h⟩) (p.deps ⟨j, h⟩) (p.n ⟨j, h⟩) else 0) i
/-- The sum over the first i. -/
def sumT {α : Type} (f : α → Nat) (l : List α) (i : Nat) : Nat := ((l.take i).map f).sum
theorem sumT_zero {α : Type} (f : α → Nat) (l : List α) : sumT f l 0 = 0 := by simp [sumT]
theorem sumT_succ {α : Type} {f : α → Nat} {l : List α} {i : Nat} {x : α} (h : l[i]? = some x) : sumT f l (i + 1) = sumT f l i + f x := by
  unfold sumT
  rw [List.take_add_one, h]
  simp
theorem sumT_full {α : Type} (f : α → Nat) (l : List α) : sumT f l l.length = (l.map f).sum := by simp [sumT]
theorem sumT_le {α : Type} (f : α → Nat) (l : List α) (i : Nat) : sumT f l i ≤ (l.map f).sum := by
  have h : l = l.take i ++ l.drop i := (List.take_append_drop i l).symm
  have h2 : (l.map f).sum = ((l.take i).map f).sum + ((l.drop i).map f).sum := by
    rw [← List.sum_append, ← List.map_append, List.take_append_drop]
  unfold sumT
  omega
def fileF (s : ByteArray) : Nat := 2 * s.size + 8
def pkgMost (p : PkgT) : Nat := 96 + 2 * (p.name.size + p.evr.size + p.arch.size + p.vendor.size) + (p.files.map fileF).sum + listMost p 7
def nameF (r : RepoT) : Nat := 2 * r.name.size
def keptF (k : KeptT) : Nat := pkgMost k.pkg
def poolMost (rl : List RepoT) (ks : List KeptT) : Nat := 64 + 64 * rl.length + (rl.map nameF).sum + (ks.map keptF).sum

theorem upto_mono (f : Nat → Nat) : ∀ {i n : Nat}, i ≤ n → upto f i ≤ upto f n
  | i, 0, h => by rw [Nat.le_zero.1 h]; exact Nat.le_refl _
  | i, n + 1, h => by
    by_cases e : i = n + 1
    · rw [e]; exact Nat.le_refl _
    · have := upto_mono f (i := i) (n := n) (by omega)
      show upto f i ≤ upto f n + f n
      omega
theorem upto_le (f g : Nat → Nat) : ∀ (n : Nat), (∀ i, i < n → f i ≤ g i) → upto f n ≤ upto g n
  | 0, _ => Nat.le_refl _
  | n + 1, h => by
    have h1 := upto_le f g n (fun i hi => h i (by omega))
    have h2 := h n (by omega)
    show upto f n + f n ≤ upto g n + g n
    omega
theorem upto_mul (f : Nat → Nat) (c : Nat) : ∀ (n : Nat), upto (fun i => c * f i) n = c * upto f n
  | 0 => rfl
  | n + 1 => by
    show upto (fun i => c * f i) n + c * f n = c * (upto f n + f n)
    rw [upto_mul f c n, Nat.mul_add]
theorem upto_add (f g : Nat → Nat) : ∀ (n : Nat), upto (fun i => f i + g i) n = upto f n + upto g n
  | 0 => rfl
  | n + 1 => by
    show upto (fun i => f i + g i) n + (f n + g n) = (upto f n + f n) + (upto g n + g n)
    rw [upto_add f g n]
    omega

/-! ### the cost of tokens -/
def cost : Tok → Nat
  | .num n => (Lib.uvarint n).length
  | .txt s => s.size + 5
def costs (ts : List Tok) : Nat := (ts.map cost).sum
theorem costs_nil : costs [] = 0 := rfl
theorem costs_cons (t : Tok) (ts : List Tok) : costs (t :: ts) = cost t + costs ts := by simp [costs]
theorem costs_append (a b : List Tok) : costs (a ++ b) = costs a + costs b := by simp [costs]
theorem costs_flat {α : Type} (g : α → List Tok) (f : α → Nat) : ∀ (l : List α), (∀ x ∈ l, costs (g x) ≤ f x) → costs (l.flatMap g) ≤ (l.map f).sum
  | [], _ => by simp [costs]
  | x :: l, h => by
    have h1 := costs_flat g f l (fun y hy => h y (List.mem_cons_of_mem _ hy))
    have h2 := h x (by simp)
    rw [List.flatMap_cons, costs_append, List.map_cons, List.sum_cons]
    omega
theorem costs_fin : ∀ (n : Nat) (g : Fin n → List Tok) (f : Nat → Nat), (∀ i, costs (g i) ≤ f i.val) → costs ((List.finRange n).flatMap g) ≤ upto f n
  | 0, g, f, h => by simp [costs]
  | n + 1, g, f, h => by
    rw [List.finRange_succ_last, List.flatMap_append, costs_append, List.flatMap_map, List.flatMap_singleton]
    have h1 := costs_fin n (fun i => g i.castSucc) f (fun i => h i.castSucc)
    have h2 := h (Fin.last n)
    have h3 : costs (g (Fin.last n)) ≤ f n := h2
    show _ ≤ upto f n + f n
    omega
/-- What the texts take, each once. -/
def tabW (T : List ByteArray) : Nat := (T.map fun s => s.size + 1).sum
def txtW : Tok → Nat
  | .num _ => 0
  | .txt s => s.size + 1
theorem tabW_add (T : List ByteArray) (t : Tok) : tabW (addT T t) ≤ tabW T + txtW t := by
  cases t with
  | num n => exact Nat.le_refl _
  | txt s =>
    rw [addT_txt]
    split
    · exact Nat.le_add_right _ _
    · simp [tabW, txtW]
theorem tabW_fold : ∀ (ts : List Tok) (T : List ByteArray), tabW (ts.foldl addT T) ≤ tabW T + (ts.map txtW).sum
  | [], T => by simp
  | t :: ts, T => by
    have h1 := tabW_fold ts (addT T t)
    have h2 := tabW_add T t
    rw [List.foldl_cons, List.map_cons, List.sum_cons]
    omega
theorem uv_one {n : Nat} (h : n < 128) : (Lib.uvarint n).length = 1 := by rw [Lib.uvarint_small h]; rfl
theorem tabB_w : ∀ (T : List ByteArray), (∀ s ∈ T, s.size ≤ 60) → (tabB T).length = tabW T
  | [], _ => rfl
  | s :: T, h => by
    have h1 := tabB_w T (fun u hu => h u (List.mem_cons_of_mem _ hu))
    have h2 := h s (by simp)
    have h3 : tabB (s :: T) = (Lib.uvarint s.size ++ s.data.toList) ++ tabB T := by simp [tabB]
    have h5 : s.data.toList.length = s.size := by rw [Array.length_toList]; rfl
    rw [h3, List.length_append, List.length_append, uv_one (by omega), h1, h5]
    simp [tabW]
    omega
theorem rends_w (T : List ByteArray) (hT : T.length < 268435456) : ∀ (ts : List Tok), (∀ s, .txt s ∈ ts → s ∈ T) → (rends T ts).length + (ts.map txtW).sum ≤ costs ts
  | [], _ => by simp [rends, costs]
  | t :: ts, h => by
    have h1 := rends_w T hT ts (fun s hs => h s (List.mem_cons_of_mem _ hs))
    have h2 : rends T (t :: ts) = rend T t ++ rends T ts := by simp [rends]
    rw [h2, List.length_append, List.map_cons, List.sum_cons, costs_cons]
    have h3 : (rend T t).length + txtW t ≤ cost t := by
      cases t with
      | num n => exact Nat.le_refl _
      | txt s =>
        have h4 := idxT_lt (h s (by simp))
        have h5 := Lib.uvarint_length 3 (idxT T s) (Nat.lt_of_lt_of_le (Nat.lt_trans h4 hT) (by decide))
        show (Lib.uvarint (idxT T s)).length + (s.size + 1) ≤ s.size + 5
        omega
    omega
theorem encB_cost {kd : Nat} {ts : List Tok} (hs : ∀ t ∈ ts, t.small) (hl : ts.length < 268435456) (hk : kd < 128) : (encB kd ts).length ≤ 14 + costs ts := by
  have h1 := textsOf_len ts
  have h2 := tabB_w (textsOf ts) (fun s hm => hs _ (mem_textsOf.1 hm))
  have h3 := rends_w (textsOf ts) (by omega) ts (fun s hs => mem_textsOf.2 hs)
  have h4 : tabW (textsOf ts) ≤ (ts.map txtW).sum := by
    have := tabW_fold ts []
    have h0 : tabW [] = 0 := rfl
    unfold textsOf
    omega
  have h5 := Lib.uvarint_length 3 (textsOf ts).length (Nat.lt_of_le_of_lt h1 (Nat.lt_of_lt_of_le hl (by decide)))
  have h6 : magicB.length = 9 := rfl
  have h7 : (rends (textsOf ts) ts) = outOf ts := rfl
  rw [h7] at h3
  unfold encB
  simp only [List.length_append, uv_one hk]
  omega
/-! ### the parts -/
theorem uv_many {n : Nat} (h : n ≤ 1073741824) : (Lib.uvarint n).length ≤ 5 := Lib.uvarint_length 4 n (Nat.lt_of_le_of_lt h (by decide))
theorem costs_dep : ∀ d : DepT, formB d = true → (tokDep d).length ≤ 1073741824 → costs (tokDep d) ≤ 2 * txtN d + 24 * depN d
  | .mk k nm op ev n args, h, hl => by
    by_cases hk : k = 1
    · subst hk
      have h0 := h
      unfold formB at h
      rw [if_pos rfl] at h
      simp only [Bool.and_eq_true, Bool.or_eq_true, decide_eq_true_eq] at h
      obtain ⟨⟨h1, h2⟩, h3⟩ := h
      rw [tokDep_name]
      unfold txtN depN
      have h4 : (Lib.uvarint op.toNat).length = 1 := uv_one (by omega)
      have h5 : (Lib.uvarint 1).length = 1 := uv_one (by decide)
      simp only [costs_cons, cost, h4, h5]
      split
      · simp only [costs_cons, costs_nil, cost]
        omega
      · rw [costs_nil]
        omega
    · obtain ⟨hk1, hk2, _, _, _, hn, hi⟩ := dform_node h hk
      have ih : ∀ i, formB (args i) = true → (tokDep (args i)).length ≤ 1073741824 → costs (tokDep (args i)) ≤ 2 * txtN (args i) + 24 * depN (args i) := fun i => costs_dep (args i)
      rw [tokDep_node hk] at hl ⊢
      unfold tokDeps at hl ⊢
      rw [List.length_cons, List.length_cons] at hl
      have hc := count_le args
      have h4 : (Lib.uvarint k.toNat).length = 1 := uv_one (by omega)
      have h5 := uv_many (n := n) (by omega)
      have h6 := costs_fin n (fun i => tokDep (args i)) (fun j => 2 * (if h : j < n then txtN (args ⟨j, h⟩) else 0) + 24 * (if h : j < n then depN (args ⟨j, h⟩) else 0)) (fun i => by
        have h7 := tokDeps_one args i
        unfold tokDeps at h7
        rw [List.length_cons] at h7
        rw [dif_pos i.isLt, dif_pos i.isLt]
        exact ih i (hi i) (by omega))
      rw [upto_add, upto_mul, upto_mul] at h6
      unfold txtN depN
      simp only [costs_cons, cost, h4]
      omega
theorem costs_deps {n : Nat} {args : Fin n → DepT} (hn : n ≤ 16) (h : ∀ i, formB (args i) = true) (hl : ∀ i, (tokDep (args i)).length ≤ 1073741824) : costs (tokDeps n args) ≤ 1 + depsMost n args n := by
  unfold tokDeps depsMost
  rw [costs_cons]
  have h1 : (Lib.uvarint n).length = 1 := uv_one (by omega)
  have h2 := costs_fin n (fun i => tokDep (args i)) (fun j => if h : j < n then 2 * txtN (args ⟨j, h⟩) + 24 * depN (args ⟨j, h⟩) else 0) (fun i => by
    rw [dif_pos i.isLt]
    exact costs_dep _ (h i) (hl i))
  simp only [cost, h1]
  omega
theorem costs_pkg {p : PkgT} (h : pkgCheck p = 0) (hl : (tokPkg p).length ≤ 1073741824) : costs (tokPkg p) ≤ pkgMost p := by
  obtain ⟨h1, h2, h3, h4, h5⟩ := pkgCheck_parts h
  have h7 := depsB_parts h4
  unfold filesB at h5
  rw [Bool.and_eq_true, List.all_eq_true] at h5
  obtain ⟨h8, h9⟩ := h5
  have h8 : p.files.length ≤ 16 := by simpa using h8
  have hdl : ∀ i j, (tokDep (p.deps i j)).length ≤ 1073741824 := fun i j => Nat.le_trans (tokDeps_one (p.deps i) j) (Nat.le_trans (tokPkg_lists p i) hl)
  have ha := costs_fin 7 (fun j => tokDeps (p.n j) (p.deps j)) (fun j => 1 + (if h : j < 7 then depsMost (p.n ⟨j, h⟩) (p.deps ⟨j, h⟩) (p.n ⟨j, h⟩) else 0)) (fun i => by
    rw [dif_pos i.isLt]
    exact costs_deps (h7 i).1 (fun j => depCheck_form ((h7 i).2 j)) (hdl i))
  rw [upto_add, show upto (fun _ => 1) 7 = 7 from rfl] at ha
  have hb : costs (p.files.map .txt) ≤ (p.files.map fileF).sum := by
    have := costs_flat (fun s => [Tok.txt s]) fileF p.files (fun s _ => by
      show s.size + 5 + 0 ≤ 2 * s.size + 8
      omega)
    have e : ∀ l : List ByteArray, (l.flatMap fun s => [Tok.txt s]) = l.map .txt := fun l => by
      induction l with
      | nil => rfl
      | cons s l ih => rw [List.flatMap_cons, ih]; rfl
    rw [e] at this
    exact this
  have hc : (Lib.uvarint p.files.length).length = 1 := uv_one (by omega)
  unfold tokPkg pkgMost listMost
  simp only [costs_append, costs_cons, costs_nil, cost, hc]
  omega
theorem costs_repo {r : RepoT} (hn : r.name.size ≤ 60) (hp : -9223372036854775808 ≤ r.prio ∧ r.prio ≤ 9223372036854775807) (hc : ∀ p ∈ r.pkgs, pkgCheck p = 0) (hk : r.pkgs.length ≤ 200) (hl : (tokRepoT r).length ≤ 1073741824) : costs (tokRepoT r) ≤ 64 + nameF r + (r.pkgs.map pkgMost).sum := by
  have h1 := Lib.uvarint_length64 (zig_lt hp.1 hp.2)
  have h2 : (Lib.uvarint (if r.inst then 1 else 0)).length = 1 := uv_one (by split <;> decide)
  have h3 := uv_many (n := r.pkgs.length) (by omega)
  have h4 := costs_flat tokPkg pkgMost r.pkgs (fun p hp2 => costs_pkg (hc p hp2) (by
    have h5 := mem_flat_len (g := tokPkg) hp2
    unfold tokRepoT tokRepo at hl
    simp only [List.length_cons] at hl
    omega))
  unfold tokRepoT tokRepo nameF
  simp only [costs_cons, cost, h2]
  omega
theorem BuiltOK.keeps {rl : List RepoT} {rs : List RepoH} {ks : List KeptT} {ats : List (Nat × Nat)} (h : BuiltOK rl rs ks ats) : ks.map (·.pkg) = rl.flatMap (·.pkgs) := by
  induction h with
  | nil => rfl
  | add r h e ih => simp [List.flatMap_append, ih, Function.comp_def]
/-- A pool's bytes are no more than its texts and things say. -/
theorem encB_most {rl : List RepoT} {rs : List RepoH} {ks : List KeptT} {ats : List (Nat × Nat)} (h : BuiltOK rl rs ks ats) (hp : ∀ r ∈ rl, -9223372036854775808 ≤ r.prio ∧ r.prio ≤ 9223372036854775807) (ht : (rl.flatMap tokRepoT).length + 1 ≤ 8388608) {kd : Nat} (hk : kd = 1 ∨ kd = 2) : (encB kd (tokPool rs ks)).length ≤ poolMost rl ks := by
  have hh := h.has
  have h1 := (hh.small hp (by omega)).1
  have h2 := tokPool_of hh
  have h3 := encB_cost h1 (by rw [h2, List.length_cons]; omega) (kd := kd) (by omega)
  rw [h2] at h3 ⊢
  have h4 := costs_flat tokRepoT (fun r => 64 + nameF r + (r.pkgs.map pkgMost).sum) rl (fun r hr => by
    have := mem_flat_len (g := tokRepoT) hr
    exact costs_repo (hh.name r hr) (hp r hr) (hh.fine r hr) (pkgs_le hh r hr) (by omega))
  have h5 : (rl.map fun r => 64 + nameF r + (r.pkgs.map pkgMost).sum).sum = 64 * rl.length + (rl.map nameF).sum + ((rl.flatMap (·.pkgs)).map pkgMost).sum := by
    clear h hp ht hh h1 h2 h3 h4
    induction rl with
    | nil => rfl
    | cons r l ih =>
      rw [List.map_cons, List.sum_cons, ih, List.flatMap_cons, List.map_append, List.sum_append, List.length_cons, List.map_cons, List.sum_cons]
      omega
  have h6 : (ks.map keptF).sum = ((rl.flatMap (·.pkgs)).map pkgMost).sum := by
    rw [← h.keeps, List.map_map]
    rfl
  have h7 : (Lib.uvarint rl.length).length = 1 := uv_one (by have := hh.rlen; omega)
  rw [costs_cons] at h3
  simp only [cost, h7] at h3
  unfold poolMost
  omega
/-! ### no sum is too great for a word -/
theorem txtN_le : ∀ d : DepT, formB d = true → txtN d ≤ 120 * depN d
  | .mk k nm op ev n args, h => by
    by_cases hk : k = 1
    · subst hk
      unfold formB at h
      rw [if_pos rfl] at h
      simp only [Bool.and_eq_true, Bool.or_eq_true, decide_eq_true_eq] at h
      obtain ⟨⟨h1, h2⟩, h3⟩ := h
      have h4 := nameB_size h1
      have h5 : ev.size ≤ 60 := by
        rcases h3 with h3 | h3
        · omega
        · exact parse_size h3.2
      subst h2
      unfold txtN depN
      show nm.size + ev.size + 0 ≤ 120 * (1 + 0)
      omega
    · obtain ⟨hk1, hk2, h3, h4, h5, hn, hi⟩ := dform_node h hk
      have ih : ∀ i, formB (args i) = true → txtN (args i) ≤ 120 * depN (args i) := fun i => txtN_le (args i)
      unfold txtN depN
      have h6 := upto_le (fun j => if h : j < n then txtN (args ⟨j, h⟩) else 0) (fun j => 120 * (if h : j < n then depN (args ⟨j, h⟩) else 0)) n (fun j hj => by
        simp only [dif_pos hj]
        exact ih _ (hi _))
      rw [upto_mul] at h6
      rw [h3, h5]
      show 0 + 0 + _ ≤ _
      omega
theorem depN_le : ∀ d : DepT, formB d = true → depN d ≤ (tokDep d).length
  | .mk k nm op ev n args, h => by
    by_cases hk : k = 1
    · subst hk
      unfold formB at h
      rw [if_pos rfl] at h
      simp only [Bool.and_eq_true, Bool.or_eq_true, decide_eq_true_eq] at h
      obtain ⟨⟨h1, h2⟩, h3⟩ := h
      subst h2
      unfold depN
      have := tokDep_pos (.mk 1 nm op ev 0 args)
      show 1 + 0 ≤ _
      omega
    · obtain ⟨hk1, hk2, h3, h4, h5, hn, hi⟩ := dform_node h hk
      have ih : ∀ i, formB (args i) = true → depN (args i) ≤ (tokDep (args i)).length := fun i => depN_le (args i)
      unfold depN
      rw [tokDep_node hk]
      unfold tokDeps
      have h6 := upto_sum n (fun i => tokDep (args i)) (fun j => if h : j < n then depN (args ⟨j, h⟩) else 0) (fun i => by
        simp only [dif_pos i.isLt]
        exact ih i (hi i))
      simp only [List.length_cons]
      omega
theorem depsMost_le {n : Nat} {args : Fin n → DepT} (hn : n ≤ 16) (h : ∀ i, formB (args i) = true) {m : Nat} (hl : ∀ i, (tokDep (args i)).length ≤ m) : depsMost n args n ≤ 16 * (264 * m) := by
  unfold depsMost
  have h1 := upto_le (fun j => if h : j < n then 2 * txtN (args ⟨j, h⟩) + 24 * depN (args ⟨j, h⟩) else 0) (fun _ => 264 * m) n (fun j hj => by
    simp only [dif_pos hj]
    have h2 := txtN_le _ (h ⟨j, hj⟩)
    have h3 := depN_le _ (h ⟨j, hj⟩)
    have h4 := hl ⟨j, hj⟩
    omega)
  have h5 : ∀ (c k : Nat), upto (fun _ => c) k = k * c := fun c k => by
    induction k with
    | zero => simp [upto]
    | succ k ih => unfold upto; rw [ih, Nat.add_mul, Nat.one_mul]
  rw [h5] at h1
  exact Nat.le_trans h1 (Nat.mul_le_mul_right _ hn)
theorem sum_le {α : Type} (f : α → Nat) (c : Nat) : ∀ (l : List α), (∀ x ∈ l, f x ≤ c) → (l.map f).sum ≤ l.length * c
  | [], _ => by simp
  | x :: l, h => by
    have h1 := sum_le f c l (fun y hy => h y (List.mem_cons_of_mem _ hy))
    have h2 := h x (by simp)
    rw [List.map_cons, List.sum_cons, List.length_cons, Nat.add_mul, Nat.one_mul]
    omega
theorem pkgMost_le {p : PkgT} (h : pkgCheck p = 0) (hl : (tokPkg p).length ≤ 8388608) : pkgMost p ≤ 281474976710656 := by
  obtain ⟨h1, h2, h3, h4, h5⟩ := pkgCheck_parts h
  have h6 := pkg_evr h
  have h7 := depsB_parts h4
  have n1 := nameB_size h1
  have n2 := archB_size h2
  have n3 := vendB_size h3
  unfold filesB at h5
  rw [Bool.and_eq_true, List.all_eq_true] at h5
  obtain ⟨h8, h9⟩ := h5
  have h8 : p.files.length ≤ 16 := by simpa using h8
  have hdl : ∀ i j, (tokDep (p.deps i j)).length ≤ 8388608 := fun i j => Nat.le_trans (tokDeps_one (p.deps i) j) (Nat.le_trans (tokPkg_lists p i) hl)
  have ha : listMost p 7 ≤ 7 * (16 * (264 * 8388608)) := by
    unfold listMost
    refine Nat.le_trans (upto_le _ (fun _ => 16 * (264 * 8388608)) 7 (fun j hj => ?_)) (by decide)
    simp only [dif_pos hj]
    exact depsMost_le (h7 _).1 (fun i => depCheck_form ((h7 _).2 i)) (hdl _)
  have hb : (p.files.map fileF).sum ≤ p.files.length * 128 := sum_le fileF 128 p.files (fun s hs => by
    have := h9 s hs
    unfold fileOk at this
    rw [Bool.and_eq_true] at this
    have := nameB_size this.1
    unfold fileF
    omega)
  unfold pkgMost
  omega
theorem poolMost_le {rl : List RepoT} {rs : List RepoH} {ks : List KeptT} {ats : List (Nat × Nat)} (h : BuiltOK rl rs ks ats) (ht : (rl.flatMap tokRepoT).length + 1 ≤ 8388608) : poolMost rl ks ≤ 1152921504606846976 := by
  have hh := h.has
  have h1 : (rl.map nameF).sum ≤ rl.length * 120 := sum_le nameF 120 rl (fun r hr => by
    have := hh.name r hr
    unfold nameF
    omega)
  have h2 : (ks.map keptF).sum ≤ ks.length * 281474976710656 := sum_le keptF _ ks (fun k hk => by
    refine pkgMost_le (hh.kept k hk) ?_
    have h3 : k.pkg ∈ rl.flatMap (·.pkgs) := by
      rw [← h.keeps]
      exact List.mem_map_of_mem hk
    obtain ⟨r, hr, hp⟩ := List.mem_flatMap.1 h3
    have h4 := mem_flat_len (g := tokRepoT) hr
    have h5 := mem_flat_len (g := tokPkg) hp
    have h6 : (tokRepoT r).length = (r.pkgs.flatMap tokPkg).length + 4 := by
      unfold tokRepoT tokRepo
      simp only [List.length_cons]
    omega)
  have h3 := hh.rlen
  have h4 := hh.klen
  unfold poolMost
  omega
end Go.Proofs.YtbdankpkdhhlmaaGreat
namespace Go.Proofs.YtbdankpkdhhlmaaGreat
set_option linter.unusedVariables false
set_option linter.unusedSimpArgs false
open Go.RowKit Go.Maps

set_option maxHeartbeats 2000000 in
set_option maxRecDepth 100000 in
/-- texts. -/
theorem texts_c : ∀ (d : DepT) (cs : List Value) (S : Nat → Prop) (w : World), DepC w S d cs → txtN d ≤ 1099511627776 → depN d ≤ 1099511627776 →
    Calls Tryz.prog 17 #[.agg cs.toArray] w fun e w' => (∃ A B C : Nat, e = .returned (.tuple #[.int .i64 (A : Int), .int .i64 (B : Int), .int .i64 (C : Int)]) ∧ Hid (A = txtN d ∧ B = depN d ∧ C = 2 * depN d)) ∧ Below w.heap.size w w' := by
  intro d
  induction d with
  | mk k nm op ev n args ih =>
    intro cs S w h ht hd
    obtain ⟨a, c, rfl, hw, hnm, hev, hn, hin⟩ := h
    have IH := Lib.hid ih
    have HIN := Lib.hid hin
    clear ih hin
    show Calls Tryz.prog 17 #[.agg #[.int .i64 k, .string nm, .int .i64 op, .string ev, .slice a n c]] w _
    obtain ⟨w1, e1⟩ : ∃ w1, w.alloc (.cells #[.int .i64 k, .string nm, .int .i64 op, .string ev, .slice a n c] 52) = w1 := ⟨_, rfl⟩
    have HB1 : Hid (Below w.heap.size w w1 ∧ Box5 w1 w.heap.size k nm op ev (.slice a n c)) := by
      rw [← e1]
      exact ⟨below1 _ _, .of (alloc_at _ _)⟩
    have p1 := HB1.out.2.c1
    have p3 := HB1.out.2.c3
    have p4 := HB1.out.2.c4
    obtain ⟨F, hF⟩ : ∃ F : Nat → Nat, (fun j => if h : j < n then txtN (args ⟨j, h⟩) else 0) = F := ⟨_, rfl⟩
    obtain ⟨G, hG⟩ : ∃ G : Nat → Nat, (fun j => if h : j < n then depN (args ⟨j, h⟩) else 0) = G := ⟨_, rfl⟩
    have HT0 : Hid (txtN (.mk k nm op ev n args) = nm.size + ev.size + upto F n) := by rw [← hF]; exact rfl
    have HD0 : Hid (depN (.mk k nm op ev n args) = 1 + upto G n) := by rw [← hG]; exact rfl
    have HFI : Hid (∀ i : Fin n, F i = txtN (args i)) := fun i => by rw [← hF]; simp
    have HGI : Hid (∀ i : Fin n, G i = depN (args i)) := fun i => by rw [← hG]; simp
    clear hF hG
    generalize txtN (.mk k nm op ev n args) = TN at *
    generalize depN (.mk k nm op ev n args) = DN at *
    have hsz : nm.size + ev.size ≤ TN := by have := HT0.out; omega
    go_enter Tryz.func17, Tryz.ntmps17
    go_wp2_with fail
    go_loopw [5, 6, 7, 8] (fun v5 v6 v7 v8 wr => ∃ i A B C : Nat, v5 = .int .i64 (A : Int) ∧ v6 = .int .i64 (B : Int) ∧ v7 = .int .i64 (C : Int) ∧ v8 = .int .i64 (i : Int) ∧ i ≤ n ∧ A ≤ 1099511627776 ∧ B ≤ 1099511627776 ∧ C ≤ 2199023255552 ∧ Hid (A = nm.size + ev.size + upto F i ∧ B = 1 + upto G i ∧ C = 2 * B ∧ Below w.heap.size w wr ∧ Box5 wr w.heap.size k nm op ev (.slice a n c))) (fun _ _ _ v8 _ => n - (intOf v8).toNat)
    case atStart => exact ⟨0, nm.size + ev.size, 1, 2, by go_num, rfl, rfl, rfl, Nat.zero_le _, by omega, by omega, by omega, rfl, rfl, rfl, HB1.out⟩
    case round =>
      obtain ⟨i, A, B, C, rfl, rfl, rfl, rfl, hin, hA, hB, hC, HT⟩ := hrel
      clear p1 p3 p4
      have p4 := HT.out.2.2.2.2.c4
      by_cases hlt : i < n
      · have hi1 : (i : Int) < (n : Int) := by omega
        obtain ⟨b', off, rfl, hs, hi⟩ := HIN.out (by omega)
        have hIH := IH.out ⟨i, hlt⟩
        have hFI := HFI.out ⟨i, hlt⟩
        have hGI := HGI.out ⟨i, hlt⟩
        obtain ⟨k', nm', op', ev', a', n', c', args', he⟩ := elem_at (hi ⟨i, hlt⟩)
        generalize args ⟨i, hlt⟩ = d' at hIH hFI hGI he
        replace he := Lib.hid (he.below HT.out.2.2.2.1)
        have u1 := upto_mono F (show i + 1 ≤ n by omega)
        have u2 := upto_mono G (show i + 1 ≤ n by omega)
        rw [upto_succ] at u1 u2
        have hFI : F i = txtN d' := hFI
        have hGI : G i = depN d' := hGI
        have s1 := HT0.out
        have s2 := HD0.out
        have s3 := HT.out.1
        have s4 := HT.out.2.1
        have b1 : A + txtN d' ≤ 1099511627776 := by omega
        have b2 : B + depN d' ≤ 1099511627776 := by omega
        have HU : Hid (upto F (i + 1) = upto F i + txtN d' ∧ upto G (i + 1) = upto G i + depN d') := ⟨by rw [upto_succ, hFI], by rw [upto_succ, hGI]⟩
        replace hIH := Lib.hid (fun W h => hIH [.int .i64 k', .string nm', .int .i64 op', .string ev', .slice a' n' c'] S W h (by omega) (by omega))
        clear hi u1 u2 hFI hGI s1 s2 s3 s4
        generalize txtN d' = ta at *
        generalize depN d' = tb at *
        have q0 := he.out.c0
        have q1 := he.out.c1
        have q2 := he.out.c2
        have q3 := he.out.c3
        have q4 := he.out.c4
        go_wp2_with fail
        refine (hIH.out _ he.out.dep).mono ?_
        rintro e w9 ⟨⟨A', B', C', rfl, HR⟩, hb9⟩
        replace hb9 := Lib.hid hb9
        have r1 := HR.out.1
        have r2 := HR.out.2.1
        have r3 := HR.out.2.2
        have r4 : A' ≤ 1099511627776 := by omega
        have r5 : B' ≤ 1099511627776 := by omega
        have r6 : C' ≤ 2199023255552 := by omega
        have r7 : A + A' ≤ 1099511627776 := by omega
        have r8 : B + B' ≤ 1099511627776 := by omega
        have HC2 : Hid (C + C' = 2 * (B + B')) := Lib.hid (by have := HT.out.2.2.1; omega)
        clear q0 q1 q2 q3 q4 r1 r2 r3 b1 b2
        go_wp2_with fail
        go_roundw
        case rel => exact ⟨i + 1, A + A', B + B', C + C', by go_num, by go_num, by go_num, by go_num, by omega, r7, r8, by have := HC2.out; omega, by have h1 := HT.out.1; have h2 := HU.out.1; have h3 := HR.out.1; omega, by have h1 := HT.out.2.1; have h2 := HU.out.2; have h3 := HR.out.2.1; omega, HC2.out, below_tr HT.out.2.2.2.1 hb9.out, HT.out.2.2.2.2.below hb9.out⟩
        case measure => simp [intOf]; omega
      · have hi1 : ¬ (i : Int) < (n : Int) := by omega
        go_wp2_with fail
        go_ret3
        have e : i = n := by omega
        have h1 := HT.out.1
        have h2 := HT.out.2.1
        have h3 := HT.out.2.2.1
        have h4 := HT0.out
        have h5 := HD0.out
        rw [e] at h1 h2
        exact ⟨⟨A, B, C, rfl, by omega, by omega, by omega⟩, HT.out.2.2.2.1⟩
end Go.Proofs.YtbdankpkdhhlmaaGreat
namespace Go.Proofs.YtbdankpkdhhlmaaGreat
set_option linter.unusedVariables false
set_option linter.unusedSimpArgs false
open Go.RowKit Go.Maps

theorem kept_toks {rl : List RepoT} {rs : List RepoH} {ks : List KeptT} {ats : List (Nat × Nat)} (h : BuiltOK rl rs ks ats) {m : Nat} (ht : (rl.flatMap tokRepoT).length + 1 ≤ m) {k : KeptT} (hk : k ∈ ks) : (tokPkg k.pkg).length ≤ m := by
  have h3 : k.pkg ∈ rl.flatMap (·.pkgs) := by
    rw [← h.keeps]
    exact List.mem_map_of_mem hk
  obtain ⟨r, hr, hp⟩ := List.mem_flatMap.1 h3
  have h4 := mem_flat_len (g := tokRepoT) hr
  have h5 := mem_flat_len (g := tokPkg) hp
  have h6 : (tokRepoT r).length = (r.pkgs.flatMap tokPkg).length + 4 := by
    unfold tokRepoT tokRepo
    simp only [List.length_cons]
  omega
/-- What a package that may be has is small. -/
structure PkgS (p : PkgT) : Prop where
  n1 : p.name.size ≤ 60
  n2 : p.evr.size ≤ 60
  n3 : p.arch.size ≤ 60
  n4 : p.vendor.size ≤ 60
  nf : p.files.length ≤ 16
  fs : ∀ s ∈ p.files, s.size ≤ 60
  ds : ∀ i j, txtN (p.deps i j) ≤ 1099511627776 ∧ depN (p.deps i j) ≤ 1099511627776
theorem pkgS_of {p : PkgT} (h : pkgCheck p = 0) (hl : (tokPkg p).length ≤ 8388608) : PkgS p := by
  obtain ⟨h1, h2, h3, h4, h5⟩ := pkgCheck_parts h
  have h6 := pkg_evr h
  have h7 := depsB_parts h4
  unfold filesB at h5
  rw [Bool.and_eq_true, List.all_eq_true] at h5
  obtain ⟨h8, h9⟩ := h5
  refine ⟨nameB_size h1, h6, archB_size h2, vendB_size h3, by simpa using h8, fun s hs => ?_, fun i j => ?_⟩
  · have := h9 s hs
    unfold fileOk at this
    rw [Bool.and_eq_true] at this
    exact nameB_size this.1
  · have a1 := depCheck_form ((h7 i).2 j)
    have a2 := txtN_le _ a1
    have a3 := depN_le _ a1
    have a4 := tokDeps_one (p.deps i) j
    have a5 := tokPkg_lists p i
    omega
theorem list_most {w : World} {S : Nat → Prop} {p : PkgT} {a : Fin 7 → Option Addr} {c : Fin 7 → Nat} {vf : Value} (h : PkgV w S p (fun i => .slice (a i) (p.n i) (c i)) vf) (hs : PkgS p) {j : Nat} (hj : j < 7) : ∃ (n : Nat) (args : Fin n → DepT) (ai : Option Addr) (ci : Nat), (.slice (a ⟨j, hj⟩) (p.n ⟨j, hj⟩) (c ⟨j, hj⟩) : Value) = .slice ai n ci ∧ n * 72 ≤ 140737488355328 ∧ (n ≠ 0 → ∃ b off, ai = some ⟨b, off, none⟩ ∧ S b ∧ ∀ i : Fin n, ∃ cs', DepC w S (args i) cs' ∧ CellsAt w b (off + i * 5) cs') ∧ listMost p (j + 1) = listMost p j + depsMost n args n ∧ ∀ i, txtN (args i) ≤ 1099511627776 ∧ depN (args i) ≤ 1099511627776 := by
  obtain ⟨a', c', e, h1, h2⟩ := h.deps ⟨j, hj⟩
  injection e with e1 e2 e3
  refine ⟨p.n ⟨j, hj⟩, p.deps ⟨j, hj⟩, a ⟨j, hj⟩, c ⟨j, hj⟩, rfl, h1, fun hn => ?_, ?_, fun i => hs.ds _ i⟩
  · rw [e1]
    exact h2 hn
  · unfold listMost
    rw [upto_succ, dif_pos hj]
theorem depsMost_succ {n : Nat} {args : Fin n → DepT} {k : Nat} (hk : k < n) : depsMost n args (k + 1) = depsMost n args k + (2 * txtN (args ⟨k, hk⟩) + 24 * depN (args ⟨k, hk⟩)) := by
  unfold depsMost
  rw [upto_succ, dif_pos hk]
theorem strs_at {w : World} {S : Nat → Prop} {l : List ByteArray} {a : Option Addr} {n c : Nat} (h : StrsV w S l (.slice a n c)) : n = l.length ∧ (l ≠ [] → ∃ b off, a = some ⟨b, off, none⟩ ∧ ∀ i (hi : i < l.length), w.cell? ⟨b, off + i, none⟩ = some (.string l[i])) := by
  obtain ⟨a', c', e, _, _, h1⟩ := h
  injection e with e1 e2 e3
  subst e1
  refine ⟨e2, fun hl => ?_⟩
  obtain ⟨b, off, e, hS, hi⟩ := h1 hl
  exact ⟨b, off, e, hi⟩
set_option maxHeartbeats 16000000 in
set_option maxRecDepth 100000 in
theorem cacheSmall_walk (w : World) (kd : Int) (l : List RepoT) (a : Option Addr) (n c : Nat) (hl : ReposV w (· < w.heap.size) l (.slice a n c)) (hc : CanL (poolsOf l).rl) :
    Calls Tryz.prog 5 #[.int .i64 kd, .slice a n c] w fun e w' => e = .returned (.bool true) ∧ Below w.heap.size w w' := by
  have HL := Lib.hid hl
  have HC := Lib.hid hc
  clear hl hc
  go_enter Tryz.func5, Tryz.ntmps5
  go_wp2_with fail
  refine (awake_c w).mono ?_
  rintro e w1 ⟨rfl, hb1⟩
  replace hb1 := Lib.hid hb1
  have hP := Lib.hid (pools_c kd l a n c w1 (HL.out.below hb1.out))
  go_wp2_with fail
  refine hP.out.mono ?_
  rintro e w2 ⟨B1, role1, P1, M1, Q1, rfl, hBw1, hb2, hboth1⟩
  have HB2 : Hid (Below w.heap.size w w2) := Lib.hid (below_tr hb1.out hb2)
  have HBO1 := Lib.hid hboth1
  clear hP hb2 hboth1 hBw1 hb1
  have hP := Lib.hid (pools_c kd l a n c w2 (HL.out.below HB2.out))
  go_wp2_with fail
  refine hP.out.mono ?_
  rintro e w3 ⟨B2, role2, P2, M2, Q2, rfl, hBw2, hb3, hboth2⟩
  have HB3 : Hid (Below w.heap.size w w3) := Lib.hid (below_tr HB2.out hb3)
  have HBO2 := Lib.hid hboth2
  have HBO1 := Lib.hid (HBO1.out.below hb3)
  clear hP hb3 hboth2 hBw2 HL HB2
  obtain ⟨k, hk, hk2⟩ := kindN kd
  rw [hk] at HBO1 HBO2
  have HOK := Lib.hid (poolsOf_ok l)
  obtain ⟨st, hst⟩ : ∃ st, poolsOf l = st := ⟨_, rfl⟩
  rw [hst] at HC HOK HBO1 HBO2
  clear hst hk
  obtain ⟨lb, hlb⟩ : ∃ lb, encB k (tokPool st.rs st.ks) = lb := ⟨_, rfl⟩
  have HW1 : Hid (∀ W : World, Below w3.heap.size w3 W → Calls Tryz.prog 12 #[.pointer (some ⟨P1, 0, none⟩)] W fun e w' => (∃ a c, e = .returned (.tuple #[.slice a lb.length c, .int .i64 0]) ∧ BytesAt w' a lb) ∧ Below W.heap.size W w') := Lib.hid fun W hW => by
    obtain ⟨vr1, va1, lv1, hp1⟩ := HBO1.out.pool
    refine (write_c (hp1.below hW) (HOK.out.canW HC.out (by omega))).mono ?_
    rintro e w' ⟨v1, rfl, hv1⟩
    rw [show (k : Int).toNat = k from rfl, hlb] at hv1
    obtain ⟨a1, c1, rfl, hby1, _, _⟩ := hv1.slice2
    exact ⟨⟨a1, c1, rfl, hby1⟩, hv1.2⟩
  have HW2 : Hid (∀ W : World, Below w3.heap.size w3 W → Calls Tryz.prog 12 #[.pointer (some ⟨P2, 0, none⟩)] W fun e w' => (∃ a c, e = .returned (.tuple #[.slice a lb.length c, .int .i64 0]) ∧ BytesAt w' a lb) ∧ Below W.heap.size W w') := Lib.hid fun W hW => by
    obtain ⟨vr1, va1, lv1, hp1⟩ := HBO2.out.pool
    refine (write_c (hp1.below hW) (HOK.out.canW HC.out (by omega))).mono ?_
    rintro e w' ⟨v1, rfl, hv1⟩
    rw [show (k : Int).toNat = k from rfl, hlb] at hv1
    obtain ⟨a1, c1, rfl, hby1, _, _⟩ := hv1.slice2
    exact ⟨⟨a1, c1, rfl, hby1⟩, hv1.2⟩
  have HMOST : Hid (lb.length ≤ poolMost st.rl st.ks) := Lib.hid (by
    rw [← hlb]
    exact encB_most HOK.out HC.out.prio HC.out.toks hk2)
  have HTOT := Lib.hid (poolMost_le HOK.out HC.out.toks)
  have HPS : Hid (∀ i (hi : i < st.ks.length), PkgS st.ks[i].pkg) := Lib.hid fun i hi => pkgS_of (HOK.out.has.kept _ (List.getElem_mem hi)) (kept_toks HOK.out HC.out.toks (List.getElem_mem hi))
  have hkn200 : st.ks.length ≤ 200 := HOK.out.has.klen
  have HNM : Hid (∀ r ∈ st.rl, r.name.size ≤ 60) := Lib.hid HOK.out.has.name
  have HBE : Hid (∀ b, b < B1 → b < w3.heap.size → True) := Lib.hid fun _ _ _ => trivial
  obtain ⟨mr1, ma1, hdoc1, _⟩ := HBO1.out.doc
  obtain ⟨x1, y1, rfl⟩ := hdoc1.rform
  have hm8 : st.rl.length ≤ 8 := by
    have h1 := HBO1.out.built.len.1
    have h2 := HBO1.out.rlen
    omega
  have HQ : Hid (∀ W : World, Below w3.heap.size w3 W → W.cell? ⟨Q1, 1, none⟩ = some (.slice x1 st.rl.length y1)) := Lib.hid fun W hW => (hdoc1.below hW).box.cell (j := 1) rfl
  have HD1 := Lib.hid hdoc1
  have HRL : Hid (∀ W : World, Below w3.heap.size w3 W → Calls Tryz.prog 14 #[.pointer (some ⟨Q1, 0, none⟩)] W fun e w' => e = .returned (.int .i64 (st.ks.length : Int)) ∧ W = w') := Lib.hid fun W hW => (HBO1.out.below hW).rlen_c
  have HRP : Hid (∀ (i : Nat) (hi : i < st.ks.length) (W : World), Below w3.heap.size w3 W → Calls Tryz.prog 15 #[.pointer (some ⟨Q1, 0, none⟩), .int .i64 (i : Int)] W fun e w' => (∃ (pa : Fin 7 → Option Addr) (pc : Fin 7 → Nat) (af : Option Addr) (nf cf : Nat), e = .returned (.agg #[.string st.ks[i].pkg.name, .string st.ks[i].pkg.evr, .string st.ks[i].pkg.arch, .string st.ks[i].pkg.vendor, .slice (pa 0) (st.ks[i].pkg.n 0) (pc 0), .slice (pa 1) (st.ks[i].pkg.n 1) (pc 1), .slice (pa 2) (st.ks[i].pkg.n 2) (pc 2), .slice (pa 3) (st.ks[i].pkg.n 3) (pc 3), .slice (pa 4) (st.ks[i].pkg.n 4) (pc 4), .slice (pa 5) (st.ks[i].pkg.n 5) (pc 5), .slice (pa 6) (st.ks[i].pkg.n 6) (pc 6), .slice af nf cf]) ∧ PkgV w' (fun b => b < B1) st.ks[i].pkg (fun j => .slice (pa j) (st.ks[i].pkg.n j) (pc j)) (.slice af nf cf)) ∧ Below W.heap.size W w') := Lib.hid fun i hi W hW => (HBO1.out.below hW).rpkg hi
  clear hdoc1 hk2 HBO1 HBO2 HOK HC hlb HBE
  obtain ⟨rl, hrl⟩ : ∃ u, st.rl = u := ⟨_, rfl⟩
  obtain ⟨ks, hks⟩ : ∃ u, st.ks = u := ⟨_, rfl⟩
  rw [hrl] at HMOST HTOT HNM HQ HD1 hm8
  rw [hks] at HMOST HTOT HPS HRL HRP hkn200
  clear hrl hks
  obtain ⟨m, hm⟩ : ∃ m, rl.length = m := ⟨_, rfl⟩
  obtain ⟨kn, hkn⟩ : ∃ m, ks.length = m := ⟨_, rfl⟩
  rw [hm] at HQ HD1 hm8
  rw [hkn] at HRL hkn200
  have HM := Lib.hid hm
  have HKN := Lib.hid hkn
  clear hm hkn
  obtain ⟨TOT, hTOT⟩ : ∃ t, poolMost rl ks = t := ⟨_, rfl⟩
  have HSUM : Hid (TOT = 64 + 64 * m + (rl.map nameF).sum + (ks.map keptF).sum) := Lib.hid (by rw [← hTOT, ← HM.out]; rfl)
  rw [hTOT] at HMOST HTOT
  have hTT : TOT ≤ 1152921504606846976 := HTOT.out
  clear hTOT HTOT
  have HB33 : Hid (Below w3.heap.size w3 w3) := Lib.hid (Below.refl _ _)
  have q1 := HQ.out w3 HB33.out
  go_wp2_with fail
  go_loopw [10, 11] (fun va vi wr => ∃ i A : Nat, va = .int .i64 (A : Int) ∧ vi = .int .i64 (i : Int) ∧ i ≤ m ∧ A ≤ 1152921504606846976 ∧ Hid (A = 64 + 64 * m + sumT nameF rl i ∧ Below w3.heap.size w3 wr)) (fun _ vi _ => m - (intOf vi).toNat)
  case atStart => exact ⟨0, 64 + 64 * m, by go_num, rfl, Nat.zero_le _, by omega, by rw [sumT_zero, Nat.add_zero], HB33.out⟩
  case round =>
    clear q1
    obtain ⟨i, A, rfl, rfl, him, hA, HT⟩ := hrel
    have q1 := HQ.out wr HT.out.2
    by_cases hlt : i < m
    · have hi1 : (i : Int) < (m : Int) := by omega
      obtain ⟨G1, ap1, np1, cp1, r1, rfl, hr1, _, hg1⟩ := HD1.out.rowAt (k := i) (by have := HM.out; omega)
      have g1 := (hg1 wr HT.out.2).1
      have hr60 := HNM.out r1 (List.mem_of_getElem? hr1)
      have HS : Hid (sumT nameF rl (i + 1) = sumT nameF rl i + 2 * r1.name.size ∧ sumT nameF rl (i + 1) ≤ (rl.map nameF).sum) := Lib.hid ⟨sumT_succ hr1, sumT_le _ _ _⟩
      clear hr1 hg1
      generalize r1.name = nm at *
      go_wp2_with fail
      go_roundw
      case rel => exact ⟨i + 1, A + 2 * nm.size, by go_num, by go_num, by omega, by have h1 := HT.out.1; have h2 := HS.out.1; have h3 := HS.out.2; have h4 := HSUM.out; omega, by have h1 := HT.out.1; have h2 := HS.out.1; omega, HT.out.2⟩
      case measure => simp [intOf]; omega
    · have hi1 : ¬ (i : Int) < (m : Int) := by omega
      have HZ : Hid (A = 64 + 64 * m + (rl.map nameF).sum) := Lib.hid (by
        have h1 := HT.out.1
        have h2 : i = rl.length := by have := HM.out; omega
        rw [h2, sumT_full] at h1
        exact h1)
      have HB4 : Hid (Below w3.heap.size w3 wr) := Lib.hid HT.out.2
      go_wp2_with fail
      clear hi1 hlt him q1 HT
      obtain ⟨wq, rfl⟩ : ∃ x : World, x = wr := ⟨_, rfl⟩
      obtain ⟨A0, rfl⟩ : ∃ x : Nat, x = A := ⟨_, rfl⟩
      go_loopw [10, 12] (fun va vi wz => ∃ i A : Nat, va = .int .i64 (A : Int) ∧ vi = .int .i64 (i : Int) ∧ i ≤ kn ∧ A ≤ 1152921504606846976 ∧ Hid (A = 64 + 64 * m + (rl.map nameF).sum + sumT keptF ks i ∧ Below w3.heap.size w3 wz)) (fun _ vi _ => kn - (intOf vi).toNat)
      case atStart => exact ⟨0, A0, rfl, rfl, Nat.zero_le _, hA, by rw [sumT_zero, Nat.add_zero]; exact HZ.out, HB4.out⟩
      case round =>
        clear HZ HB4 hA
        obtain ⟨i, A, rfl, rfl, hik, hA, HT⟩ := hrel
        obtain ⟨wz, rfl⟩ : ∃ x : World, x = wr := ⟨_, rfl⟩
        go_wp2_with fail
        refine (HRL.out wz HT.out.2).mono ?_
        rintro e w4 ⟨rfl, hw4⟩
        subst hw4
        by_cases hlt : i < kn
        · have hi1 : (i : Int) < (kn : Int) := by omega
          have hi2 : i < ks.length := by have := HKN.out; omega
          have hC := HRP.out i hi2 wz HT.out.2
          have hps := HPS.out i hi2
          have HS : Hid (sumT keptF ks (i + 1) = sumT keptF ks i + pkgMost ks[i].pkg ∧ sumT keptF ks (i + 1) ≤ (ks.map keptF).sum) := Lib.hid ⟨sumT_succ (List.getElem?_eq_getElem hi2), sumT_le _ _ _⟩
          generalize ks[i].pkg = p at hC hps HS
          have hC := Lib.hid hC
          have HPSI := Lib.hid hps
          have hz1 := hps.n1
          have hz2 := hps.n2
          have hz3 := hps.n3
          have hz4 := hps.n4
          have HPM : Hid (pkgMost p = 96 + 2 * (p.name.size + p.evr.size + p.arch.size + p.vendor.size) + (p.files.map fileF).sum + listMost p 7) := Lib.hid rfl
          have HTA : Hid (A + pkgMost p ≤ 1152921504606846976) := Lib.hid (by
            have h1 := HT.out.1
            have h2 := HS.out.1
            have h3 := HS.out.2
            have h4 := HSUM.out
            omega)
          clear hi2 hps
          go_wp2_with fail
          refine hC.out.mono ?_
          rintro e w5 ⟨⟨pa, pc, af, nf, cf, rfl, hpv⟩, hb5⟩
          have HPV := Lib.hid hpv
          have HB5 : Hid (Below w3.heap.size w3 w5) := Lib.hid (below_tr HT.out.2 hb5)
          obtain ⟨w6, e6⟩ : ∃ w6, w5.alloc (.cells #[.string p.name, .string p.evr, .string p.arch, .string p.vendor, .slice (pa 0) (p.n 0) (pc 0), .slice (pa 1) (p.n 1) (pc 1), .slice (pa 2) (p.n 2) (pc 2), .slice (pa 3) (p.n 3) (pc 3), .slice (pa 4) (p.n 4) (pc 4), .slice (pa 5) (p.n 5) (pc 5), .slice (pa 6) (p.n 6) (pc 6), .slice af nf cf] 45) = w6 := ⟨_, rfl⟩
          have HB6 : Hid (Below w5.heap.size w5 w6 ∧ BoxN w6 w5.heap.size [.string p.name, .string p.evr, .string p.arch, .string p.vendor, .slice (pa 0) (p.n 0) (pc 0), .slice (pa 1) (p.n 1) (pc 1), .slice (pa 2) (p.n 2) (pc 2), .slice (pa 3) (p.n 3) (pc 3), .slice (pa 4) (p.n 4) (pc 4), .slice (pa 5) (p.n 5) (pc 5), .slice (pa 6) (p.n 6) (pc 6), .slice af nf cf] 45) := by
            rw [← e6]
            exact ⟨below1 _ _, boxN_alloc _ _ _⟩
          have HFV := Lib.hid (strs_at hpv.files)
          have hnf16 : nf ≤ 16 := by
            have h1 := HFV.out.1
            have h2 := HPSI.out.nf
            omega
          clear hpv hb5 hC
          have p0 := HB6.out.2.cell (j := 0) rfl
          have p1 := HB6.out.2.cell (j := 1) rfl
          have p2 := HB6.out.2.cell (j := 2) rfl
          have p3 := HB6.out.2.cell (j := 3) rfl
          go_wp2_with fail
          clear p0 p1 p2 p3
          go_loopw [10, 14] (fun va vi wf => ∃ j A' : Nat, va = .int .i64 (A' : Int) ∧ vi = .int .i64 (j : Int) ∧ j ≤ nf ∧ A' ≤ 1152921504606846976 ∧ Hid (A' = A + 96 + 2 * (p.name.size + p.evr.size + p.arch.size + p.vendor.size) + sumT fileF p.files j ∧ Below w5.heap.size w5 wf ∧ BoxN wf w5.heap.size [.string p.name, .string p.evr, .string p.arch, .string p.vendor, .slice (pa 0) (p.n 0) (pc 0), .slice (pa 1) (p.n 1) (pc 1), .slice (pa 2) (p.n 2) (pc 2), .slice (pa 3) (p.n 3) (pc 3), .slice (pa 4) (p.n 4) (pc 4), .slice (pa 5) (p.n 5) (pc 5), .slice (pa 6) (p.n 6) (pc 6), .slice af nf cf] 45)) (fun _ vi _ => nf - (intOf vi).toNat)
          case atStart => exact ⟨0, A + 96 + 2 * (p.name.size + p.evr.size + p.arch.size + p.vendor.size), by go_num, rfl, Nat.zero_le _, by have h1 := HTA.out; have h2 := HPM.out; omega, by rw [sumT_zero]; omega, HB6.out⟩
          case round =>
            clear HB6 e6
            obtain ⟨j, A', rfl, rfl, hjn, hA', HF⟩ := hrel
            obtain ⟨wf, rfl⟩ : ∃ x : World, x = wr := ⟨_, rfl⟩
            have p11 := HF.out.2.2.cell (j := 11) rfl
            by_cases hjl : j < nf
            · have hj1 : (j : Int) < (nf : Int) := by omega
              have hj2 : j < p.files.length := by have := HFV.out.1; omega
              obtain ⟨fb, fo, rfl, hfc⟩ := HFV.out.2 (by intro e; rw [e] at hj2; exact absurd hj2 (Nat.not_lt_zero _))
              have f1 := cell_tr HF.out.2.1 (hfc j hj2)
              have hs60 := HPSI.out.fs _ (List.getElem_mem hj2)
              have HSF : Hid (sumT fileF p.files (j + 1) = sumT fileF p.files j + (2 * p.files[j].size + 8) ∧ sumT fileF p.files (j + 1) ≤ (p.files.map fileF).sum) := Lib.hid ⟨sumT_succ (List.getElem?_eq_getElem hj2), sumT_le _ _ _⟩
              generalize p.files[j] = fs at f1 hs60 HSF
              clear hj2 hfc
              go_wp2_with fail
              go_roundw
              case rel => exact ⟨j + 1, A' + (2 * fs.size + 8), by go_num, by go_num, by omega, by have h1 := HF.out.1; have h2 := HSF.out.1; have h3 := HSF.out.2; have h4 := HTA.out; have h5 := HPM.out; omega, by have h1 := HF.out.1; have h2 := HSF.out.1; omega, HF.out.2⟩
              case measure => simp [intOf]; omega
            · have hj1 : ¬ (j : Int) < (nf : Int) := by omega
              have HZ : Hid (A' = A + 96 + 2 * (p.name.size + p.evr.size + p.arch.size + p.vendor.size) + (p.files.map fileF).sum) := Lib.hid (by
                have h1 := HF.out.1
                have h2 : j = p.files.length := by have := HFV.out.1; omega
                rw [h2, sumT_full] at h1
                exact h1)
              have p0 := HF.out.2.2.cell (j := 0) rfl
              have p1 := HF.out.2.2.cell (j := 1) rfl
              have p2 := HF.out.2.2.cell (j := 2) rfl
              have p3 := HF.out.2.2.cell (j := 3) rfl
              have p4 := HF.out.2.2.cell (j := 4) rfl
              have p5 := HF.out.2.2.cell (j := 5) rfl
              have p6 := HF.out.2.2.cell (j := 6) rfl
              have p7 := HF.out.2.2.cell (j := 7) rfl
              have p8 := HF.out.2.2.cell (j := 8) rfl
              have p9 := HF.out.2.2.cell (j := 9) rfl
              have p10 := HF.out.2.2.cell (j := 10) rfl
              go_wp2_with fail
              refine (rlists_c p.name p.evr p.arch p.vendor pa p.n pc af nf cf wf).mono ?_
              rintro e w7 ⟨L, rfl, _, hb7, hl7⟩
              have HB7 : Hid (Below w5.heap.size w5 w7 ∧ BoxN w7 L (listsL fun i => .slice (pa i) (p.n i) (pc i)) 42) := ⟨below_tr HF.out.2.1 hb7, hl7⟩
              clear hb7 hl7 p0 p1 p2 p3 p4 p5 p6 p7 p8 p9 p10 p11 HF hj1 hjl hjn
              go_wp2_with fail
              obtain ⟨A2, rfl⟩ : ∃ x : Nat, x = A' := ⟨_, rfl⟩
              go_loopw [10, 16] (fun va vi wl => ∃ j A' : Nat, va = .int .i64 (A' : Int) ∧ vi = .int .i64 (j : Int) ∧ j ≤ 7 ∧ A' ≤ 1152921504606846976 ∧ Hid (A' = A2 + listMost p j ∧ Below w5.heap.size w5 wl ∧ BoxN wl L (listsL fun i => .slice (pa i) (p.n i) (pc i)) 42)) (fun _ vi _ => 7 - (intOf vi).toNat)
              case atStart => exact ⟨0, A2, rfl, rfl, Nat.zero_le _, hA', rfl, HB7.out⟩
              case round =>
                clear HB7 hA'
                obtain ⟨j, A', rfl, rfl, hj7, hA', HJ⟩ := hrel
                obtain ⟨wl, rfl⟩ : ∃ x : World, x = wr := ⟨_, rfl⟩
                by_cases hjl : j < 7
                · have hj1 : (j : Int) < 7 := by omega
                  have hj2 : ¬ (7 : Int) ≤ j := by omega
                  obtain ⟨dn, args, ai, ci, hv, hnb, hin, hlm, hds⟩ := list_most HPV.out HPSI.out hjl
                  have HIN := Lib.hid hin
                  have HDS := Lib.hid hds
                  have HLM : Hid (listMost p (j + 1) = listMost p j + depsMost dn args dn ∧ listMost p (j + 1) ≤ listMost p 7) := Lib.hid ⟨hlm, upto_mono _ (by omega)⟩
                  have HLC : Hid (∀ W : World, BoxN W L (listsL fun i => .slice (pa i) (p.n i) (pc i)) 42 → W.cell? ⟨L, j, none⟩ = some (.slice ai dn ci)) := fun W hW => by rw [← hv]; exact hW.cell (listsL_at _ hjl)
                  clear hv hin hlm hds
                  obtain ⟨A3, rfl⟩ : ∃ x : Nat, x = A' := ⟨_, rfl⟩
                  go_wp2_with fail
                  go_loopw [10, 17] (fun va vi we => ∃ t A' : Nat, va = .int .i64 (A' : Int) ∧ vi = .int .i64 (t : Int) ∧ t ≤ dn ∧ A' ≤ 1152921504606846976 ∧ Hid (A' = A3 + depsMost dn args t ∧ Below w5.heap.size w5 we ∧ BoxN we L (listsL fun i => .slice (pa i) (p.n i) (pc i)) 42)) (fun _ vi _ => dn - (intOf vi).toNat)
                  case atStart => exact ⟨0, A3, rfl, rfl, Nat.zero_le _, hA', rfl, HJ.out.2⟩
                  case round =>
                    obtain ⟨t, A', rfl, rfl, htn, hA'', HE⟩ := hrel
                    obtain ⟨we, rfl⟩ : ∃ x : World, x = wr := ⟨_, rfl⟩
                    have l1 := HLC.out we HE.out.2.2
                    by_cases htl : t < dn
                    · have ht1 : (t : Int) < (dn : Int) := by omega
                      obtain ⟨db, dof, rfl, _, hi⟩ := HIN.out (by omega)
                      obtain ⟨k', nm', op', ev', a', n', c', args', he⟩ := elem_at (hi ⟨t, htl⟩)
                      have hds := HDS.out ⟨t, htl⟩
                      have HDM : Hid (depsMost dn args (t + 1) = depsMost dn args t + (2 * txtN (args ⟨t, htl⟩) + 24 * depN (args ⟨t, htl⟩)) ∧ depsMost dn args (t + 1) ≤ depsMost dn args dn) := Lib.hid ⟨depsMost_succ htl, upto_mono _ (by omega)⟩
                      generalize args ⟨t, htl⟩ = d' at he hds HDM
                      have he := Lib.hid (he.below HE.out.2.1)
                      have HDB := Lib.hid hds
                      obtain ⟨hd1, hd2⟩ := hds
                      have hcall := Lib.hid (texts_c d' _ _ we he.out.dep hd1 hd2)
                      clear hi
                      have q0 := he.out.c0
                      have q1 := he.out.c1
                      have q2 := he.out.c2
                      have q3 := he.out.c3
                      have q4 := he.out.c4
                      go_wp2_with fail
                      refine hcall.out.mono ?_
                      rintro e w9 ⟨⟨TA, TB, TC, rfl, HR⟩, hb9⟩
                      have HB9 : Hid (Below we.heap.size we w9) := Lib.hid hb9
                      have t1 : TA ≤ 1099511627776 := by rw [HR.out.1]; exact HDB.out.1
                      have t2 : TB ≤ 1099511627776 := by rw [HR.out.2.1]; exact HDB.out.2
                      have t3 : TC ≤ 2199023255552 := by have := HR.out.2.2; have := HDB.out.2; omega
                      clear q0 q1 q2 q3 q4 hb9 l1 hd1 hd2 hcall
                      go_wp2_with fail
                      go_roundw
                      case rel => exact ⟨t + 1, A' + 2 * TA + 8 * TB + 8 * TC, by go_num, by go_num, by omega, by
                        have h1 := HE.out.1
                        have h2 := HDM.out.1
                        have h3 := HDM.out.2
                        have h4 := HLM.out.1
                        have h5 := HLM.out.2
                        have h6 := HJ.out.1
                        have h7 := HZ.out
                        have h8 := HPM.out
                        have h9 := HTA.out
                        have s1 := HR.out.1
                        have s2 := HR.out.2.1
                        have s3 := HR.out.2.2
                        omega, by
                        have h1 := HE.out.1
                        have h2 := HDM.out.1
                        have s1 := HR.out.1
                        have s2 := HR.out.2.1
                        have s3 := HR.out.2.2
                        omega, below_tr HE.out.2.1 HB9.out, HE.out.2.2.below HB9.out⟩
                      case measure => simp [intOf]; omega
                    · have ht1 : ¬ (t : Int) < (dn : Int) := by omega
                      have ht2 : t = dn := by omega
                      have HZ5 : Hid (A' = A2 + listMost p (j + 1)) := Lib.hid (by
                        have h1 := HE.out.1
                        have h2 := HLM.out.1
                        have h3 := HJ.out.1
                        rw [ht2] at h1
                        omega)
                      clear ht2
                      go_wp2_with fail
                      go_roundw
                      case rel => exact ⟨j + 1, A', rfl, by go_num, by omega, hA'', HZ5.out, HE.out.2⟩
                      case measure => simp [intOf]; omega
                · have hj1 : ¬ (j : Int) < 7 := by omega
                  have hj2 : j = 7 := by omega
                  have HZ4 : Hid (A' = 64 + 64 * m + (rl.map nameF).sum + sumT keptF ks (i + 1)) := Lib.hid (by
                    have h1 := HJ.out.1
                    have h2 := HZ.out
                    have h3 := HPM.out
                    have h4 := HS.out.1
                    have h5 := HT.out.1
                    rw [hj2] at h1
                    omega)
                  clear hj2
                  go_wp2_with fail
                  go_roundw
                  case rel => exact ⟨i + 1, A', rfl, by go_num, by omega, hA', HZ4.out, below_tr HB5.out HJ.out.2.1⟩
                  case measure => simp [intOf]; omega
        · have hi1 : ¬ (i : Int) < (kn : Int) := by omega
          have hle : (lb.length : Int) ≤ (A : Int) := by
            have h1 := HT.out.1
            have h2 : i = ks.length := by have := HKN.out; omega
            rw [h2, sumT_full] at h1
            have h3 := HMOST.out
            have h4 := HSUM.out
            omega
          go_wp2_with fail
          refine (HW1.out wz HT.out.2).mono ?_
          rintro e w5 ⟨⟨a1, c1, rfl, hby1⟩, hb5⟩
          have HB5 : Hid (Below w3.heap.size w3 w5) := Lib.hid (below_tr HT.out.2 hb5)
          have HBY1 := Lib.hid hby1
          obtain ⟨n1, hn1⟩ : ∃ n, lb.length = n := ⟨_, rfl⟩
          have HW2 := Lib.hid (HW2.out w5 HB5.out)
          rw [hn1] at hle HW2 ⊢
          have HN1 := Lib.hid hn1
          have HLT : Hid (∀ b off s, lb ≠ [] → a1 = some ⟨b, off, s⟩ → b < w5.heap.size) := Lib.hid fun b off s h e => HBY1.out.blk h b off s e
          clear hby1 hb5 hn1 HW1
          go_wp2_with fail
          refine HW2.out.mono ?_
          rintro e w7 ⟨⟨a2, c2, rfl, hby2⟩, hb7⟩
          have HB7 : Hid (Below w.heap.size w w7) := Lib.hid (below_tr (below_tr HB3.out HB5.out) hb7)
          have hby1 : BytesAt w7 a1 lb := by
            by_cases h : lb = []
            · exact .inl h
            · exact HBY1.out.keep fun b off s e => hb7.block b (HLT.out b off s h e)
          have k1 := convN hby1 c1 HN1.out
          have k2 := convN hby2 c2 HN1.out
          clear hby1 hby2 hb7
          go_wp2_with fail
          go_ret
          exact ⟨by simp, HB7.out⟩
end Go.Proofs.YtbdankpkdhhlmaaGreat
