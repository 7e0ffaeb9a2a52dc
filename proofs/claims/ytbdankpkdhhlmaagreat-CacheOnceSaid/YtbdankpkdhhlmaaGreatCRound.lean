/-
  What is read is no longer than its bytes; a pool that is read can be laid. Plain words; no conditions beyond those typed.
  A pool's bytes are read as that pool. Plain words; no conditions beyond those typed.
-/
import Derived.Test.YtbdankpkdhhlmaaGreatRdG
namespace Go.Proofs.YtbdankpkdhhlmaaGreat
set_option linter.unusedVariables false
set_option linter.unusedSimpArgs false
open Go.RowKit

theorem rdBig_eats {l r : List UInt8} {n : Nat} (h : rdBig l = some (n, r)) : r.length + 1 ≤ l.length := by
  unfold rdBig at h
  split at h
  · rename_i h0
    have h1 := takeB_ok l 0 0 h0
    injection h with h
    injection h with h2 h3
    rw [← h3, List.length_drop]
    omega
  · cases h
theorem rdSmall_eats {m n : Nat} {l r : List UInt8} (h : rdSmall m l = some (n, r)) : r.length + 1 ≤ l.length ∧ n ≤ m := by
  unfold rdSmall at h
  cases hb : rdBig l with
  | none => rw [hb] at h; cases h
  | some p =>
    obtain ⟨n2, r2⟩ := p
    rw [hb] at h
    simp only at h
    split at h
    · rename_i hle
      injection h with h
      injection h with h2 h3
      subst h2 h3
      exact ⟨rdBig_eats hb, hle⟩
    · cases h
theorem rdText_eats {T : List ByteArray} {s : ByteArray} {l r : List UInt8} (h : rdText T l = some (s, r)) : r.length + 1 ≤ l.length := by
  unfold rdText at h
  cases hb : rdBig l with
  | none => rw [hb] at h; cases h
  | some p =>
    obtain ⟨n2, r2⟩ := p
    rw [hb] at h
    simp only at h
    split at h
    · injection h with h
      injection h with h2 h3
      rw [← h3]
      exact rdBig_eats hb
    · cases h
theorem rdMany_eats {α : Type} (f : List UInt8 → Option (α × List UInt8)) (t : α → List Tok) (hf : ∀ l x r, f l = some (x, r) → (t x).length + r.length ≤ l.length) :
    ∀ (n : Nat) (l : List UInt8) (xs : List α) (r : List UInt8), rdMany f n l = some (xs, r) → (xs.flatMap t).length + r.length ≤ l.length ∧ xs.length = n
  | 0, l, xs, r, h => by
    unfold rdMany at h
    injection h with h
    injection h with h2 h3
    subst h2 h3
    simp
  | n + 1, l, xs, r, h => by
    unfold rdMany at h
    cases hb : f l with
    | none => rw [hb] at h; cases h
    | some p =>
      obtain ⟨x, r2⟩ := p
      rw [hb] at h
      simp only at h
      cases hc : rdMany f n r2 with
      | none => rw [hc] at h; cases h
      | some q =>
        obtain ⟨ys, r3⟩ := q
        rw [hc] at h
        simp only at h
        injection h with h
        injection h with h2 h3
        subst h2 h3
        have h4 := hf _ _ _ hb
        obtain ⟨h5, h6⟩ := rdMany_eats f t hf n _ _ _ hc
        rw [List.flatMap_cons, List.length_append, List.length_cons]
        exact ⟨by omega, by omega⟩
theorem rdDep_eats (T : List ByteArray) : ∀ (d : Nat) (l : List UInt8) (x : DepT) (r : List UInt8), rdDep T d l = some (x, r) → (tokDep x).length + r.length ≤ l.length
  | 0, l, x, r, h => by unfold rdDep at h; cases h
  | d + 1, l, x, r, h => by
    unfold rdDep at h
    cases hb : rdSmall 6 l with
    | none => rw [hb] at h; cases h
    | some p =>
      obtain ⟨k, l1⟩ := p
      rw [hb] at h
      simp only at h
      have e1 := (rdSmall_eats hb).1
      split at h
      · cases h
      · split at h
        · cases hc : rdText T l1 with
          | none => rw [hc] at h; cases h
          | some p =>
            obtain ⟨nm, l2⟩ := p
            rw [hc] at h
            simp only at h
            have e2 := rdText_eats hc
            cases hd : rdSmall 7 l2 with
            | none => rw [hd] at h; cases h
            | some p =>
              obtain ⟨op, l3⟩ := p
              rw [hd] at h
              simp only at h
              have e3 := (rdSmall_eats hd).1
              split at h
              · rename_i h0
                injection h with h
                injection h with h2 h3
                subst h2 h3
                rw [tokDep_name, if_neg (by decide)]
                simp only [List.length_cons, List.length_nil]
                omega
              · rename_i h0
                cases he : rdText T l3 with
                | none => rw [he] at h; cases h
                | some p =>
                  obtain ⟨ev, l4⟩ := p
                  rw [he] at h
                  simp only at h
                  have e4 := rdText_eats he
                  injection h with h
                  injection h with h2 h3
                  subst h2 h3
                  rw [tokDep_name, if_pos (by omega)]
                  simp only [List.length_cons, List.length_nil]
                  omega
        · rename_i hk
          cases hc : rdSmall 16 l1 with
          | none => rw [hc] at h; cases h
          | some p =>
            obtain ⟨n, l2⟩ := p
            rw [hc] at h
            simp only at h
            have e2 := (rdSmall_eats hc).1
            cases hd : rdMany (rdDep T d) n l2 with
            | none => rw [hd] at h; cases h
            | some p =>
              obtain ⟨xs, l3⟩ := p
              rw [hd] at h
              simp only at h
              obtain ⟨e3, e4⟩ := rdMany_eats (rdDep T d) tokDep (rdDep_eats T d) n l2 xs l3 hd
              injection h with h
              injection h with h2 h3
              subst h2 h3
              rw [tokDep_node (by omega)]
              unfold tokDeps
              have e5 : ((List.finRange xs.length).flatMap fun i => tokDep xs[i]) = xs.flatMap tokDep := by
                rw [← List.flatMap_map (fun i : Fin xs.length => xs[i]) tokDep, map_getElem]
              rw [List.length_cons, List.length_cons]
              have e6 : ((List.finRange xs.length).flatMap fun i => tokDep ((fun i : Fin xs.length => xs[i]) i)).length = (xs.flatMap tokDep).length := congrArg List.length e5
              rw [e6]
              omega
theorem rdDeps_eats (T : List ByteArray) (d : Nat) (l : List UInt8) (xs : List DepT) (r : List UInt8) (h : rdDeps T d l = some (xs, r)) : (Tok.num xs.length :: xs.flatMap tokDep).length + r.length ≤ l.length := by
  unfold rdDeps at h
  cases hc : rdSmall 16 l with
  | none => rw [hc] at h; cases h
  | some p =>
    obtain ⟨n, l2⟩ := p
    rw [hc] at h
    simp only at h
    have e2 := (rdSmall_eats hc).1
    obtain ⟨e3, e4⟩ := rdMany_eats (rdDep T d) tokDep (rdDep_eats T d) n l2 xs r h
    rw [List.length_cons]
    omega
theorem tokDeps_list (l : List DepT) : tokDeps l.length (fun i => l[i]) = Tok.num l.length :: l.flatMap tokDep := by
  unfold tokDeps
  have e5 : ((List.finRange l.length).flatMap fun i => tokDep l[i]) = l.flatMap tokDep := by
    rw [← List.flatMap_map (fun i : Fin l.length => l[i]) tokDep, map_getElem]
  exact congrArg (List.cons _) e5
theorem mkPkg_lists (nm ev ar ve : ByteArray) (L : List (List DepT)) (fs : List ByteArray) (hL : L.length = 7) : ((List.finRange 7).flatMap (fun j => tokDeps ((mkPkg nm ev ar ve L fs).n j) ((mkPkg nm ev ar ve L fs).deps j))) = L.flatMap (fun l => Tok.num l.length :: l.flatMap tokDep) := by
  have h1 : ∀ j : Fin 7, tokDeps ((mkPkg nm ev ar ve L fs).n j) ((mkPkg nm ev ar ve L fs).deps j) = (fun l : List DepT => Tok.num l.length :: l.flatMap tokDep) (L.getD j.val []) := fun j => by
    show tokDeps (L.getD j.val []).length (fun i => (L.getD j.val [])[i]) = _
    exact tokDeps_list _
  have h2 : (List.finRange 7).map (fun j : Fin 7 => L.getD j.val []) = L := by
    refine List.ext_getElem (by simp [hL]) fun i h1 h2 => ?_
    simp only [List.getElem_map, List.getElem_finRange]
    show L.getD i [] = L[i]
    rw [List.getD_eq_getElem?_getD, List.getElem?_eq_getElem h2]
    rfl
  have h3 : ((List.finRange 7).flatMap (fun j => tokDeps ((mkPkg nm ev ar ve L fs).n j) ((mkPkg nm ev ar ve L fs).deps j))) = (List.finRange 7).flatMap (fun j => (fun l : List DepT => Tok.num l.length :: l.flatMap tokDep) (L.getD j.val [])) := by
    congr 1
    funext j
    exact h1 j
  have h4 := List.flatMap_map (fun j : Fin 7 => L.getD j.val []) (fun l : List DepT => Tok.num l.length :: l.flatMap tokDep) (List.finRange 7)
  rw [h2] at h4
  exact h3.trans h4.symm
theorem flat_txt (fs : List ByteArray) : (fs.flatMap fun s => [Tok.txt s]).length = fs.length := by
  induction fs with
  | nil => rfl
  | cons x l ih => rw [List.flatMap_cons, List.length_append, ih, List.length_singleton, List.length_cons]; omega
theorem rdPkg_eats (T : List ByteArray) (l : List UInt8) (p : PkgT) (r : List UInt8) (h : rdPkg T l = some (p, r)) : (tokPkg p).length + r.length ≤ l.length := by
  unfold rdPkg at h
  cases h1 : rdText T l with
  | none => rw [h1] at h; cases h
  | some q =>
  obtain ⟨nm, l1⟩ := q
  rw [h1] at h
  simp only at h
  cases h2 : rdText T l1 with
  | none => rw [h2] at h; cases h
  | some q =>
  obtain ⟨ev, l2⟩ := q
  rw [h2] at h
  simp only at h
  cases h3 : rdText T l2 with
  | none => rw [h3] at h; cases h
  | some q =>
  obtain ⟨ar, l3⟩ := q
  rw [h3] at h
  simp only at h
  cases h4 : rdText T l3 with
  | none => rw [h4] at h; cases h
  | some q =>
  obtain ⟨ve, l4⟩ := q
  rw [h4] at h
  simp only at h
  cases h5 : rdMany (rdDeps T 16) 7 l4 with
  | none => rw [h5] at h; cases h
  | some q =>
  obtain ⟨L, l5⟩ := q
  rw [h5] at h
  simp only at h
  cases h6 : rdSmall 16 l5 with
  | none => rw [h6] at h; cases h
  | some q =>
  obtain ⟨n, l6⟩ := q
  rw [h6] at h
  simp only at h
  cases h7 : rdMany (rdText T) n l6 with
  | none => rw [h7] at h; cases h
  | some q =>
  obtain ⟨fs, l7⟩ := q
  rw [h7] at h
  simp only at h
  injection h with h
  injection h with h8 h9
  subst h8 h9
  have k1 := rdText_eats h1
  have k2 := rdText_eats h2
  have k3 := rdText_eats h3
  have k4 := rdText_eats h4
  obtain ⟨k5, k5'⟩ := rdMany_eats (rdDeps T 16) _ (rdDeps_eats T 16) 7 l4 L l5 h5
  have k6 := (rdSmall_eats h6).1
  obtain ⟨k7, _⟩ := rdMany_eats (rdText T) (fun s => [Tok.txt s]) (fun l x r h => by have := rdText_eats h; simp only [List.length_singleton]; omega) n l6 fs l7 h7
  have k8 := flat_txt fs
  unfold tokPkg
  rw [mkPkg_lists nm ev ar ve L fs k5']
  simp only [List.length_append, List.length_cons, List.length_nil, List.length_map]
  show _ + (fs.length + 1) + _ ≤ _
  omega
def tokRepoT (r : RepoT) : List Tok := tokRepo ⟨r.name, r.prio, r.inst⟩ r.pkgs
theorem rdRepo_eats (T : List ByteArray) (l : List UInt8) (x : RepoT) (r : List UInt8) (h : rdRepo T l = some (x, r)) : (tokRepoT x).length + r.length ≤ l.length ∧ (-9223372036854775808 ≤ x.prio ∧ x.prio ≤ 9223372036854775807) := by
  unfold rdRepo at h
  cases h1 : rdText T l with
  | none => rw [h1] at h; cases h
  | some q =>
  obtain ⟨nm, l1⟩ := q
  rw [h1] at h
  simp only at h
  cases h2 : rdBig l1 with
  | none => rw [h2] at h; cases h
  | some q =>
  obtain ⟨z, l2⟩ := q
  rw [h2] at h
  simp only at h
  cases h3 : rdSmall 1 l2 with
  | none => rw [h3] at h; cases h
  | some q =>
  obtain ⟨b, l3⟩ := q
  rw [h3] at h
  simp only at h
  cases h4 : rdSmall 200 l3 with
  | none => rw [h4] at h; cases h
  | some q =>
  obtain ⟨n, l4⟩ := q
  rw [h4] at h
  simp only at h
  cases h5 : rdMany (rdPkg T) n l4 with
  | none => rw [h5] at h; cases h
  | some q =>
  obtain ⟨ps, l5⟩ := q
  rw [h5] at h
  injection h with h
  injection h with h8 h9
  subst h8 h9
  have k1 := rdText_eats h1
  have k2 := rdBig_eats h2
  have k2' := rdBig_lt h2
  have k3 := (rdSmall_eats h3).1
  have k4 := (rdSmall_eats h4).1
  obtain ⟨k5, _⟩ := rdMany_eats (rdPkg T) tokPkg (rdPkg_eats T) n l4 ps l5 h5
  refine ⟨?_, ?_⟩
  · unfold tokRepoT tokRepo
    simp only [List.length_cons]
    omega
  · show -9223372036854775808 ≤ unzig z ∧ unzig z ≤ 9223372036854775807
    unfold unzig
    split <;> omega
theorem rdMany_mem {α : Type} (f : List UInt8 → Option (α × List UInt8)) (P : α → Prop) (hf : ∀ l x r, f l = some (x, r) → P x) :
    ∀ (n : Nat) (l : List UInt8) (xs : List α) (r : List UInt8), rdMany f n l = some (xs, r) → ∀ x ∈ xs, P x
  | 0, l, xs, r, h => by
    unfold rdMany at h
    injection h with h
    injection h with h2 h3
    subst h2
    intro x hx
    cases hx
  | n + 1, l, xs, r, h => by
    unfold rdMany at h
    cases hb : f l with
    | none => rw [hb] at h; cases h
    | some p =>
      obtain ⟨x, r2⟩ := p
      rw [hb] at h
      simp only at h
      cases hc : rdMany f n r2 with
      | none => rw [hc] at h; cases h
      | some q =>
        obtain ⟨ys, r3⟩ := q
        rw [hc] at h
        simp only at h
        injection h with h
        injection h with h2 h3
        subst h2
        intro y hy
        rcases List.mem_cons.1 hy with rfl | hy
        · exact hf _ _ _ hb
        · exact rdMany_mem f P hf n _ _ _ hc y hy
theorem rdTxt_eats (l : List UInt8) (x : ByteArray) (r : List UInt8) (h : rdTxt l = some (x, r)) : [Tok.txt x].length + r.length ≤ l.length := by
  unfold rdTxt at h
  cases h1 : rdNum l with
  | none => rw [h1] at h; cases h
  | some q =>
    obtain ⟨n, l1⟩ := q
    rw [h1] at h
    injection h with h
    injection h with h2 h3
    have k1 : l1.length + 1 ≤ l.length := by
      unfold rdNum at h1
      cases hb : rdBig l with
      | none => rw [hb] at h1; cases h1
      | some p =>
        obtain ⟨n2, r2⟩ := p
        rw [hb] at h1
        simp only at h1
        split at h1
        · injection h1 with h1
          injection h1 with h4 h5
          rw [← h5]
          exact rdBig_eats hb
        · cases h1
    rw [← h3, List.length_drop, List.length_singleton]
    omega
/-- What was read in all. -/
theorem rdAll_eats {l : List UInt8} {kd : Nat} {rl : List RepoT} (h : rdAll l = some (kd, rl)) : (rl.flatMap tokRepoT).length + 1 ≤ l.length ∧ (kd = 1 ∨ kd = 2) ∧ rl.length ≤ 8 ∧ ∀ r ∈ rl, -9223372036854775808 ≤ r.prio ∧ r.prio ≤ 9223372036854775807 := by
  unfold rdAll at h
  split at h
  · rename_i hm
    cases h1 : rdSmall 2 (l.drop 9) with
    | none => rw [h1] at h; cases h
    | some q =>
    obtain ⟨k, l1⟩ := q
    rw [h1] at h
    simp only at h
    split at h
    · cases h
    · rename_i hk
      cases h2 : rdTab l1 with
      | none => rw [h2] at h; cases h
      | some q =>
      obtain ⟨T, l2⟩ := q
      rw [h2] at h
      simp only at h
      cases h3 : rdRepos T l2 with
      | none => rw [h3] at h; cases h
      | some q =>
      obtain ⟨rl2, l3⟩ := q
      rw [h3] at h
      injection h with h
      injection h with h8 h9
      subst h8
      have h9 : rl2 = rl := h9
      subst h9
      obtain ⟨k1, k1'⟩ := rdSmall_eats h1
      have k2 : l2.length ≤ l1.length := by
        unfold rdTab at h2
        cases h4 : rdNum l1 with
        | none => rw [h4] at h2; cases h2
        | some q =>
          obtain ⟨n, l4⟩ := q
          rw [h4] at h2
          simp only at h2
          have k4 : l4.length ≤ l1.length := by
            unfold rdNum at h4
            cases hb : rdBig l1 with
            | none => rw [hb] at h4; cases h4
            | some p =>
              obtain ⟨n2, r2⟩ := p
              rw [hb] at h4
              simp only at h4
              split at h4
              · injection h4 with h4
                injection h4 with h5 h6
                rw [← h6]
                have := rdBig_eats hb
                omega
              · cases h4
          have k5 := (rdMany_eats rdTxt (fun x => [Tok.txt x]) rdTxt_eats n l4 T l2 h2).1
          omega
      unfold rdRepos at h3
      cases h4 : rdSmall 8 l2 with
      | none => rw [h4] at h3; cases h3
      | some q =>
      obtain ⟨n, l4⟩ := q
      rw [h4] at h3
      simp only at h3
      obtain ⟨k4, k4'⟩ := rdSmall_eats h4
      obtain ⟨k5, k6⟩ := rdMany_eats (rdRepo T) tokRepoT (fun l x r h => (rdRepo_eats T l x r h).1) n l4 rl2 l3 h3
      rw [List.length_drop] at k1
      exact ⟨by omega, by omega, by omega, rdMany_mem (rdRepo T) _ (fun l x r h => (rdRepo_eats T l x r h).2) n l4 rl2 l3 h3⟩
  · cases h

/-! ### what a pool built so has -/
theorem pkgCheck_parts {p : PkgT} (h : pkgCheck p = 0) : nameB p.name = true ∧ archB p.arch = true ∧ vendB p.vendor = true ∧ depsB p = true ∧ filesB p.files = true := by
  unfold pkgCheck chk6 at h
  split at h
  · cases h
  · rename_i h1
    split at h
    · rename_i h2
      cases h
    · split at h
      · cases h
      · rename_i h3
        split at h
        · cases h
        · rename_i h4
          split at h
          · cases h
          · rename_i h5
            split at h
            · cases h
            · rename_i h6
              exact ⟨by simpa using h1, by simpa using h3, by simpa using h4, by simpa using h5, by simpa using h6⟩
theorem depCheck_form {d : DepT} (h : depCheck d = 0) : formB d = true := by
  unfold depCheck at h
  split at h
  · cases h
  · rename_i h1
    simpa using h1
theorem depsB_parts {p : PkgT} (h : depsB p = true) : ∀ i, p.n i ≤ 16 ∧ ∀ j, depCheck (p.deps i j) = 0 := by
  intro i
  unfold depsB at h
  rw [List.all_eq_true] at h
  have h1 := h i (List.mem_finRange i)
  rw [Bool.and_eq_true, List.all_eq_true] at h1
  refine ⟨by simpa using h1.1, fun j => ?_⟩
  have h2 := h1.2 j (List.mem_finRange j)
  unfold depOk at h2
  simp only [Bool.and_eq_true, decide_eq_true_eq] at h2
  exact h2.1.2
theorem addErr_name {rs : List RepoH} {ks : List KeptT} {r : RepoT} (h : addErr rs ks r = 0) : r.name.size ≤ 60 := by
  unfold addErr at h
  split at h
  · cases h
  · rename_i h1
    have h2 : nameB r.name = true := by
      cases e : nameB r.name with
      | true => rfl
      | false => exact absurd (.inl e) h1
    unfold nameB at h2
    simp only [Bool.and_eq_true, decide_eq_true_eq] at h2
    exact h2.1.1.1.1.1.1.2
/-- The packages that stand in a repository. -/
theorem pkgsAt_append (a b : List KeptT) (i : Nat) : pkgsAt (a ++ b) i = pkgsAt a i ++ pkgsAt b i := by
  unfold pkgsAt
  rw [List.filter_append, List.map_append]
theorem pkgsAt_same (l : List PkgT) (i : Nat) : pkgsAt (l.map fun p => (⟨p, i⟩ : KeptT)) i = l := by
  unfold pkgsAt
  rw [List.filter_eq_self.2 (by intro k hk; obtain ⟨p, _, rfl⟩ := List.mem_map.1 hk; simp), List.map_map]
  exact List.map_id l
theorem pkgsAt_none (ks : List KeptT) (i : Nat) (h : ∀ k ∈ ks, k.at_ ≠ i) : pkgsAt ks i = [] := by
  unfold pkgsAt
  rw [List.filter_eq_nil_iff.2 (by intro k hk; simp [h k hk])]
  rfl
/-- Of a pool each of whose repositories was taken. -/
structure BuiltHas (rl : List RepoT) (rs : List RepoH) (ks : List KeptT) : Prop where
  rs : rs = rl.map (fun r => (⟨r.name, r.prio, r.inst⟩ : RepoH))
  rlen : rl.length ≤ 8
  klen : ks.length ≤ 200
  at_ : ∀ k ∈ ks, k.at_ < rl.length
  pkgs : ∀ i (h : i < rl.length), pkgsAt ks i = rl[i].pkgs
  fine : ∀ r ∈ rl, ∀ p ∈ r.pkgs, pkgCheck p = 0
  kept : ∀ k ∈ ks, pkgCheck k.pkg = 0
  name : ∀ r ∈ rl, r.name.size ≤ 60
theorem BuiltOK.has {rl : List RepoT} {rs : List RepoH} {ks : List KeptT} {ats : List (Nat × Nat)} (h : BuiltOK rl rs ks ats) : BuiltHas rl rs ks := by
  induction h with
  | nil => exact ⟨rfl, by simp, by simp, by simp, by simp, by simp, by simp, by simp⟩
  | add r h e ih =>
    rename_i rl rs ks ats
    obtain ⟨z1, z2, z3⟩ := addErr_zero e
    have hl : rs.length = rl.length := h.built.len.1
    refine ⟨?_, by rw [List.length_append, List.length_singleton]; omega, by rw [List.length_append, List.length_map]; exact z2, fun k hk => ?_, fun i hi => ?_, fun r2 hr2 p hp => ?_, fun k hk => ?_, fun r2 hr2 => ?_⟩
    · rw [List.map_append, ← ih.rs]
      rfl
    · rw [List.length_append, List.length_singleton]
      rcases List.mem_append.1 hk with hk | hk
      · have := ih.at_ k hk
        omega
      · obtain ⟨p, _, rfl⟩ := List.mem_map.1 hk
        show rs.length < _
        omega
    · rw [pkgsAt_append]
      by_cases hie : i = rl.length
      · subst hie
        rw [pkgsAt_none ks _ (fun k hk => by have := ih.at_ k hk; omega)]
        have h1 := pkgsAt_same r.pkgs rl.length
        rw [hl, h1]
        simp
      · have hi2 : i < rl.length := by rw [List.length_append, List.length_singleton] at hi; omega
        rw [ih.pkgs i hi2, pkgsAt_none (r.pkgs.map _) i (fun k hk => by
          obtain ⟨p, _, rfl⟩ := List.mem_map.1 hk
          show rs.length ≠ i
          omega), List.append_nil, List.getElem_append_left hi2]
    · rcases List.mem_append.1 hr2 with hr2 | hr2
      · exact ih.fine r2 hr2 p hp
      · rw [List.mem_singleton] at hr2
        subst hr2
        exact z3 p hp
    · rcases List.mem_append.1 hk with hk | hk
      · exact ih.kept k hk
      · obtain ⟨p, hp, rfl⟩ := List.mem_map.1 hk
        exact z3 p hp
    · rcases List.mem_append.1 hr2 with hr2 | hr2
      · exact ih.name r2 hr2
      · rw [List.mem_singleton] at hr2
        subst hr2
        exact addErr_name e
theorem tokRepos_of {rl : List RepoT} {rs : List RepoH} {ks : List KeptT} (h : BuiltHas rl rs ks) : tokRepos rs ks rs.length = rl.flatMap tokRepoT := by
  have hl : rs.length = rl.length := by rw [h.rs, List.length_map]
  have h1 : ∀ i, i ≤ rl.length → tokRepos rs ks i = (rl.take i).flatMap tokRepoT := by
    intro i
    induction i with
    | zero => intro _; rfl
    | succ i ih =>
      intro hi
      have hi1 : i < rs.length := by omega
      have hi2 : i < rl.length := by omega
      rw [tokRepos_succ rs ks hi1, ih (by omega), List.take_add_one, List.getElem?_eq_getElem hi2, Option.toList_some, List.flatMap_append, List.flatMap_singleton, h.pkgs i hi2]
      congr 1
      have e1 : rs[i] = ⟨rl[i].name, rl[i].prio, rl[i].inst⟩ := by
        simp only [h.rs, List.getElem_map]
      rw [e1]
      rfl
  rw [h1 rs.length (by omega), hl, List.take_length]
theorem pkgs_le {rl : List RepoT} {rs : List RepoH} {ks : List KeptT} (h : BuiltHas rl rs ks) : ∀ r ∈ rl, r.pkgs.length ≤ 200 := fun r hr => by
  obtain ⟨i, hi, rfl⟩ := List.getElem_of_mem hr
  rw [← h.pkgs i hi]
  unfold pkgsAt
  rw [List.length_map]
  exact Nat.le_trans (List.length_filter_le _ _) h.klen
theorem tokPool_of {rl : List RepoT} {rs : List RepoH} {ks : List KeptT} (h : BuiltHas rl rs ks) : tokPool rs ks = .num rl.length :: rl.flatMap tokRepoT := by
  have hl : rs.length = rl.length := by rw [h.rs, List.length_map]
  unfold tokPool
  rw [tokRepos_of h, hl]
/-! ### small tokens -/
def Tok.small : Tok → Prop
  | .num n => n < 18446744073709551616
  | .txt s => s.size ≤ 60
theorem Tok.small.ok {t : Tok} (h : t.small) : t.ok := by
  cases t with
  | num n => exact h
  | txt s => trivial
theorem nameB_size {s : ByteArray} (h2 : nameB s = true) : s.size ≤ 60 := by
  unfold nameB at h2
  simp only [Bool.and_eq_true, decide_eq_true_eq] at h2
  exact h2.1.1.1.1.1.1.2
theorem parse_size {s : ByteArray} (h : (parse (bs s)).isSome = true) : s.size ≤ 60 := by
  unfold parse at h
  split at h
  · cases h
  · rename_i h1
    have h2 : okText (bs s) = true := by simpa using h1
    unfold okText at h2
    simp only [Bool.and_eq_true, decide_eq_true_eq] at h2
    have h3 : (bs s).length = s.size := bs_length s
    omega
theorem upto_sum : ∀ (n : Nat) (g : Fin n → List Tok) (f : Nat → Nat), (∀ i, f i.val ≤ (g i).length) → upto f n ≤ ((List.finRange n).flatMap g).length
  | 0, g, f, h => by unfold upto; omega
  | n + 1, g, f, h => by
    rw [List.finRange_succ_last, List.flatMap_append, List.length_append, List.flatMap_map, List.flatMap_singleton]
    have h1 := upto_sum n (fun i => g i.castSucc) f (fun i => h i.castSucc)
    have h2 := h (Fin.last n)
    unfold upto
    have h3 : f n ≤ (g (Fin.last n)).length := h2
    omega
theorem tokDep_pos (d : DepT) : 1 ≤ (tokDep d).length := by
  cases d with
  | mk k nm op ev n args =>
    unfold tokDep
    rw [List.length_cons]
    omega
theorem count_le {n : Nat} (args : Fin n → DepT) : n ≤ ((List.finRange n).flatMap fun i => tokDep (args i)).length := by
  have h := upto_sum n (fun i => tokDep (args i)) (fun _ => 1) (fun i => tokDep_pos _)
  have h2 := upto_len (fun _ => 1) n (fun _ _ => Nat.le_refl _)
  omega
theorem mem_flat_len {α : Type} {g : α → List Tok} : ∀ {l : List α} {x : α}, x ∈ l → (g x).length ≤ (l.flatMap g).length
  | y :: l, x, h => by
    rw [List.flatMap_cons, List.length_append]
    rcases List.mem_cons.1 h with rfl | h
    · omega
    · have := mem_flat_len (g := g) h
      omega
theorem nparts_le : ∀ d : DepT, nparts d ≤ (tokDep d).length
  | .mk k nm op ev n args => by
    have ih : ∀ i, nparts (args i) ≤ (tokDep (args i)).length := fun i => nparts_le (args i)
    by_cases hk : k = 1
    · rw [nparts, if_pos hk]
      exact tokDep_pos _
    · rw [nparts_node hk, tokDep_node hk]
      unfold tokDeps
      rw [List.length_cons, List.length_cons]
      have h := upto_sum n (fun i => tokDep (args i)) (fun j => if h : j < n then nparts (args ⟨j, h⟩) else 0) (fun i => by
        simp only [dif_pos i.isLt]
        exact ih i)
      omega
theorem depCheck_parts {d : DepT} (h : depCheck d = 0) (hl : (tokDep d).length ≤ 1073741824) : nparts d ≤ 16 := by
  have h1 := nparts_le d
  unfold depCheck at h
  split at h
  · cases h
  · split at h
    · cases h
    · rename_i h2
      omega
theorem small_dep : ∀ d : DepT, formB d = true → (tokDep d).length ≤ 1073741824 → ∀ t ∈ tokDep d, t.small
  | .mk k nm op ev n args, h, hl => by
    by_cases hk : k = 1
    · subst hk
      have h0 := h
      unfold formB at h
      rw [if_pos rfl] at h
      simp only [Bool.and_eq_true, Bool.or_eq_true, decide_eq_true_eq] at h
      obtain ⟨⟨h1, h2⟩, h3⟩ := h
      rw [tokDep_name]
      intro t ht
      simp only [List.mem_cons] at ht
      rcases ht with rfl | rfl | rfl | ht
      · show (1 : Nat) < 18446744073709551616
        decide
      · exact nameB_size h1
      · show op.toNat < 18446744073709551616
        omega
      · split at ht
        · rw [List.mem_singleton] at ht
          subst ht
          rcases h3 with h3 | h3
          · show ev.size ≤ 60
            omega
          · exact parse_size h3.2
        · cases ht
    · obtain ⟨hk1, hk2, _, _, _, hn, hi⟩ := dform_node h hk
      have ih : ∀ i, formB (args i) = true → (tokDep (args i)).length ≤ 1073741824 → ∀ t ∈ tokDep (args i), t.small := fun i => small_dep (args i)
      rw [tokDep_node hk] at hl ⊢
      unfold tokDeps at hl ⊢
      rw [List.length_cons, List.length_cons] at hl
      have hc := count_le args
      intro t ht
      simp only [List.mem_cons] at ht
      rcases ht with rfl | rfl | ht
      · show k.toNat < 18446744073709551616
        omega
      · show n < 18446744073709551616
        omega
      · obtain ⟨i, hi2, ht⟩ := List.mem_flatMap.1 ht
        have := mem_flat_len (g := fun i => tokDep (args i)) hi2
        exact ih i (hi i) (by omega) t ht
theorem archB_size {s : ByteArray} (h : archB s = true) : s.size ≤ 60 := by
  unfold archB at h
  simp only [Bool.and_eq_true, decide_eq_true_eq] at h
  omega
theorem vendB_size {s : ByteArray} (h : vendB s = true) : s.size ≤ 60 := by
  unfold vendB at h
  simp only [Bool.and_eq_true, decide_eq_true_eq] at h
  omega
theorem tokPkg_lists (p : PkgT) (i : Fin 7) : (tokDeps (p.n i) (p.deps i)).length ≤ (tokPkg p).length := by
  have := mem_flat_len (g := fun j => tokDeps (p.n j) (p.deps j)) (List.mem_finRange i)
  unfold tokPkg
  simp only [List.length_append]
  omega
theorem tokDeps_one {n : Nat} (args : Fin n → DepT) (j : Fin n) : (tokDep (args j)).length ≤ (tokDeps n args).length := by
  have := mem_flat_len (g := fun i => tokDep (args i)) (List.mem_finRange j)
  unfold tokDeps
  rw [List.length_cons]
  omega
theorem pkg_evr {p : PkgT} (h : pkgCheck p = 0) : p.evr.size ≤ 60 := by
  unfold pkgCheck chk6 at h
  split at h
  · cases h
  · split at h
    · cases h
    · rename_i h2
      refine parse_size ?_
      cases e : parse (bs p.evr) with
      | some x => rfl
      | none =>
        rw [e] at h2
        exact absurd (show errOf none ≠ 0 by decide) h2
theorem small_pkg {p : PkgT} (h : pkgCheck p = 0) (hl : (tokPkg p).length ≤ 1073741824) : (∀ t ∈ tokPkg p, t.small) ∧ PkgFine p := by
  obtain ⟨h1, h2, h3, h4, h5⟩ := pkgCheck_parts h
  have h6 := pkg_evr h
  have h7 := depsB_parts h4
  unfold filesB at h5
  rw [Bool.and_eq_true, List.all_eq_true] at h5
  obtain ⟨h8, h9⟩ := h5
  have h8 : p.files.length ≤ 16 := by simpa using h8
  have hdl : ∀ i j, (tokDep (p.deps i j)).length ≤ 1073741824 := fun i j => Nat.le_trans (tokDeps_one (p.deps i) j) (Nat.le_trans (tokPkg_lists p i) hl)
  refine ⟨fun t ht => ?_, ⟨fun i => (h7 i).1, fun i j => ⟨depCheck_form ((h7 i).2 j), depCheck_parts ((h7 i).2 j) (hdl i j)⟩, h8⟩⟩
  unfold tokPkg at ht
  rcases List.mem_append.1 ht with ht | ht
  · rcases List.mem_append.1 ht with ht | ht
    · simp only [List.mem_cons, List.not_mem_nil, or_false] at ht
      rcases ht with rfl | rfl | rfl | rfl
      · exact nameB_size h1
      · exact h6
      · exact archB_size h2
      · exact vendB_size h3
    · obtain ⟨i, _, ht⟩ := List.mem_flatMap.1 ht
      unfold tokDeps at ht
      rcases List.mem_cons.1 ht with rfl | ht
      · have := (h7 i).1
        show p.n i < 18446744073709551616
        omega
      · obtain ⟨j, _, ht⟩ := List.mem_flatMap.1 ht
        exact small_dep _ (depCheck_form ((h7 i).2 j)) (hdl i j) t ht
  · rcases List.mem_cons.1 ht with rfl | ht
    · show p.files.length < 18446744073709551616
      omega
    · obtain ⟨s, hs, rfl⟩ := List.mem_map.1 ht
      have := h9 s hs
      unfold fileOk at this
      rw [Bool.and_eq_true] at this
      exact nameB_size this.1
theorem small_repo {r : RepoT} (hn : r.name.size ≤ 60) (hp : -9223372036854775808 ≤ r.prio ∧ r.prio ≤ 9223372036854775807) (hc : ∀ p ∈ r.pkgs, pkgCheck p = 0) (hk : r.pkgs.length ≤ 200) (hl : (tokRepoT r).length ≤ 1073741824) : (∀ t ∈ tokRepoT r, t.small) ∧ ∀ p ∈ r.pkgs, PkgFine p := by
  have hlp : ∀ p ∈ r.pkgs, (tokPkg p).length ≤ 1073741824 := fun p hp => by
    have h1 := mem_flat_len (g := tokPkg) hp
    unfold tokRepoT tokRepo at hl
    simp only [List.length_cons] at hl
    omega
  refine ⟨fun t ht => ?_, fun p hp => (small_pkg (hc p hp) (hlp p hp)).2⟩
  unfold tokRepoT tokRepo at ht
  simp only [List.mem_cons] at ht
  rcases ht with rfl | rfl | rfl | rfl | ht
  · exact hn
  · exact zig_lt hp.1 hp.2
  · show (if r.inst = true then 1 else 0) < 18446744073709551616
    split <;> decide
  · show r.pkgs.length < 18446744073709551616
    omega
  · obtain ⟨p, hp, ht⟩ := List.mem_flatMap.1 ht
    exact (small_pkg (hc p hp) (hlp p hp)).1 t ht
theorem tabB_len : ∀ (T : List ByteArray), (∀ s ∈ T, s.size ≤ 60) → (tabB T).length ≤ 70 * T.length
  | [], _ => by simp [tabB]
  | s :: T, h => by
    have h1 := tabB_len T (fun u hu => h u (List.mem_cons_of_mem _ hu))
    have h2 := h s (by simp)
    have h3 : tabB (s :: T) = (Lib.uvarint s.size ++ s.data.toList) ++ tabB T := by simp [tabB]
    have h4 := Lib.uvarint_length64 (x := s.size) (by omega)
    have h5 : s.data.toList.length = s.size := by rw [Array.length_toList]; rfl
    rw [h3, List.length_append, List.length_append, List.length_cons]
    omega
theorem encB_len {kd : Nat} {ts : List Tok} (hs : ∀ t ∈ ts, t.small) (hl : ts.length ≤ 1073741824) (hk : kd < 18446744073709551616) : (encB kd ts).length ≤ 80 * ts.length + 30 := by
  have h1 := textsOf_len ts
  have h2 := tabB_len (textsOf ts) (fun s hm => hs _ (mem_textsOf.1 hm))
  have h3 := outOf_len (ts := ts) (by omega) (fun t ht => (hs t ht).ok)
  have h4 := Lib.uvarint_length64 hk
  have h5 := Lib.uvarint_length64 (x := (textsOf ts).length) (by omega)
  have h6 : magicB.length = 9 := rfl
  unfold encB
  simp only [List.length_append]
  omega
theorem BuiltHas.small {rl : List RepoT} {rs : List RepoH} {ks : List KeptT} (h : BuiltHas rl rs ks) (hp : ∀ r ∈ rl, -9223372036854775808 ≤ r.prio ∧ r.prio ≤ 9223372036854775807) (ht : (rl.flatMap tokRepoT).length + 1 ≤ 1073741824) : (∀ t ∈ tokPool rs ks, t.small) ∧ ∀ r ∈ rl, ∀ p ∈ r.pkgs, PkgFine p := by
  have h1 : ∀ r ∈ rl, (∀ t ∈ tokRepoT r, t.small) ∧ ∀ p ∈ r.pkgs, PkgFine p := fun r hr => by
    have := mem_flat_len (g := tokRepoT) hr
    exact small_repo (h.name r hr) (hp r hr) (h.fine r hr) (pkgs_le h r hr) (by omega)
  refine ⟨fun t ht2 => ?_, fun r hr => (h1 r hr).2⟩
  rw [tokPool_of h] at ht2
  rcases List.mem_cons.1 ht2 with rfl | ht2
  · have := h.rlen
    show rl.length < 18446744073709551616
    omega
  · obtain ⟨r, hr, ht2⟩ := List.mem_flatMap.1 ht2
    exact (h1 r hr).1 t ht2
/-- It can be laid. -/
theorem BuiltHas.can {rl : List RepoT} {rs : List RepoH} {ks : List KeptT} (h : BuiltHas rl rs ks) {kd : Int} (hk : kd = 1 ∨ kd = 2) (hp : ∀ r ∈ rl, -9223372036854775808 ≤ r.prio ∧ r.prio ≤ 9223372036854775807) (ht : (rl.flatMap tokRepoT).length + 1 ≤ 1073741824) : CanW kd rs ks := by
  have hl : rs.length = rl.length := by rw [h.rs, List.length_map]
  have hts : (tokPool rs ks).length ≤ 1073741824 := by
    rw [tokPool_of h, List.length_cons]
    exact ht
  refine ⟨by have := h.rlen; omega, h.klen, fun k hk => ?_, fun k hk i j => depCheck_form ((depsB_parts (pkgCheck_parts (h.kept k hk)).2.2.2.1 i).2 j), fun r hr => ?_, fun r hr => ?_, by omega, hts, ?_⟩
  · have := h.at_ k hk
    have := h.rlen
    omega
  · rw [h.rs] at hr
    obtain ⟨r2, hr2, rfl⟩ := List.mem_map.1 hr
    exact hp r2 hr2
  · rw [h.rs] at hr
    obtain ⟨r2, hr2, rfl⟩ := List.mem_map.1 hr
    have := h.name r2 hr2
    show r2.name.size ≤ maxLen
    unfold maxLen
    omega
  · have := encB_len (kd := kd.toNat) (h.small hp ht).1 hts (by omega)
    omega
theorem can_read {l : List UInt8} (hl : l.length ≤ 1073741824) (kd : Nat) (rl : List RepoT) (rs : List RepoH) (ks : List KeptT) (ats : List (Nat × Nat)) (h : rdAll l = some (kd, rl)) (hb : BuiltOK rl rs ks ats) : CanW kd rs ks := by
  obtain ⟨h1, h2, h3, h4⟩ := rdAll_eats h
  exact hb.has.can (by omega) h4 (by omega)
end Go.Proofs.YtbdankpkdhhlmaaGreat
namespace Go.Proofs.YtbdankpkdhhlmaaGreat
set_option linter.unusedVariables false
set_option linter.unusedSimpArgs false
open Go.RowKit

theorem rdRepo_back {T : List ByteArray} (hT : T.length < 18446744073709551616) {r : RepoT} (hp : -9223372036854775808 ≤ r.prio ∧ r.prio ≤ 9223372036854775807) (hk : r.pkgs.length ≤ 200) (hf : ∀ p ∈ r.pkgs, PkgFine p) (ht : ∀ s, .txt s ∈ tokRepoT r → s ∈ T) (q : List UInt8) : rdRepo T (rends T (tokRepoT r) ++ q) = some (r, q) := by
  unfold rdRepo
  unfold tokRepoT tokRepo at ht ⊢
  rw [rends_cons, rends_cons, rends_cons, rends_cons]
  simp only [List.append_assoc]
  rw [rdText_back hT (ht r.name (by simp))]
  simp only
  have e1 : ∀ q, rdBig (rend T (.num (zig r.prio)) ++ q) = some (zig r.prio, q) := fun q => rdBig_back (zig_lt hp.1 hp.2) q
  rw [e1]
  simp only
  have e2 : ∀ q, rdSmall 1 (rend T (.num (if r.inst = true then 1 else 0)) ++ q) = some ((if r.inst = true then 1 else 0), q) := fun q => rdSmall_back (by split <;> decide) (by decide) q
  rw [e2]
  simp only
  have e3 : ∀ q, rdSmall 200 (rend T (.num r.pkgs.length) ++ q) = some (r.pkgs.length, q) := fun q => rdSmall_back hk (by decide) q
  rw [e3]
  simp only
  have e4 := rdMany_back (rdPkg T) (fun p => rends T (tokPkg p)) r.pkgs (fun p hp q => rdPkg_back hT (hf p hp) (fun s hs => ht s (by
    refine List.mem_cons_of_mem _ (List.mem_cons_of_mem _ (List.mem_cons_of_mem _ (List.mem_cons_of_mem _ ?_)))
    exact List.mem_flatMap.2 ⟨p, hp, hs⟩)) q) q
  rw [rends_flat, e4]
  simp only [Option.map_some]
  rw [unzig_zig]
  obtain ⟨nm, pr, b, ps⟩ := r
  cases b <;> rfl
theorem rdTxt_back (s : ByteArray) (hs : s.size < 18446744073709551616) (q : List UInt8) : rdTxt ((Lib.uvarint s.size ++ s.data.toList) ++ q) = some (s, q) := by
  have h5 : s.data.toList.length = s.size := by rw [Array.length_toList]; rfl
  unfold rdTxt
  rw [List.append_assoc, rdNum_back (s.data.toList ++ q) (by rw [List.length_append]; omega) hs]
  simp only
  rw [List.take_left' h5, List.drop_left' h5]
theorem uvarint_pos (n : Nat) : 1 ≤ (Lib.uvarint n).length := by
  unfold Lib.uvarint
  split <;> simp
theorem tabB_ge : ∀ (T : List ByteArray), T.length ≤ (tabB T).length
  | [] => by simp
  | s :: T => by
    have h1 := tabB_ge T
    have h3 : tabB (s :: T) = (Lib.uvarint s.size ++ s.data.toList) ++ tabB T := by simp [tabB]
    have h4 := uvarint_pos s.size
    rw [h3, List.length_append, List.length_append, List.length_cons]
    omega
theorem rdTab_back {T : List ByteArray} (hT : T.length < 18446744073709551616) (hs : ∀ s ∈ T, s.size < 18446744073709551616) (q : List UInt8) : rdTab (Lib.uvarint T.length ++ (tabB T ++ q)) = some (T, q) := by
  unfold rdTab
  rw [rdNum_back _ (by rw [List.length_append]; have := tabB_ge T; omega) hT]
  simp only
  exact rdMany_back rdTxt (fun s => Lib.uvarint s.size ++ s.data.toList) T (fun s h q => rdTxt_back s (hs s h) q) q
/-- What is laid is read. -/
theorem read_back {rl : List RepoT} {rs : List RepoH} {ks : List KeptT} (h : BuiltHas rl rs ks) {kd : Nat} (hk : kd = 1 ∨ kd = 2) (hp : ∀ r ∈ rl, -9223372036854775808 ≤ r.prio ∧ r.prio ≤ 9223372036854775807) (ht : (rl.flatMap tokRepoT).length + 1 ≤ 1073741824) : rdAll (encB kd (tokPool rs ks)) = some (kd, rl) := by
  obtain ⟨hs, hf⟩ := h.small hp ht
  have htp := tokPool_of h
  obtain ⟨ts, ets⟩ : ∃ ts, tokPool rs ks = ts := ⟨_, rfl⟩
  rw [ets] at hs htp ⊢
  have htl : ts.length ≤ 1073741824 := by rw [htp, List.length_cons]; exact ht
  have hTl := textsOf_len ts
  unfold encB
  have em : magicB.isPrefixOf (magicB ++ Lib.uvarint kd ++ Lib.uvarint (textsOf ts).length ++ tabB (textsOf ts) ++ outOf ts) = true := by
    rw [List.isPrefixOf_iff_prefix]
    simp only [List.append_assoc]
    exact List.prefix_append _ _
  unfold rdAll
  rw [if_pos em]
  have ed : (magicB ++ Lib.uvarint kd ++ Lib.uvarint (textsOf ts).length ++ tabB (textsOf ts) ++ outOf ts).drop 9 = Lib.uvarint kd ++ (Lib.uvarint (textsOf ts).length ++ (tabB (textsOf ts) ++ outOf ts)) := by
    simp only [List.append_assoc]
    exact List.drop_left' rfl
  rw [ed, rdSmall_back (by omega) (by decide)]
  simp only
  rw [if_neg (by omega), rdTab_back (by omega) (fun s hm => by have := hs _ (mem_textsOf.1 hm); have h2 : s.size ≤ 60 := this; omega)]
  simp only
  have er : rdRepos (textsOf ts) (outOf ts ++ []) = some (rl, []) := by
    unfold outOf rdRepos
    obtain ⟨T, eT⟩ : ∃ T, textsOf ts = T := ⟨_, rfl⟩
    have hm : ∀ s, .txt s ∈ ts → s ∈ T := fun s hs => by rw [← eT]; exact mem_textsOf.2 hs
    rw [eT] at hTl ⊢
    rw [htp, rends_cons, List.append_assoc]
    have e1 : ∀ q, rdSmall 8 (rend T (.num rl.length) ++ q) = some (rl.length, q) := fun q => rdSmall_back h.rlen (by decide) q
    rw [e1]
    simp only
    rw [rends_flat]
    exact rdMany_back (rdRepo T) (fun r => rends T (tokRepoT r)) rl (fun r hr q => rdRepo_back (by omega) (hp r hr) (pkgs_le h r hr) (hf r hr) (fun s hs => hm s (by
      rw [htp]
      exact List.mem_cons_of_mem _ (List.mem_flatMap.2 ⟨r, hr, hs⟩))) q) []
  rw [List.append_nil] at er
  rw [er]
  rfl
end Go.Proofs.YtbdankpkdhhlmaaGreat
