/-
  A pool as bytes: tokens, how they are laid, how bytes are read. Plain words; no conditions beyond those typed.
  Dependencies and packages that are laid are read again. Plain words; no conditions beyond those typed.
-/
import Derived.Test.YtbdankpkdhhlmaaGreatPut
namespace Go.Proofs.YtbdankpkdhhlmaaGreat
set_option linter.unusedVariables false
set_option linter.unusedSimpArgs false

/-- What is laid: a number, a text (by its number). -/
inductive Tok where
  | num (n : Nat)
  | txt (s : ByteArray)
/-- The number of a text. -/
def idxT : List ByteArray → ByteArray → Nat
  | [], _ => 0
  | x :: l, s => if x = s then 0 else idxT l s + 1
instance memT (s : ByteArray) (T : List ByteArray) : Decidable (s ∈ T) := decidable_of_iff (T.any (fun x => decide (x = s)) = true) (by simp)
def addT (T : List ByteArray) : Tok → List ByteArray
  | .num _ => T
  | .txt s => if s ∈ T then T else T ++ [s]
/-- The texts, each once. -/
def textsOf (ts : List Tok) : List ByteArray := ts.foldl addT []
def rend (T : List ByteArray) : Tok → List UInt8
  | .num n => Lib.uvarint n
  | .txt s => Lib.uvarint (idxT T s)
def rends (T : List ByteArray) (ts : List Tok) : List UInt8 := ts.flatMap (rend T)
/-- The bytes of tokens. -/
def outOf (ts : List Tok) : List UInt8 := rends (textsOf ts) ts

theorem addT_txt (T : List ByteArray) (s : ByteArray) : addT T (.txt s) = if s ∈ T then T else T ++ [s] := rfl
theorem idxT_append {T : List ByteArray} {s : ByteArray} (h : s ∈ T) (M : List ByteArray) : idxT (T ++ M) s = idxT T s := by
  induction T with
  | nil => cases h
  | cons x l ih =>
    rw [List.cons_append]
    unfold idxT
    by_cases e : x = s
    · rw [if_pos e, if_pos e]
    · rw [if_neg e, if_neg e, ih (by rcases List.mem_cons.1 h with h | h; exact absurd h.symm e; exact h)]
theorem idxT_new {T : List ByteArray} {s : ByteArray} (h : s ∉ T) : idxT (T ++ [s]) s = T.length := by
  induction T with
  | nil => simp [idxT]
  | cons x l ih =>
    have hx : ¬ x = s := fun e => h (by simp [e])
    rw [List.cons_append]
    unfold idxT
    rw [if_neg hx, ih (fun hm => h (List.mem_cons_of_mem _ hm))]
    simp
theorem idxT_lt {T : List ByteArray} {s : ByteArray} (h : s ∈ T) : idxT T s < T.length := by
  induction T with
  | nil => cases h
  | cons x l ih =>
    unfold idxT
    by_cases e : x = s
    · rw [if_pos e]; simp
    · rw [if_neg e]
      have := ih (by rcases List.mem_cons.1 h with h | h; exact absurd h.symm e; exact h)
      simp
      omega
theorem idxT_get {T : List ByteArray} {s : ByteArray} (h : s ∈ T) : T[idxT T s]? = some s := by
  induction T with
  | nil => cases h
  | cons x l ih =>
    unfold idxT
    by_cases e : x = s
    · rw [if_pos e, e]; rfl
    · rw [if_neg e]
      exact ih (by rcases List.mem_cons.1 h with h | h; exact absurd h.symm e; exact h)
theorem textsOf_snoc (ts : List Tok) (t : Tok) : textsOf (ts ++ [t]) = addT (textsOf ts) t := by
  unfold textsOf
  rw [List.foldl_append]
  rfl
theorem foldT_more (us : List Tok) : ∀ T, ∃ M, us.foldl addT T = T ++ M := by
  induction us with
  | nil => exact fun T => ⟨[], by simp⟩
  | cons u us ih =>
    intro T
    rw [List.foldl_cons]
    obtain ⟨M, hM⟩ := ih (addT T u)
    rw [hM]
    cases u with
    | num n => exact ⟨M, rfl⟩
    | txt s =>
      rw [addT_txt]
      by_cases e : s ∈ T
      · exact ⟨M, by rw [if_pos e]⟩
      · exact ⟨s :: M, by rw [if_neg e]; simp⟩
theorem textsOf_more (ts us : List Tok) : ∃ M, textsOf (ts ++ us) = textsOf ts ++ M := by
  unfold textsOf
  rw [List.foldl_append]
  exact foldT_more us _
theorem mem_addT {T : List ByteArray} {t : Tok} {s : ByteArray} : s ∈ addT T t ↔ s ∈ T ∨ t = .txt s := by
  cases t with
  | num n => simp [addT]
  | txt u =>
    rw [addT_txt]
    by_cases e : u ∈ T
    · rw [if_pos e]
      constructor
      · exact .inl
      · rintro (h | h)
        · exact h
        · injection h with h
          rw [← h]
          exact e
    · rw [if_neg e, List.mem_append, List.mem_singleton]
      constructor
      · rintro (h | h)
        · exact .inl h
        · exact .inr (by rw [h])
      · rintro (h | h)
        · exact .inl h
        · injection h with h
          exact .inr h.symm
theorem mem_foldT (us : List Tok) : ∀ (T : List ByteArray) (s : ByteArray), s ∈ us.foldl addT T ↔ s ∈ T ∨ .txt s ∈ us := by
  induction us with
  | nil => intro T s; simp
  | cons u us ih =>
    intro T s
    rw [List.foldl_cons, ih, mem_addT, List.mem_cons, or_assoc]
    constructor
    · rintro (h | h | h)
      · exact .inl h
      · exact .inr (.inl h.symm)
      · exact .inr (.inr h)
    · rintro (h | h | h)
      · exact .inl h
      · exact .inr (.inl h.symm)
      · exact .inr (.inr h)
theorem mem_textsOf {ts : List Tok} {s : ByteArray} : s ∈ textsOf ts ↔ .txt s ∈ ts := by
  unfold textsOf
  rw [mem_foldT]
  simp
theorem foldT_len (us : List Tok) : ∀ T : List ByteArray, (us.foldl addT T).length ≤ T.length + us.length := by
  induction us with
  | nil => intro T; simp
  | cons u us ih =>
    intro T
    rw [List.foldl_cons]
    refine Nat.le_trans (ih _) ?_
    cases u with
    | num n =>
      show T.length + us.length ≤ _
      rw [List.length_cons]
      omega
    | txt s =>
      rw [addT_txt]
      split
      · rw [List.length_cons]; omega
      · rw [List.length_append, List.length_singleton, List.length_cons]; omega
theorem textsOf_len (ts : List Tok) : (textsOf ts).length ≤ ts.length := by
  have h := foldT_len ts []
  rw [List.length_nil, Nat.zero_add] at h
  exact h
/-- Texts ahead keep their numbers. -/
theorem rend_more {ts : List Tok} (us : List Tok) {t : Tok} (h : t ∈ ts) : rend (textsOf (ts ++ us)) t = rend (textsOf ts) t := by
  cases t with
  | num n => rfl
  | txt s =>
    obtain ⟨M, hM⟩ := textsOf_more ts us
    show Lib.uvarint _ = Lib.uvarint _
    rw [hM, idxT_append (mem_textsOf.2 h)]
theorem rends_more (ts us : List Tok) : rends (textsOf (ts ++ us)) ts = outOf ts := by
  unfold outOf rends
  have : ∀ l : List Tok, (∀ t ∈ l, t ∈ ts) → l.flatMap (rend (textsOf (ts ++ us))) = l.flatMap (rend (textsOf ts)) := by
    intro l
    induction l with
    | nil => intro _; rfl
    | cons t l ih =>
      intro h
      rw [List.flatMap_cons, List.flatMap_cons, ih (fun t ht => h t (List.mem_cons_of_mem _ ht)), rend_more us (h t (by simp))]
  exact this ts (fun _ h => h)
theorem rends_append (T : List ByteArray) (a b : List Tok) : rends T (a ++ b) = rends T a ++ rends T b := by
  unfold rends
  rw [List.flatMap_append]
theorem outOf_append (ts us : List Tok) : outOf (ts ++ us) = outOf ts ++ rends (textsOf (ts ++ us)) us := by
  show rends _ (ts ++ us) = _
  rw [rends_append, rends_more]
theorem outOf_snoc (ts : List Tok) (t : Tok) : outOf (ts ++ [t]) = outOf ts ++ rend (textsOf (ts ++ [t])) t := by
  rw [outOf_append]
  simp [rends]
/-- The numbers are such as can be laid. -/
def Tok.ok : Tok → Prop
  | .num n => n < 18446744073709551616
  | .txt _ => True
theorem rend_len {T : List ByteArray} (hT : T.length < 18446744073709551616) {t : Tok} (ht : t.ok) (hm : ∀ s, t = .txt s → s ∈ T) : (rend T t).length ≤ 10 := by
  cases t with
  | num n => exact Lib.uvarint_length64 ht
  | txt s => exact Lib.uvarint_length64 (Nat.lt_trans (idxT_lt (hm s rfl)) hT)
theorem rends_len {T : List ByteArray} (hT : T.length < 18446744073709551616) : ∀ (ts : List Tok), (∀ t ∈ ts, t.ok ∧ ∀ s, t = .txt s → s ∈ T) → (rends T ts).length ≤ 10 * ts.length
  | [], _ => by simp [rends]
  | t :: ts, h => by
    have h1 := rend_len hT (h t (by simp)).1 (h t (by simp)).2
    have h2 := rends_len hT ts (fun u hu => h u (List.mem_cons_of_mem _ hu))
    have h3 : rends T (t :: ts) = rend T t ++ rends T ts := by simp [rends]
    rw [h3, List.length_append, List.length_cons]
    omega
theorem outOf_len {ts : List Tok} (hl : ts.length < 18446744073709551616) (hok : ∀ t ∈ ts, t.ok) : (outOf ts).length ≤ 10 * ts.length :=
  rends_len (Nat.lt_of_le_of_lt (textsOf_len ts) hl) ts fun t ht => ⟨hok t ht, fun s e => mem_textsOf.2 (by rw [← e]; exact ht)⟩

/-! ### the tokens of a pool -/
def tokDep : DepT → List Tok
  | .mk k nm op ev n args => .num k.toNat :: if k = 1 then .txt nm :: .num op.toNat :: (if 0 < op then [.txt ev] else []) else .num n :: (List.finRange n).flatMap fun i => tokDep (args i)
def tokDeps (n : Nat) (args : Fin n → DepT) : List Tok := .num n :: (List.finRange n).flatMap fun i => tokDep (args i)
def tokPkg (p : PkgT) : List Tok := [.txt p.name, .txt p.evr, .txt p.arch, .txt p.vendor] ++ (List.finRange 7).flatMap (fun j => tokDeps (p.n j) (p.deps j)) ++ .num p.files.length :: p.files.map .txt
/-- An integer as a number. -/
def zig (n : Int) : Nat := if 0 ≤ n then (2 * n).toNat else (-2 * n - 1).toNat
def unzig (z : Nat) : Int := if z % 2 = 0 then ((z / 2 : Nat) : Int) else -((z / 2 : Nat) : Int) - 1
theorem unzig_zig (n : Int) : unzig (zig n) = n := by
  unfold unzig zig
  by_cases h : 0 ≤ n
  · rw [if_pos h, if_pos (by omega)]
    omega
  · rw [if_neg h, if_neg (by omega)]
    omega
theorem zig_lt {n : Int} (h1 : -9223372036854775808 ≤ n) (h2 : n ≤ 9223372036854775807) : zig n < 18446744073709551616 := by
  unfold zig
  split <;> omega

/-! ### reading -/
def rdBig (l : List UInt8) : Option (Nat × List UInt8) := if (takeB 0 0 l).2.2 = 0 then some ((takeB 0 0 l).1, l.drop (takeB 0 0 l).2.1) else none
def rdSmall (m : Nat) (l : List UInt8) : Option (Nat × List UInt8) :=
  match rdBig l with
  | none => none
  | some (n, r) => if n ≤ m then some (n, r) else none
def rdNum (l : List UInt8) : Option (Nat × List UInt8) :=
  match rdBig l with
  | none => none
  | some (n, r) => if n ≤ r.length then some (n, r) else none
def rdText (T : List ByteArray) (l : List UInt8) : Option (ByteArray × List UInt8) :=
  match rdBig l with
  | none => none
  | some (n, r) => if h : n < T.length then some (T[n], r) else none
def rdMany {α : Type} (f : List UInt8 → Option (α × List UInt8)) : Nat → List UInt8 → Option (List α × List UInt8)
  | 0, l => some ([], l)
  | n + 1, l =>
    match f l with
    | none => none
    | some (x, r) =>
      match rdMany f n r with
      | none => none
      | some (xs, r) => some (x :: xs, r)
def rdDep (T : List ByteArray) : Nat → List UInt8 → Option (DepT × List UInt8)
  | 0, _ => none
  | d + 1, l =>
    match rdSmall 6 l with
    | none => none
    | some (k, l) =>
      if k = 0 then none
      else if k = 1 then
        match rdText T l with
        | none => none
        | some (nm, l) =>
          match rdSmall 7 l with
          | none => none
          | some (op, l) =>
            if op = 0 then some (.mk 1 nm 0 ⟨#[]⟩ 0 (fun i => i.elim0), l)
            else
              match rdText T l with
              | none => none
              | some (ev, l) => some (.mk 1 nm (op : Int) ev 0 (fun i => i.elim0), l)
      else
        match rdSmall 16 l with
        | none => none
        | some (n, l) =>
          match rdMany (rdDep T d) n l with
          | none => none
          | some (xs, l) => some (.mk (k : Int) ⟨#[]⟩ 0 ⟨#[]⟩ xs.length (fun i => xs[i]), l)
def rdDeps (T : List ByteArray) (d : Nat) (l : List UInt8) : Option (List DepT × List UInt8) :=
  match rdSmall 16 l with
  | none => none
  | some (n, l) => rdMany (rdDep T d) n l
def mkPkg (nm ev ar ve : ByteArray) (L : List (List DepT)) (fs : List ByteArray) : PkgT :=
  ⟨nm, ev, ar, ve, fun i => (L.getD i.val []).length, fun i j => (L.getD i.val [])[j], fs⟩
def rdPkg (T : List ByteArray) (l : List UInt8) : Option (PkgT × List UInt8) :=
  match rdText T l with
  | none => none
  | some (nm, l) =>
    match rdText T l with
    | none => none
    | some (ev, l) =>
      match rdText T l with
      | none => none
      | some (ar, l) =>
        match rdText T l with
        | none => none
        | some (ve, l) =>
          match rdMany (rdDeps T 16) 7 l with
          | none => none
          | some (L, l) =>
            match rdSmall 16 l with
            | none => none
            | some (n, l) =>
              match rdMany (rdText T) n l with
              | none => none
              | some (fs, l) => some (mkPkg nm ev ar ve L fs, l)
/-- A text of the table. -/
def rdTxt (l : List UInt8) : Option (ByteArray × List UInt8) :=
  match rdNum l with
  | none => none
  | some (n, r) => some (⟨(r.take n).toArray⟩, r.drop n)

/-! ### what is laid is read -/
theorem rdBig_back {n : Nat} (h : n < 18446744073709551616) (r : List UInt8) : rdBig (Lib.uvarint n ++ r) = some (n, r) := by
  unfold rdBig
  rw [take_back h]
  simp
theorem rdSmall_back {n m : Nat} (h : n ≤ m) (hm : m < 18446744073709551616) (r : List UInt8) : rdSmall m (Lib.uvarint n ++ r) = some (n, r) := by
  unfold rdSmall
  rw [rdBig_back (Nat.lt_of_le_of_lt h hm)]
  simp [h]
theorem rdNum_back {n : Nat} (r : List UInt8) (h : n ≤ r.length) (hn : n < 18446744073709551616) : rdNum (Lib.uvarint n ++ r) = some (n, r) := by
  unfold rdNum
  rw [rdBig_back hn]
  simp [h]
theorem rdText_back {T : List ByteArray} (hT : T.length < 18446744073709551616) {s : ByteArray} (h : s ∈ T) (r : List UInt8) : rdText T (rend T (.txt s) ++ r) = some (s, r) := by
  unfold rdText
  have h1 := idxT_lt h
  show (match rdBig (Lib.uvarint (idxT T s) ++ r) with | none => none | some (n, r) => _) = _
  rw [rdBig_back (Nat.lt_trans h1 hT)]
  simp only [dif_pos h1]
  have h2 := idxT_get h
  rw [List.getElem?_eq_getElem h1] at h2
  rw [Option.some.inj h2]
theorem rdMany_back {α : Type} (f : List UInt8 → Option (α × List UInt8)) (e : α → List UInt8) : ∀ (xs : List α), (∀ x ∈ xs, ∀ r, f (e x ++ r) = some (x, r)) → ∀ r, rdMany f xs.length (xs.flatMap e ++ r) = some (xs, r)
  | [], _, r => rfl
  | x :: xs, h, r => by
    rw [List.flatMap_cons, List.append_assoc, List.length_cons]
    unfold rdMany
    rw [h x (by simp)]
    simp only
    rw [rdMany_back f e xs (fun y hy => h y (List.mem_cons_of_mem _ hy)) r]
theorem ofFn_len {α : Type} {n : Nat} (f : Fin n → α) : ((List.finRange n).map f).length = n := by simp
/-- A list of what a function tells. -/
theorem mk_ofFn (k : Int) (nm : ByteArray) (op : Int) (ev : ByteArray) {n : Nat} (args : Fin n → DepT) {xs : List DepT} (h : xs = (List.finRange n).map args) : DepT.mk k nm op ev xs.length (fun i => xs[i]) = .mk k nm op ev n args := by
  have hl : xs.length = n := by rw [h]; simp
  subst hl
  congr 1
  funext i
  have h1 : xs[i.val]? = ((List.finRange xs.length).map args)[i.val]? := by rw [← h]
  rw [List.getElem?_eq_getElem i.isLt, List.getElem?_eq_getElem (by simp)] at h1
  have h2 := Option.some.inj h1
  rw [List.getElem_map, List.getElem_finRange] at h2
  exact h2
/-- The greatest of the first n. -/
def maxto (f : Nat → Nat) : Nat → Nat
  | 0 => 0
  | n + 1 => max (maxto f n) (f n)
theorem maxto_le (f : Nat → Nat) : ∀ (n j : Nat), j < n → f j ≤ maxto f n
  | n + 1, j, h => by
    unfold maxto
    by_cases e : j = n
    · subst e; exact Nat.le_max_right _ _
    · exact Nat.le_trans (maxto_le f n j (by omega)) (Nat.le_max_left _ _)
theorem maxto_lt (f : Nat → Nat) (b : Nat) : ∀ (n : Nat), (∀ j, j < n → f j ≤ b) → maxto f n ≤ b
  | 0, _ => Nat.zero_le _
  | n + 1, h => by
    unfold maxto
    exact Nat.max_le.2 ⟨maxto_lt f b n (fun j hj => h j (by omega)), h n (by omega)⟩
/-- How deep a dependency is. -/
def deepD : DepT → Nat
  | .mk k _ _ _ n args => 1 + if k = 1 then 0 else maxto (fun j => if h : j < n then deepD (args ⟨j, h⟩) else 0) n
theorem upto_ge (f : Nat → Nat) : ∀ (n j : Nat), j < n → f j ≤ upto f n
  | n + 1, j, h => by
    unfold upto
    by_cases e : j = n
    · subst e; omega
    · have := upto_ge f n j (by omega)
      omega
theorem upto_more (f : Nat → Nat) : ∀ (n j : Nat), 2 ≤ n → j < n → (∀ i, i < n → 1 ≤ f i) → f j + 1 ≤ upto f n
  | n + 1, j, h2, h, h1 => by
    unfold upto
    by_cases e : j = n
    · subst e
      have := upto_ge f j 0 (by omega)
      have := h1 0 (by omega)
      omega
    · have := upto_ge f n j (by omega)
      have := h1 n (by omega)
      omega
end Go.Proofs.YtbdankpkdhhlmaaGreat
namespace Go.Proofs.YtbdankpkdhhlmaaGreat
set_option linter.unusedVariables false
set_option linter.unusedSimpArgs false

theorem upto_len (f : Nat → Nat) : ∀ (n : Nat), (∀ i, i < n → 1 ≤ f i) → n ≤ upto f n
  | 0, _ => Nat.zero_le _
  | n + 1, h => by
    have h1 := upto_len f n (fun i hi => h i (by omega))
    have h2 := h n (by omega)
    unfold upto
    omega
theorem size0 {s : ByteArray} (h : s.size = 0) : s = ⟨#[]⟩ := by
  obtain ⟨a⟩ := s
  have h1 : a.size = 0 := h
  rw [Array.eq_empty_of_size_eq_zero h1]
/-- A name's form. -/
theorem dform_name {k : Int} {nm : ByteArray} {op : Int} {ev : ByteArray} {n : Nat} {args : Fin n → DepT} (h : formB (.mk k nm op ev n args) = true) (hk : k = 1) :
    n = 0 ∧ ((op = 0 ∧ ev = ⟨#[]⟩) ∨ (1 ≤ op ∧ op ≤ 7)) := by
  unfold formB at h
  rw [if_pos hk] at h
  simp only [Bool.and_eq_true, Bool.or_eq_true, decide_eq_true_eq] at h
  obtain ⟨⟨_, h2⟩, h3⟩ := h
  refine ⟨h2, ?_⟩
  rcases h3 with ⟨h3, h4⟩ | ⟨⟨h3, h4⟩, _⟩
  · exact .inl ⟨h3, size0 h4⟩
  · exact .inr ⟨h3, h4⟩
theorem dform_node {k : Int} {nm : ByteArray} {op : Int} {ev : ByteArray} {n : Nat} {args : Fin n → DepT} (h : formB (.mk k nm op ev n args) = true) (hk : ¬ k = 1) :
    2 ≤ k ∧ k ≤ 6 ∧ nm = ⟨#[]⟩ ∧ op = 0 ∧ ev = ⟨#[]⟩ ∧ 2 ≤ n ∧ ∀ i, formB (args i) = true := by
  unfold formB at h
  rw [if_neg hk] at h
  split at h
  · cases h
  · rename_i hc
    rw [List.all_eq_true] at h
    refine ⟨by omega, by omega, size0 (by omega), by omega, size0 (by omega), by omega, fun i => ?_⟩
    have h1 := h i (List.mem_finRange i)
    rw [Bool.and_eq_true] at h1
    exact h1.2
theorem nparts_node {k : Int} (hk : ¬ k = 1) (nm : ByteArray) (op : Int) (ev : ByteArray) (n : Nat) (args : Fin n → DepT) : nparts (.mk k nm op ev n args) = upto (fun j => if h : j < n then nparts (args ⟨j, h⟩) else 0) n := by
  rw [nparts, if_neg hk]
theorem deepD_node {k : Int} (hk : ¬ k = 1) (nm : ByteArray) (op : Int) (ev : ByteArray) (n : Nat) (args : Fin n → DepT) : deepD (.mk k nm op ev n args) = 1 + maxto (fun j => if h : j < n then deepD (args ⟨j, h⟩) else 0) n := by
  rw [deepD, if_neg hk]
theorem deep_parts : ∀ d : DepT, formB d = true → 1 ≤ nparts d ∧ deepD d ≤ nparts d
  | .mk k nm op ev n args, h => by
    by_cases hk : k = 1
    · rw [nparts, deepD, if_pos hk, if_pos hk]
      omega
    · obtain ⟨_, _, _, _, _, hn, hi⟩ := dform_node h hk
      have ih : ∀ i, 1 ≤ nparts (args i) ∧ deepD (args i) ≤ nparts (args i) := fun i => deep_parts (args i) (hi i)
      rw [nparts_node hk, deepD_node hk]
      have h1 : ∀ i, i < n → 1 ≤ (fun j => if h : j < n then nparts (args ⟨j, h⟩) else 0) i := fun i hi => by
        show 1 ≤ dite _ _ _
        rw [dif_pos hi]
        exact (ih ⟨i, hi⟩).1
      have h2 := upto_len _ n h1
      refine ⟨by omega, ?_⟩
      have h3 : maxto (fun j => if h : j < n then deepD (args ⟨j, h⟩) else 0) n ≤ upto (fun j => if h : j < n then nparts (args ⟨j, h⟩) else 0) n - 1 := by
        refine maxto_lt _ _ n fun j hj => ?_
        simp only [dif_pos hj]
        have h4 := upto_more _ n j hn hj h1
        simp only [dif_pos hj] at h4
        have := (ih ⟨j, hj⟩).2
        omega
      omega
/-- What is below. -/
theorem node_below {k : Int} {nm : ByteArray} {op : Int} {ev : ByteArray} {n : Nat} {args : Fin n → DepT} (h : formB (.mk k nm op ev n args) = true) (hk : ¬ k = 1) : n ≤ nparts (.mk k nm op ev n args) ∧ ∀ i, nparts (args i) ≤ nparts (.mk k nm op ev n args) ∧ deepD (args i) + 1 ≤ deepD (.mk k nm op ev n args) := by
  obtain ⟨_, _, _, _, _, hn, hi⟩ := dform_node h hk
  have h1 : ∀ i, i < n → 1 ≤ (fun j => if h : j < n then nparts (args ⟨j, h⟩) else 0) i := fun i hj => by
    show 1 ≤ dite _ _ _
    rw [dif_pos hj]
    exact (deep_parts _ (hi ⟨i, hj⟩)).1
  rw [nparts_node hk, deepD_node hk]
  refine ⟨upto_len _ n h1, fun i => ⟨?_, ?_⟩⟩
  · have h2 := upto_ge (fun j => if h : j < n then nparts (args ⟨j, h⟩) else 0) n i.val i.isLt
    simp only [dif_pos i.isLt] at h2
    exact h2
  · have h2 := maxto_le (fun j => if h : j < n then deepD (args ⟨j, h⟩) else 0) n i.val i.isLt
    simp only [dif_pos i.isLt] at h2
    have h3 : deepD (args i) ≤ maxto (fun j => if h : j < n then deepD (args ⟨j, h⟩) else 0) n := h2
    omega
theorem rends_cons (T : List ByteArray) (t : Tok) (ts : List Tok) : rends T (t :: ts) = rend T t ++ rends T ts := by simp [rends]
theorem rends_flat {α : Type} (T : List ByteArray) (f : α → List Tok) (xs : List α) : rends T (xs.flatMap f) = xs.flatMap (fun x => rends T (f x)) := by
  unfold rends
  rw [List.flatMap_assoc]
theorem tokDep_name (nm : ByteArray) (op : Int) (ev : ByteArray) (n : Nat) (args : Fin n → DepT) : tokDep (.mk 1 nm op ev n args) = .num 1 :: .txt nm :: .num op.toNat :: (if 0 < op then [.txt ev] else []) := by
  unfold tokDep
  rw [if_pos rfl]
  rfl
theorem tokDep_node {k : Int} (hk : ¬ k = 1) (nm : ByteArray) (op : Int) (ev : ByteArray) (n : Nat) (args : Fin n → DepT) : tokDep (.mk k nm op ev n args) = .num k.toNat :: tokDeps n args := by
  unfold tokDep
  rw [if_neg hk]
  rfl
theorem rdDep_back {T : List ByteArray} (hT : T.length < 18446744073709551616) : ∀ (deep : Nat) (d : DepT), formB d = true → nparts d ≤ 16 → deepD d ≤ deep → (∀ s, .txt s ∈ tokDep d → s ∈ T) → ∀ r, rdDep T deep (rends T (tokDep d) ++ r) = some (d, r) := by
  intro deep
  induction deep with
  | zero =>
    intro d h _ hd
    cases d with
    | mk k nm op ev n args =>
      unfold deepD at hd
      omega
  | succ deep ih =>
    intro d h hp hd ht r
    cases d with
    | mk k nm op ev n args =>
      by_cases hk : k = 1
      · obtain ⟨hn, ho⟩ := dform_name h hk
        subst hk
        subst hn
        rw [tokDep_name] at ht ⊢
        rw [rends_cons, List.append_assoc, rdDep]
        have e1 : rdSmall 6 (rend T (.num 1) ++ (rends T (.txt nm :: .num op.toNat :: (if 0 < op then [.txt ev] else [])) ++ r)) = _ := rdSmall_back (by decide) (by decide) _
        rw [e1]
        simp only
        rw [if_neg (by decide), if_pos (by trivial), rends_cons, List.append_assoc, rdText_back hT (ht nm (by simp))]
        simp only
        rw [rends_cons, List.append_assoc]
        have e2 : rdSmall 7 (rend T (.num op.toNat) ++ (rends T (if 0 < op then [.txt ev] else []) ++ r)) = _ := rdSmall_back (by omega) (by decide) _
        rw [e2]
        simp only
        rcases ho with ⟨h1, h2⟩ | ⟨h1, h2⟩
        · subst h1 h2
          have ea : args = fun i => i.elim0 := funext fun i => i.elim0
          rw [ea]
          rfl
        · have e3 : ¬ op.toNat = 0 := by omega
          have e4 : 0 < op := by omega
          rw [if_neg e3, if_pos e4, rends_cons, List.append_assoc, rdText_back hT (ht ev (by rw [if_pos e4]; simp))]
          simp only
          have ea : args = fun i => i.elim0 := funext fun i => i.elim0
          rw [ea, Int.toNat_of_nonneg (by omega)]
          rfl
      · obtain ⟨hk1, hk2, h1, h2, h3, hn, hi⟩ := dform_node h hk
        obtain ⟨hn2, hb⟩ := node_below h hk
        subst h1 h2 h3
        rw [tokDep_node hk] at ht ⊢
        rw [rends_cons, List.append_assoc, rdDep]
        have e1 : rdSmall 6 (rend T (.num k.toNat) ++ (rends T (tokDeps n args) ++ r)) = _ := rdSmall_back (by omega) (by decide) _
        rw [e1]
        simp only
        rw [if_neg (by omega), if_neg (by omega)]
        unfold tokDeps
        rw [rends_cons, List.append_assoc]
        have e2 : rdSmall 16 (rend T (.num n) ++ (rends T ((List.finRange n).flatMap fun i => tokDep (args i)) ++ r)) = _ := rdSmall_back (by omega) (by decide) _
        rw [e2]
        simp only
        have e3 : rends T ((List.finRange n).flatMap fun i => tokDep (args i)) = ((List.finRange n).map args).flatMap (fun d => rends T (tokDep d)) := by
          rw [rends_flat, List.flatMap_map]
        have e4 := rdMany_back (rdDep T deep) (fun d => rends T (tokDep d)) ((List.finRange n).map args) (fun x hx r => by
          obtain ⟨i, _, rfl⟩ := List.mem_map.1 hx
          refine ih (args i) (hi i) (Nat.le_trans (hb i).1 hp) (by have := (hb i).2; omega) (fun s hs => ht s ?_) r
          refine List.mem_cons_of_mem _ (List.mem_cons_of_mem _ ?_)
          exact List.mem_flatMap.2 ⟨i, List.mem_finRange i, hs⟩) r
        rw [ofFn_len] at e4
        rw [e3, e4]
        simp only
        rw [mk_ofFn _ _ _ _ args rfl, Int.toNat_of_nonneg (by omega)]
/-- A list of dependencies. -/
theorem rdDeps_back {T : List ByteArray} (hT : T.length < 18446744073709551616) {n : Nat} {args : Fin n → DepT} (hn : n ≤ 16) (hi : ∀ i, formB (args i) = true ∧ nparts (args i) ≤ 16) (ht : ∀ s, .txt s ∈ tokDeps n args → s ∈ T) (r : List UInt8) :
    rdDeps T 16 (rends T (tokDeps n args) ++ r) = some ((List.finRange n).map args, r) := by
  unfold rdDeps tokDeps
  rw [rends_cons, List.append_assoc]
  have e2 : rdSmall 16 (rend T (.num n) ++ (rends T ((List.finRange n).flatMap fun i => tokDep (args i)) ++ r)) = _ := rdSmall_back (by omega) (by decide) _
  rw [e2]
  simp only
  have e3 : rends T ((List.finRange n).flatMap fun i => tokDep (args i)) = ((List.finRange n).map args).flatMap (fun d => rends T (tokDep d)) := by
    rw [rends_flat, List.flatMap_map]
  have e4 := rdMany_back (rdDep T 16) (fun d => rends T (tokDep d)) ((List.finRange n).map args) (fun x hx r => by
    obtain ⟨i, _, rfl⟩ := List.mem_map.1 hx
    refine rdDep_back hT 16 (args i) (hi i).1 (hi i).2 (Nat.le_trans (deep_parts _ (hi i).1).2 (hi i).2) (fun s hs => ht s ?_) r
    refine List.mem_cons_of_mem _ ?_
    exact List.mem_flatMap.2 ⟨i, List.mem_finRange i, hs⟩) r
  rw [ofFn_len] at e4
  rw [e3, e4]

/-- A package that has room. -/
structure PkgFine (p : PkgT) : Prop where
  n : ∀ i, p.n i ≤ 16
  deps : ∀ i j, formB (p.deps i j) = true ∧ nparts (p.deps i j) ≤ 16
  files : p.files.length ≤ 16
theorem pkg_ext {p q : PkgT} (h1 : p.name = q.name) (h2 : p.evr = q.evr) (h3 : p.arch = q.arch) (h4 : p.vendor = q.vendor) (h5 : p.files = q.files) (h6 : ∀ i, (List.finRange (p.n i)).map (p.deps i) = (List.finRange (q.n i)).map (q.deps i)) : p = q := by
  obtain ⟨a1, a2, a3, a4, an, ad, af⟩ := p
  obtain ⟨b1, b2, b3, b4, bn, bd, bf⟩ := q
  simp only at h1 h2 h3 h4 h5 h6
  subst h1 h2 h3 h4 h5
  have hn : an = bn := funext fun i => by
    have := congrArg List.length (h6 i)
    simpa using this
  subst hn
  have hd : ad = bd := by
    funext i j
    have h7 := congrArg (fun l => l[j.val]?) (h6 i)
    simp only [List.getElem?_map] at h7
    rw [List.getElem?_eq_getElem (by simp), List.getElem_finRange] at h7
    simpa using h7
  subst hd
  rfl
theorem map_getElem (l : List DepT) : (List.finRange l.length).map (fun j => l[j]) = l := by
  refine List.ext_getElem (by simp) fun i h1 h2 => ?_
  simp
theorem mkPkg_of (p : PkgT) : mkPkg p.name p.evr p.arch p.vendor ((List.finRange 7).map fun i => (List.finRange (p.n i)).map (p.deps i)) p.files = p := by
  refine pkg_ext rfl rfl rfl rfl rfl fun i => ?_
  show (List.finRange (((List.finRange 7).map fun i => (List.finRange (p.n i)).map (p.deps i)).getD i.val []).length).map (fun j => (((List.finRange 7).map fun i => (List.finRange (p.n i)).map (p.deps i)).getD i.val [])[j]) = _
  rw [map_getElem]
  rw [List.getD_eq_getElem?_getD, List.getElem?_map, List.getElem?_eq_getElem (by simp), List.getElem_finRange]
  rfl
theorem rdPkg_back {T : List ByteArray} (hT : T.length < 18446744073709551616) {p : PkgT} (hp : PkgFine p) (ht : ∀ s, .txt s ∈ tokPkg p → s ∈ T) (r : List UInt8) : rdPkg T (rends T (tokPkg p) ++ r) = some (p, r) := by
  unfold rdPkg tokPkg
  unfold tokPkg at ht
  have e3 : rends T ((List.finRange 7).flatMap fun i => tokDeps (p.n i) (p.deps i)) = ((List.finRange 7).map fun i => (List.finRange (p.n i)).map (p.deps i)).flatMap (fun l => rends T (.num l.length :: l.flatMap tokDep)) := by
    rw [rends_flat, List.flatMap_map]
    congr 1
    funext i
    unfold tokDeps
    rw [List.length_map, List.length_finRange, List.flatMap_map]
  have e4 := rdMany_back (rdDeps T 16) (fun l => rends T (.num l.length :: l.flatMap tokDep)) ((List.finRange 7).map fun i => (List.finRange (p.n i)).map (p.deps i)) (fun x hx r => by
    obtain ⟨i, _, rfl⟩ := List.mem_map.1 hx
    have h1 := rdDeps_back hT (hp.n i) (hp.deps i) (fun s hs => ht s (by
      refine List.mem_append_left _ (List.mem_append_right _ ?_)
      exact List.mem_flatMap.2 ⟨i, List.mem_finRange i, hs⟩)) r
    unfold tokDeps at h1
    rw [List.length_map, List.length_finRange, List.flatMap_map]
    exact h1)
  have e5 := rdMany_back (rdText T) (fun s => rend T (.txt s)) p.files (fun s hs r => rdText_back hT (ht s (by
    refine List.mem_append_right _ (List.mem_cons_of_mem _ ?_)
    exact List.mem_map.2 ⟨s, hs, rfl⟩)) r) r
  have e6 : rends T (p.files.map .txt) = p.files.flatMap (fun s => rend T (.txt s)) := by
    unfold rends
    rw [List.flatMap_map]
  rw [rends_append, rends_append, rends_cons, rends_cons, rends_cons, rends_cons]
  simp only [List.append_assoc]
  rw [rdText_back hT (ht p.name (by simp))]
  simp only
  rw [rdText_back hT (ht p.evr (by simp))]
  simp only
  rw [rdText_back hT (ht p.arch (by simp))]
  simp only
  rw [rdText_back hT (ht p.vendor (by simp))]
  simp only
  have e0 : rends T [] = [] := rfl
  rw [e0, List.nil_append, e3]
  have e4' := e4 (rends T (.num p.files.length :: p.files.map .txt) ++ r)
  rw [List.length_map, List.length_finRange] at e4'
  rw [e4']
  simp only
  rw [rends_cons, List.append_assoc]
  have e7 : rdSmall 16 (rend T (.num p.files.length) ++ (rends T (p.files.map .txt) ++ r)) = _ := rdSmall_back hp.files (by decide) _
  rw [e7]
  simp only
  rw [e6, e5]
  simp only
  rw [mkPkg_of]
end Go.Proofs.YtbdankpkdhhlmaaGreat
