/-
  Values in a block, and one by one. Plain words; no conditions beyond those typed.
  A dependency's text, and that it is read again. Plain words; no conditions beyond those typed.
  Packages as a text of tags, and that they are read again. Plain words; no conditions beyond those typed.
  How many names a dependency that is read has, and how long its text is. Plain words; no conditions beyond those typed.
-/
import Derived.Test.YtjcefgjgjhdbpaaGreatDoorSuseJoin
import Derived.Test.YtjcefgjgjhdbpaaGreatDoorDepMem
import Derived.Test.YtjcefgjgjhdbpaaGreatDoorDepChk
namespace Go.Proofs.YtjcefgjgjhdbpaaGreatDoor
set_option linter.unusedVariables false
set_option linter.unusedSimpArgs false

theorem layB_10 : layB 10 = false := by decide
/-- A tag of plain bytes. -/
def PlainT (t : Wd) : Prop := t ≠ [] ∧ ∀ c ∈ t, c ≠ 10 ∧ c ≠ 58 ∧ layB c = false
theorem tagScan_at : ∀ (t r : Wd), (∀ c ∈ t, c ≠ 10 ∧ c ≠ 58 ∧ layB c = false) → tagScan (t ++ 58 :: r) = some (t, r)
  | [], r, _ => rfl
  | c :: t, r, h => by
    obtain ⟨_, h1, h2⟩ := h c (by simp)
    rw [List.cons_append, tagScan, if_neg (by rw [h2]; decide), if_neg h1, tagScan_at t r (fun d hd => h d (List.mem_cons_of_mem _ hd))]
    rfl
theorem tagOf_at (c : UInt8) {t : Wd} (r : Wd) (h : PlainT t) : tagOf (c :: (t ++ 58 :: r)) = some (t, r) := by
  unfold tagOf
  rw [show (c :: (t ++ 58 :: r)).drop 1 = t ++ 58 :: r from rfl, tagScan_at t r h.2]
  simp only
  rw [if_neg h.1]
theorem dropW_idem (p : UInt8 → Bool) (l : Wd) : (l.dropWhile p).dropWhile p = l.dropWhile p := by
  induction l with
  | nil => rfl
  | cons c l ih =>
    rw [List.dropWhile_cons]
    split
    · exact ih
    · rename_i h
      rw [List.dropWhile_cons, if_neg h]
theorem dropW_nil {p : UInt8 → Bool} : ∀ {l : Wd}, l.dropWhile p = [] ↔ ∀ c ∈ l, p c = true
  | [] => by simp
  | c :: l => by
    rw [List.dropWhile_cons]
    by_cases h : p c = true
    · rw [if_pos h, dropW_nil]
      constructor
      · intro h1 d hd
        rcases List.mem_cons.1 hd with rfl | hd
        · exact h
        · exact h1 d hd
      · exact fun h1 d hd => h1 d (List.mem_cons_of_mem _ hd)
    · rw [if_neg h]
      exact ⟨fun h1 => (by cases h1), fun h1 => absurd (h1 c (by simp)) h⟩
/-- A text of which something is left has something to trim. -/
theorem trimT_nil {l : Wd} : trimT l = [] ↔ ∀ c ∈ l, layB c = true := by
  unfold trimT
  constructor
  · intro h c hc
    rw [dropW_nil] at h
    by_cases hb : layB c = true
    · exact hb
    · refine h c ?_
      rw [List.mem_reverse]
      have : ∀ l : Wd, c ∈ l → c ∈ l.dropWhile layB := by
        intro l
        induction l with
        | nil => intro h; cases h
        | cons d l ih =>
          intro h
          rw [List.dropWhile_cons]
          split
          · rename_i hd
            rcases List.mem_cons.1 h with rfl | h
            · exact absurd hd hb
            · exact ih h
          · exact h
      exact this _ (List.mem_reverse.2 hc)
  · intro h
    have : l.reverse.dropWhile layB = [] := by
      rw [dropW_nil]
      intro c hc
      exact h c (List.mem_reverse.1 hc)
    rw [this]
    rfl
theorem trimT_mem {l : Wd} {c : UInt8} (h : c ∈ trimT l) : c ∈ l := by
  unfold trimT at h
  have h1 := (List.dropWhile_sublist layB).subset h
  rw [List.mem_reverse] at h1
  have h2 := (List.dropWhile_sublist layB).subset h1
  exact List.mem_reverse.1 h2
theorem trimT_head {l : Wd} {c : UInt8} {r : Wd} (h : trimT l = c :: r) : layB c = false := by
  unfold trimT at h
  generalize (l.reverse.dropWhile layB).reverse = m at h
  induction m with
  | nil => cases h
  | cons d m ih =>
    rw [List.dropWhile_cons] at h
    split at h
    · exact ih h
    · rename_i h1
      injection h with h2 _
      rw [← h2]
      simpa using h1
/-- A value that may stand in a block. -/
def PlainV (v : Wd) : Prop := (∀ c ∈ v, c ≠ 10) ∧ v.head? ≠ some 45 ∧ trimT v ≠ []
/-- The lines, one by one; in a block. -/
def lineV (t v : Wd) : Wd := 61 :: (t ++ 58 :: (32 :: v))
def openV (t : Wd) : Wd := 43 :: (t ++ 58 :: [])
def closeV (t : Wd) : Wd := 45 :: (t ++ 58 :: [])
theorem step_one {t v : Wd} (ht : PlainT t) (hp : t ≠ pkgW) (st : SSt) (hc : st.cur.isSome = true) : stepN (lineV t v) st = goR none (putS st t v) := by
  unfold stepN
  have h1 : ¬ (trimT (lineV t v) = [] ∨ (lineV t v).head? = some 35) := by
    rintro (h | h)
    · have := trimT_nil.1 h 61 (by simp [lineV])
      revert this
      decide
    · injection h with h
      revert h
      decide
  rw [if_neg h1]
  unfold lineV
  rw [tagOf_at 61 _ ht]
  simp only
  rw [if_pos (by rfl)]
  unfold oneS
  rw [if_neg hp]
  cases e : st.cur with
  | none => rw [e] at hc; cases hc
  | some p => rfl
theorem step_blk {t v : Wd} (hv : PlainV v) (st : SSt) : stepB t v st = goR (some t) (putS st t v) := by
  unfold stepB
  have h1 : closesB v t = false := by
    unfold closesB
    split
    · rename_i h _
      exact absurd h hv.2.1
    · rfl
  rw [if_neg (by rw [h1]; decide), if_neg hv.2.2]
theorem step_open {t : Wd} (ht : PlainT t) (st : SSt) (hc : st.cur.isSome = true) : stepN (openV t) st = .go (some t) st := by
  unfold stepN
  have h1 : ¬ (trimT (openV t) = [] ∨ (openV t).head? = some 35) := by
    rintro (h | h)
    · have := trimT_nil.1 h 43 (by simp [openV])
      revert this
      decide
    · injection h with h
      revert h
      decide
  rw [if_neg h1]
  unfold openV
  rw [tagOf_at 43 _ ht]
  simp only
  rw [if_neg (by simp), if_pos ⟨by rfl, by rfl, hc⟩]
theorem step_close {t : Wd} (ht : PlainT t) (st : SSt) : stepB t (closeV t) st = .go none st := by
  unfold stepB
  have h1 : closesB (closeV t) t = true := by
    unfold closesB closeV
    rw [tagOf_at 45 _ ht]
    show (t == t && trimT [] == []) = true
    simp [trimT]
  rw [if_pos h1]
theorem put_some {st st' : SSt} {t v : Wd} (h : putS st t v = .ok st') (hc : st.cur.isSome = true) : st'.cur.isSome = true := by
  obtain ⟨_, _, h3⟩ := put_ok h
  cases e : st.cur with
  | none => rw [e] at hc; cases hc
  | some p =>
    obtain ⟨q, _, h4⟩ := h3 p e
    rw [h4]
    rfl
theorem run_block {t : Wd} (ht : PlainT t) (hp : t ≠ pkgW) : ∀ (vs : List Wd) (st : SSt), st.cur.isSome = true → (∀ v ∈ vs, PlainV v) →
    runS none (vs.map (lineV t)) st = runS (some t) (vs ++ [closeV t]) st
  | [], st, hc, _ => by
    rw [List.map_nil, List.nil_append, runS_cons]
    show _ = match stepB t (closeV t) st with
      | .err e => ([], e)
      | .go m' st' => runS m' [] st'
    rw [step_close ht]
  | v :: vs, st, hc, hv => by
    rw [List.map_cons, List.cons_append, runS_cons, runS_cons]
    show (match stepN (lineV t v) st with
      | .err e => ([], e)
      | .go m' st' => runS m' _ st') = match stepB t v st with
      | .err e => ([], e)
      | .go m' st' => runS m' _ st'
    rw [step_one ht hp st hc, step_blk (hv v (by simp))]
    cases e : putS st t v with
    | err x => rfl
    | ok st' => exact run_block ht hp vs st' (put_some e hc) (fun u hu => hv u (List.mem_cons_of_mem _ hu))
/-- The head of both texts. -/
def headL : Wd := [61, 80, 107, 103, 58, 32, 97, 32, 49, 32, 49, 32, 110, 111, 97, 114, 99, 104]
def oneText (t : Wd) (vs : List Wd) : Wd := headL ++ 10 :: vs.flatMap fun v => lineV t v ++ [10]
def twoText (t : Wd) (vs : List Wd) : Wd := headL ++ 10 :: (openV t ++ 10 :: ((vs.flatMap fun v => v ++ [10]) ++ (closeV t ++ [10])))
theorem lines_flat (f : Wd → Wd) : ∀ (vs : List Wd) (r : Wd), (∀ v ∈ vs, ∀ c ∈ f v, c ≠ 10) → linesB ((vs.flatMap fun v => f v ++ [10]) ++ r) = vs.map f ++ linesB r
  | [], r, _ => rfl
  | v :: vs, r, h => by
    obtain ⟨h1, h2⟩ := line_at (f v) ((vs.flatMap fun v => f v ++ [10]) ++ r) (h v (by simp))
    rw [List.flatMap_cons, List.append_assoc, List.append_assoc, List.singleton_append, linesB_cons (by simp), h1, h2, lines_flat f vs r (fun u hu => h u (List.mem_cons_of_mem _ hu))]
    rfl
theorem lines_one {p r : Wd} (h : ∀ c ∈ p, c ≠ 10) : linesB (p ++ 10 :: r) = p :: linesB r := by
  obtain ⟨h1, h2⟩ := line_at p r h
  rw [linesB_cons (by simp), h1, h2]
theorem tag_no10 {t : Wd} (ht : PlainT t) (c : UInt8) (r : Wd) (hc : c ≠ 10) (hr : ∀ d ∈ r, d ≠ 10) : ∀ d ∈ c :: (t ++ 58 :: r), d ≠ 10 := by
  intro d hd
  rcases List.mem_cons.1 hd with rfl | hd
  · exact hc
  · rcases List.mem_append.1 hd with hd | hd
    · exact (ht.2 d hd).1
    · rcases List.mem_cons.1 hd with rfl | hd
      · decide
      · exact hr d hd
theorem head_step : stepN headL ⟨[], none⟩ = .go none ⟨[], some (newSP [97] [49] [49] [110, 111, 97, 114, 99, 104])⟩ := by rfl
theorem flat_len (f : Wd → Wd) (k : Nat) : ∀ vs : List Wd, (∀ v ∈ vs, (f v).length ≤ k) → (vs.flatMap f).length ≤ vs.length * k
  | [], _ => by simp
  | v :: vs, h => by
    rw [List.flatMap_cons, List.length_append, List.length_cons, Nat.succ_mul]
    have h1 := h v (by simp)
    have h2 := flat_len f k vs (fun u hu => h u (List.mem_cons_of_mem _ hu))
    omega
theorem size_mkB (w : Wd) : (mkB w).size = w.length := rfl
/-- The law. -/
theorem blocks_law {t : Wd} (ht : PlainT t) (h3 : t.length = 3) (hp : t ≠ pkgW) {vs : List Wd} (hn : vs.length ≤ 40) (hv : ∀ v ∈ vs, PlainV v ∧ v.length ≤ 500) :
    suseParse (mkB (oneText t vs)) = suseParse (mkB (twoText t vs)) := by
  have hhead : ∀ c ∈ headL, c ≠ 10 := by decide
  have hl1 : (oneText t vs).length ≤ 40000 := by
    unfold oneText
    have := flat_len (fun v => lineV t v ++ [10]) 507 vs (fun v h => by
      have := (hv v h).2
      simp only [lineV, List.length_append, List.length_cons, List.length_nil]
      omega)
    simp only [headL, List.length_append, List.length_cons, List.length_nil]
    omega
  have hl2 : (twoText t vs).length ≤ 40000 := by
    unfold twoText
    have := flat_len (fun v => v ++ [10]) 501 vs (fun v h => by
      have := (hv v h).2
      simp only [List.length_append, List.length_cons, List.length_nil]
      omega)
    simp only [headL, openV, closeV, List.length_append, List.length_cons, List.length_nil]
    omega
  unfold suseParse
  rw [size_mkB, size_mkB, if_neg (by omega), if_neg (by omega), bs_mkB, bs_mkB]
  have e1 : linesB (oneText t vs) = headL :: vs.map (lineV t) := by
    unfold oneText
    rw [lines_one hhead]
    have := lines_flat (lineV t) vs [] (fun v h c hc => tag_no10 ht 61 _ (by decide) (fun d hd => by
      rcases List.mem_cons.1 hd with rfl | hd
      · decide
      · exact (hv v h).1.1 d hd) c hc)
    rw [List.append_nil] at this
    rw [this, linesB_nil, List.append_nil]
  have e2 : linesB (twoText t vs) = headL :: openV t :: (vs ++ [closeV t]) := by
    unfold twoText
    have h := lines_flat (fun v => v) vs (closeV t ++ [10]) (fun v h c hc => (hv v h).1.1 c hc)
    rw [List.map_id'] at h
    have h2 := lines_one (p := closeV t) (r := []) (tag_no10 ht 45 [] (by decide) (by simp))
    rw [lines_one hhead, lines_one (p := openV t) (tag_no10 ht 43 [] (by decide) (by simp)), h, h2]
    rfl
  rw [e1, e2, runS_cons, runS_cons]
  have hs : stepS none headL ⟨[], none⟩ = .go none ⟨[], some (newSP [97] [49] [49] [110, 111, 97, 114, 99, 104])⟩ := head_step
  rw [hs]
  simp only
  rw [runS_cons]
  have ho : stepS none (openV t) ⟨[], some (newSP [97] [49] [49] [110, 111, 97, 114, 99, 104])⟩ = .go (some t) ⟨[], some (newSP [97] [49] [49] [110, 111, 97, 114, 99, 104])⟩ := step_open ht _ rfl
  rw [ho]
  exact run_block ht hp vs _ rfl (fun v h => (hv v h).1)
end Go.Proofs.YtjcefgjgjhdbpaaGreatDoor
namespace Go.Proofs.YtjcefgjgjhdbpaaGreatDoor
set_option linter.unusedVariables false
set_option linter.unusedSimpArgs false

/-- The sign of a comparison; the word of a kind; the word ahead of an argument. -/
def signOf (op : Int) : Wd := bs (signsL.getD op.toNat ⟨#[]⟩)
def wordOf (k : Int) : Wd := bs (wordsL.getD k.toNat ⟨#[]⟩)
def wordAt (k : Int) (i : Nat) : Wd := if k = 4 ∧ i = 2 then elseW else wordOf k
def preP (k : Int) (i : Nat) : Wd := if 0 < i then 32 :: (wordAt k i ++ [32]) else []
def preT (k : Int) (i : Nat) : List Wd := if 0 < i then [wordAt k i] else []
/-- A dependency's text. -/
def printB : DepT → Wd
  | .mk k nm op ev n args => if k = 1 then (if 0 < op then bs nm ++ (32 :: (signOf op ++ (32 :: bs ev))) else bs nm)
    else 40 :: ((List.finRange n).flatMap (fun i => preP k i.val ++ printB (args i)) ++ [41])
/-- Its words. -/
def toksD : DepT → List Wd
  | .mk k nm op ev n args => if k = 1 then (if 0 < op then [bs nm, signOf op, bs ev] else [bs nm])
    else [40] :: ((List.finRange n).flatMap (fun i => preT k i.val ++ toksD (args i)) ++ [[41]])

/-! ### words -/
/-- What may stand behind a word. -/
def Behind (r : Wd) : Prop := r = [] ∨ r.head? = some 32 ∨ r.head? = some 41
theorem scan_behind {r : Wd} (h : Behind r) : scanW 0 r = 0 := by
  cases r with
  | nil => rfl
  | cons c l =>
    rcases h with h | h | h
    · cases h
    · injection h with h
      subst h
      rfl
    · injection h with h
      subst h
      rfl
theorem scan_plain : ∀ (w r : Wd), (∀ c ∈ w, c ≠ 32 ∧ c ≠ 40 ∧ c ≠ 41) → Behind r → scanW 0 (w ++ r) = w.length
  | [], r, _, hr => scan_behind hr
  | c :: w, r, h, hr => by
    obtain ⟨h1, h2, h3⟩ := h c (by simp)
    rw [List.cons_append, scanW_cons, if_neg h1, if_neg (fun e => h3 e.1), if_neg h2, if_neg h3, scan_plain w r (fun d hd => h d (List.mem_cons_of_mem _ hd)) hr, List.length_cons]
    omega
theorem scan_paren : ∀ (o : Nat) (w r : Wd), paren o w = true → Behind r → scanW o (w ++ r) = w.length
  | o, [], r, h, hr => by
    have ho : o = 0 := by simpa [paren] using h
    subst ho
    exact scan_behind hr
  | o, c :: w, r, h, hr => by
    unfold paren at h
    split at h
    · cases h
    · rename_i hc
      have h32 : c ≠ 32 := fun e => hc (by subst e; left; decide)
      rw [List.cons_append, scanW_cons, if_neg h32, List.length_cons]
      split at h
      · rename_i h40
        rw [if_neg (fun e => by rw [h40] at e; exact absurd e.1 (by decide)), if_pos h40, scan_paren (o + 1) w r h hr]
        omega
      · rename_i h40
        split at h
        · rename_i h41
          cases o with
          | zero => cases h
          | succ o =>
            rw [if_neg (fun e => absurd e.2 (by omega)), if_neg h40, if_pos h41, Nat.add_sub_cancel, scan_paren o w r h hr]
            omega
        · rename_i h41
          rw [if_neg (fun e => h41 e.1), if_neg h40, if_neg h41, scan_paren o w r h hr]
          omega
theorem words_one {c : UInt8} {w r : Wd} (h1 : c ≠ 32) (h2 : c ≠ 40) (h3 : c ≠ 41) (hs : scanW 0 (c :: w ++ r) = (c :: w).length) : wordsB (c :: w ++ r) = (c :: w) :: wordsB r := by
  have ht : trimB (c :: w ++ r) = c :: (w ++ r) := by
    rw [List.cons_append]
    show (if c = 32 then trimB (w ++ r) else c :: (w ++ r)) = _
    rw [if_neg h1]
  have hl : wordLen (c :: (w ++ r)) = (c :: w).length := by
    rw [wordLen_cons, if_neg (by rintro (e | e); exact h2 e; exact h3 e), ← List.cons_append]
    exact hs
  rw [wordsB_cons ht, hl, ← List.cons_append, List.take_left, List.drop_left]
theorem words_open (l : Wd) : wordsB (40 :: l) = [40] :: wordsB l := by
  rw [wordsB_cons (c := 40) (t := l) rfl]
  rfl
theorem words_close (l : Wd) : wordsB (41 :: l) = [41] :: wordsB l := by
  rw [wordsB_cons (c := 41) (t := l) rfl]
  rfl
theorem words_sp (l : Wd) : wordsB (32 :: l) = wordsB l := by
  have e : trimB (32 :: l) = trimB l := rfl
  cases h : trimB l with
  | nil => rw [wordsB_nil (e.trans h), wordsB_nil h]
  | cons c t => rw [wordsB_cons (e.trans h), wordsB_cons h]
/-- A word of plain bytes. -/
def PlainW (w : Wd) : Prop := w ≠ [] ∧ ∀ c ∈ w, c ≠ 32 ∧ c ≠ 40 ∧ c ≠ 41
theorem words_plain {w r : Wd} (h : PlainW w) (hr : Behind r) : wordsB (w ++ r) = w :: wordsB r := by
  cases w with
  | nil => exact absurd rfl h.1
  | cons c w =>
    obtain ⟨h1, h2, h3⟩ := h.2 c (by simp)
    exact words_one h1 h2 h3 (scan_plain _ r h.2 hr)
theorem name_parts {s : ByteArray} (h : nameB s = true) : s.size ≠ 0 ∧ s.size ≤ 60 ∧ (bs s).head? ≠ some 40 ∧ (bs s).head? ≠ some 41 ∧ s.toList ≠ [101, 108, 115, 101] ∧ Lib.containsS signsL s = false ∧ Lib.containsS wordsL s = false ∧ paren 0 (bs s) = true := by
  unfold nameB at h
  simp only [Bool.and_eq_true, decide_eq_true_eq, Bool.not_eq_true', beq_eq_false_iff_ne] at h
  obtain ⟨⟨⟨⟨⟨⟨⟨h1, h2⟩, h3⟩, h4⟩, h5⟩, h6⟩, h7⟩, h8⟩ := h
  exact ⟨h1, h2, h3, h4, h5, h6, h7, h8⟩
theorem words_name {s : ByteArray} (h : nameB s = true) {r : Wd} (hr : Behind r) : wordsB (bs s ++ r) = bs s :: wordsB r := by
  obtain ⟨h1, _, h3, h4, _, _, _, h8⟩ := name_parts h
  have hs := scan_paren 0 (bs s) r h8 hr
  cases e : bs s with
  | nil => exact absurd (by rw [← bs_length, e]; rfl) h1
  | cons c l =>
    rw [e] at h3 h4 h8 hs
    have h32 : c ≠ 32 := fun e => by
      unfold paren at h8
      rw [if_pos (by subst e; left; decide)] at h8
      cases h8
    exact words_one h32 (fun e => h3 (by rw [e]; rfl)) (fun e => h4 (by rw [e]; rfl)) hs
theorem may_plain {c : UInt8} (h : may c = true) : c ≠ 32 ∧ c ≠ 40 ∧ c ≠ 41 ∧ c ≠ 10 ∧ c ≠ 9 := by
  refine ⟨fun e => ?_, fun e => ?_, fun e => ?_, fun e => ?_, fun e => ?_⟩ <;> · subst e; revert h; decide
theorem evr_may {l : Wd} (h : (parse l).isSome = true) : l ≠ [] ∧ ∀ c ∈ l, may c = true := by
  unfold parse at h
  split at h
  · cases h
  · rename_i h1
    have h1 : okText l = true := by simpa using h1
    unfold okText at h1
    simp only [Bool.and_eq_true, Bool.not_eq_true', List.all_eq_true] at h1
    exact ⟨fun e => by rw [e] at h1; exact absurd h1.1.1 (by decide), h1.2⟩
theorem evr_plain {l : Wd} (h : (parse l).isSome = true) : PlainW l := by
  obtain ⟨h1, h2⟩ := evr_may h
  exact ⟨h1, fun c hc => ⟨(may_plain (h2 c hc)).1, (may_plain (h2 c hc)).2.1, (may_plain (h2 c hc)).2.2.1⟩⟩

/-! ### what a form is -/
theorem wform_name {nm : ByteArray} {op : Int} {ev : ByteArray} {n : Nat} {args : Fin n → DepT} (h : formB (.mk 1 nm op ev n args) = true) :
    nameB nm = true ∧ n = 0 ∧ ((op = 0 ∧ ev.size = 0) ∨ (1 ≤ op ∧ op ≤ 7 ∧ (parse (bs ev)).isSome = true)) := by
  unfold formB at h
  rw [if_pos rfl] at h
  simp only [Bool.and_eq_true, Bool.or_eq_true, decide_eq_true_eq] at h
  obtain ⟨⟨h1, h2⟩, h3⟩ := h
  refine ⟨h1, h2, ?_⟩
  rcases h3 with h3 | h3
  · exact .inl h3
  · exact .inr ⟨h3.1.1, h3.1.2, h3.2⟩
theorem wform_node {k : Int} {nm : ByteArray} {op : Int} {ev : ByteArray} {n : Nat} {args : Fin n → DepT} (hk : k ≠ 1) (h : formB (.mk k nm op ev n args) = true) :
    2 ≤ k ∧ k ≤ 6 ∧ nm.size = 0 ∧ op = 0 ∧ ev.size = 0 ∧ 2 ≤ n ∧ (k = 4 → n ≤ 3) ∧ (k = 6 → n ≤ 2) ∧ ∀ i, formB (args i) = true := by
  unfold formB at h
  rw [if_neg hk] at h
  split at h
  · cases h
  · rename_i h1
    simp only [not_or, Nat.not_lt, Int.not_lt, not_and, ne_eq, Decidable.not_not] at h1
    obtain ⟨a1, a2, a3, a4, a5, a6, a7, a8⟩ := h1
    refine ⟨a1, a2, a3, a4, a5, a6, a7, a8, fun i => ?_⟩
    have h2 := List.all_eq_true.1 h i (List.mem_finRange i)
    rw [Bool.and_eq_true] at h2
    exact h2.2
theorem kinds {k : Int} (h1 : 2 ≤ k) (h2 : k ≤ 6) : k = 2 ∨ k = 3 ∨ k = 4 ∨ k = 5 ∨ k = 6 := by omega
theorem word_plain {k : Int} (h1 : 2 ≤ k) (h2 : k ≤ 6) (i : Nat) : PlainW (wordAt k i) ∧ opOf (wordAt k i) = 0 ∧ wordAt k i ≠ [41] ∧ kindOf (wordOf k) = k.toNat ∧ wordOf k ≠ elseW ∧ opOf (wordOf k) = 0 := by
  have key : ∀ w ∈ [andW, orW, ifW, withW, woW, elseW], PlainW w ∧ opOf w = 0 ∧ w ≠ [41] := by
    intro w hw
    simp only [List.mem_cons, List.not_mem_nil, or_false] at hw
    rcases hw with rfl | rfl | rfl | rfl | rfl | rfl <;> exact ⟨⟨by decide, by decide⟩, by decide, by decide⟩
  have hw : wordOf k ∈ [andW, orW, ifW, withW, woW] ∧ kindOf (wordOf k) = k.toNat ∧ wordOf k ≠ elseW := by
    rcases kinds h1 h2 with rfl | rfl | rfl | rfl | rfl <;> exact ⟨by decide, by decide, by decide⟩
  have hm : wordOf k ∈ [andW, orW, ifW, withW, woW, elseW] := List.mem_append_left [elseW] hw.1
  refine ⟨?_, ?_, ?_, hw.2.1, hw.2.2, (key _ hm).2.1⟩
  all_goals
    unfold wordAt
    split
  · exact (key elseW (by simp)).1
  · exact (key _ hm).1
  · exact (key elseW (by simp)).2.1
  · exact (key _ hm).2.1
  · exact (key elseW (by simp)).2.2
  · exact (key _ hm).2.2
theorem sign_plain {op : Int} (h1 : 1 ≤ op) (h2 : op ≤ 7) : PlainW (signOf op) ∧ opOf (signOf op) = op.toNat := by
  have : op = 1 ∨ op = 2 ∨ op = 3 ∨ op = 4 ∨ op = 5 ∨ op = 6 ∨ op = 7 := by omega
  rcases this with rfl | rfl | rfl | rfl | rfl | rfl | rfl <;> exact ⟨⟨by decide, by decide⟩, by decide⟩

/-! ### the words of a text -/
def bodyP (k : Int) : Nat → List DepT → Wd
  | _, [] => []
  | i, a :: us => preP k i ++ (printB a ++ bodyP k (i + 1) us)
def bodyT (k : Int) : Nat → List DepT → List Wd
  | _, [] => []
  | i, a :: us => preT k i ++ (toksD a ++ bodyT k (i + 1) us)
theorem flat_bodyP (k : Int) : ∀ (n i0 : Nat) (args : Fin n → DepT), (List.finRange n).flatMap (fun i => preP k (i0 + i.val) ++ printB (args i)) = bodyP k i0 ((List.finRange n).map args)
  | 0, _, _ => rfl
  | n + 1, i0, args => by
    rw [List.finRange_succ, List.flatMap_cons, List.map_cons, List.flatMap_map, List.map_map, bodyP]
    have ih := flat_bodyP k n (i0 + 1) (fun i => args i.succ)
    have e : (fun i : Fin n => preP k (i0 + 1 + i.val) ++ printB (args i.succ)) = fun i => preP k (i0 + (Fin.succ i).val) ++ printB (args i.succ) := by
      funext i
      rw [show i0 + 1 + i.val = i0 + (Fin.succ i).val by simp; omega]
    rw [e] at ih
    rw [ih, List.append_assoc]
    rfl
theorem flat_bodyT (k : Int) : ∀ (n i0 : Nat) (args : Fin n → DepT), (List.finRange n).flatMap (fun i => preT k (i0 + i.val) ++ toksD (args i)) = bodyT k i0 ((List.finRange n).map args)
  | 0, _, _ => rfl
  | n + 1, i0, args => by
    rw [List.finRange_succ, List.flatMap_cons, List.map_cons, List.flatMap_map, List.map_map, bodyT]
    have ih := flat_bodyT k n (i0 + 1) (fun i => args i.succ)
    have e : (fun i : Fin n => preT k (i0 + 1 + i.val) ++ toksD (args i.succ)) = fun i => preT k (i0 + (Fin.succ i).val) ++ toksD (args i.succ) := by
      funext i
      rw [show i0 + 1 + i.val = i0 + (Fin.succ i).val by simp; omega]
    rw [e] at ih
    rw [ih, List.append_assoc]
    rfl
theorem print_node {k : Int} (hk : k ≠ 1) (nm : ByteArray) (op : Int) (ev : ByteArray) {n : Nat} (args : Fin n → DepT) : printB (.mk k nm op ev n args) = 40 :: (bodyP k 0 ((List.finRange n).map args) ++ [41]) := by
  have h := flat_bodyP k n 0 args
  simp only [Nat.zero_add] at h
  rw [printB, if_neg hk, h]
theorem toks_node {k : Int} (hk : k ≠ 1) (nm : ByteArray) (op : Int) (ev : ByteArray) {n : Nat} (args : Fin n → DepT) : toksD (.mk k nm op ev n args) = [40] :: (bodyT k 0 ((List.finRange n).map args) ++ [[41]]) := by
  have h := flat_bodyT k n 0 args
  simp only [Nat.zero_add] at h
  rw [toksD, if_neg hk, h]
theorem behind_body {k : Int} {i : Nat} (hi : 0 < i) (us : List DepT) {r : Wd} (hr : Behind r) : Behind (bodyP k i us ++ r) := by
  cases us with
  | nil => exact hr
  | cons a us =>
    right; left
    rw [bodyP, preP, if_pos hi]
    rfl
theorem words_body {k : Int} (h1 : 2 ≤ k) (h2 : k ≤ 6) : ∀ (us : List DepT) (i : Nat) (r : Wd), (∀ a ∈ us, ∀ r, Behind r → wordsB (printB a ++ r) = toksD a ++ wordsB r) → Behind r → wordsB (bodyP k i us ++ r) = bodyT k i us ++ wordsB r
  | [], _, _, _, _ => rfl
  | a :: us, i, r, h, hr => by
    have hb := behind_body (k := k) (Nat.succ_pos i) us hr
    have ih := words_body h1 h2 us (i + 1) r (fun b hb => h b (List.mem_cons_of_mem _ hb)) hr
    have ha := h a (by simp) _ hb
    rw [bodyP, bodyT, preP, preT]
    by_cases hi : 0 < i
    · rw [if_pos hi, if_pos hi]
      have e : 32 :: (wordAt k i ++ [32]) ++ (printB a ++ bodyP k (i + 1) us) ++ r = 32 :: (wordAt k i ++ (32 :: (printB a ++ (bodyP k (i + 1) us ++ r)))) := by simp
      rw [e, words_sp, words_plain (word_plain h1 h2 i).1 (.inr (.inl rfl)), words_sp, ha, ih]
      simp
    · rw [if_neg hi, if_neg hi, List.nil_append, List.nil_append, List.append_assoc, ha, ih, List.append_assoc]
theorem words_print : ∀ (d : DepT), formB d = true → ∀ r, Behind r → wordsB (printB d ++ r) = toksD d ++ wordsB r
  | .mk k nm op ev n args, h, r, hr => by
    by_cases hk : k = 1
    · subst hk
      obtain ⟨h1, _, h3⟩ := wform_name h
      rw [printB, toksD, if_pos rfl, if_pos rfl]
      rcases h3 with ⟨h3, _⟩ | ⟨h3, h4, h5⟩
      · rw [if_neg (by omega), if_neg (by omega), words_name h1 hr]
        rfl
      · rw [if_pos (by omega), if_pos (by omega)]
        have e : bs nm ++ (32 :: (signOf op ++ (32 :: bs ev))) ++ r = bs nm ++ (32 :: (signOf op ++ (32 :: (bs ev ++ r)))) := by simp
        rw [e, words_name h1 (.inr (.inl rfl)), words_sp, words_plain (sign_plain h3 h4).1 (.inr (.inl rfl)), words_sp, words_plain (evr_plain h5) hr]
        rfl
    · obtain ⟨a1, a2, _, _, _, _, _, _, a9⟩ := wform_node hk h
      have ih : ∀ i r, Behind r → wordsB (printB (args i) ++ r) = toksD (args i) ++ wordsB r := fun i => words_print (args i) (a9 i)
      rw [print_node hk, toks_node hk]
      have e : 40 :: (bodyP k 0 ((List.finRange n).map args) ++ [41]) ++ r = 40 :: (bodyP k 0 ((List.finRange n).map args) ++ (41 :: r)) := by simp
      rw [e, words_open, words_body a1 a2 _ 0 _ (fun a ha => by
        obtain ⟨i, _, rfl⟩ := List.mem_map.1 ha
        exact ih i) (.inr (.inr rfl)), words_close]
      simp

/-! ### the words are read -/
theorem toks_len (d : DepT) : 1 ≤ (toksD d).length := by
  cases d with
  | mk k nm op ev n args =>
    rw [toksD]
    split
    · split <;> simp
    · simp
/-- Arguments, each behind the word. -/
def moreT (w : Wd) : List DepT → List Wd
  | [] => []
  | a :: us => w :: (toksD a ++ moreT w us)
theorem body_more {k : Int} (hk : k ≠ 4) : ∀ (us : List DepT) (i : Nat), bodyT k (i + 1) us = moreT (wordOf k) us
  | [], _ => rfl
  | a :: us, i => by
    rw [bodyT, moreT, preT, if_pos (Nat.succ_pos i), wordAt, if_neg (fun e => hk e.1), body_more hk us (i + 1)]
    rfl
theorem rd_more {f : List Wd → Option (DepT × List Wd)} {w : Wd} (hw : opOf w = 0) : ∀ (us : List DepT) (m : Nat) (acc : List DepT) (stop : List Wd),
    (∀ a ∈ us, ∀ r, opOf (hd r) = 0 → f (toksD a ++ r) = some (a, r)) → us.length < m → hd stop ≠ w → opOf (hd stop) = 0 → (acc.length ≠ 1 ∧ (w = ifW ∨ w = woW) → us = []) → (us.length ≤ 1 ∨ ¬ (w = ifW ∨ w = woW)) → 1 ≤ acc.length →
    rdMore f w m acc (moreT w us ++ stop) = some (acc ++ us, stop)
  | [], m, acc, stop, _, hm, hs, _, _, _, _ => by
    cases m with
    | zero => simp at hm
    | succ m =>
      rw [rdMore, moreT, List.nil_append, if_neg hs, List.append_nil]
  | a :: us, m, acc, stop, hf, hm, hs, ho, h1, h2, h3 => by
    cases m with
    | zero => simp at hm
    | succ m =>
      have e1 : hd (moreT w (a :: us) ++ stop) = w := rfl
      have e2 : (moreT w (a :: us) ++ stop).tail = toksD a ++ (moreT w us ++ stop) := by simp [moreT]
      have e3 : opOf (hd (moreT w us ++ stop)) = 0 := by
        cases us with
        | nil => exact ho
        | cons b us => exact hw
      rw [rdMore, if_pos e1, if_neg (fun e => by have := h1 e; cases this), e2, hf a (by simp) _ e3]
      simp only
      rw [rd_more hw us m (acc ++ [a]) stop (fun b hb => hf b (List.mem_cons_of_mem _ hb)) (by simp at hm; omega) hs ho (fun e => ?_) (by
        rcases h2 with h2 | h2
        · left
          simp at h2
          rw [h2]
          exact Nat.zero_le _
        · exact .inr h2) (by simp), List.append_assoc]
      · rfl
      · rcases h2 with h2 | h2
        · simp at h2
          exact h2
        · exact absurd e.2 h2
theorem node_of {k : Int} (h1 : 2 ≤ k) {n : Nat} (args : Fin n → DepT) (nm ev : ByteArray) (hn : nm.size = 0) (he : ev.size = 0) : nodeT (k.toNat) ((List.finRange n).map args) = .mk k nm 0 ev n args := by
  have e1 : nm = ⟨#[]⟩ := by
    have : bs nm = [] := List.length_eq_zero_iff.1 (by rw [bs_length]; exact hn)
    rw [← mkB_bs nm, this]
    rfl
  have e2 : ev = ⟨#[]⟩ := by
    have : bs ev = [] := List.length_eq_zero_iff.1 (by rw [bs_length]; exact he)
    rw [← mkB_bs ev, this]
    rfl
  subst e1 e2
  unfold nodeT
  have e3 : ((k.toNat : Nat) : Int) = k := by omega
  rw [e3]
  have key : ∀ (l : List DepT) (hl : l.length = n), (∀ i (h : i < n), l[i]'(by omega) = args ⟨i, h⟩) → DepT.mk k ⟨#[]⟩ 0 ⟨#[]⟩ l.length (fun i => l[i]) = DepT.mk k ⟨#[]⟩ 0 ⟨#[]⟩ n args := by
    intro l hl h
    subst hl
    congr 1
    funext i
    exact h i.val i.isLt
  exact key _ (by simp) (fun i h => by simp)
theorem rd_print : ∀ (d : DepT), formB d = true → ∀ (m : Nat) (r : List Wd), (toksD d).length < m → opOf (hd r) = 0 → rdOne m (toksD d ++ r) = some (d, r)
  | .mk k nm op ev n args, h, m, r, hm, hr => by
    cases m with
    | zero => simp at hm
    | succ m =>
      by_cases hk : k = 1
      · subst hk
        obtain ⟨h1, h2, h3⟩ := wform_name h
        subst h2
        have hne : ∀ x : List Wd, hd (bs nm :: x) ≠ [40] := fun x e => by
          have e : bs nm = [40] := e
          obtain ⟨_, _, h4, _⟩ := name_parts h1
          exact h4 (by rw [e]; rfl)
        have hargs : args = fun i => i.elim0 := funext fun i => i.elim0
        rcases h3 with ⟨h3, h4⟩ | ⟨h3, h4, h5⟩
        · have ht : toksD (.mk 1 nm op ev 0 args) = [bs nm] := by rw [toksD, if_pos rfl, if_neg (by omega)]
          have hev : ev = ⟨#[]⟩ := by
            have : bs ev = [] := List.length_eq_zero_iff.1 (by rw [bs_length]; exact h4)
            rw [← mkB_bs ev, this]
            rfl
          rw [ht, List.singleton_append, rdOne, if_pos (hne r), rdLeaf]
          have e1 : hd (bs nm :: r) = bs nm := rfl
          have e2 : (bs nm :: r).tail = r := rfl
          rw [e1, e2, mkB_bs, if_neg (by rw [h1]; decide), if_pos hr, hargs, h3, hev]
          rfl
        · have ht : toksD (.mk 1 nm op ev 0 args) = [bs nm, signOf op, bs ev] := by rw [toksD, if_pos rfl, if_pos (by omega)]
          have hs := (sign_plain h3 h4).2
          rw [ht]
          show rdOne (m + 1) (bs nm :: signOf op :: bs ev :: r) = _
          rw [rdOne, if_pos (hne _), rdLeaf]
          have e1 : hd (bs nm :: signOf op :: bs ev :: r) = bs nm := rfl
          have e2 : hd (bs nm :: signOf op :: bs ev :: r).tail = signOf op := rfl
          have e3 : hd (bs nm :: signOf op :: bs ev :: r).tail.tail = bs ev := rfl
          have e4 : (bs nm :: signOf op :: bs ev :: r).tail.tail.tail = r := rfl
          rw [e1, e2, e3, e4, mkB_bs, if_neg (by rw [h1]; decide), if_neg (by rw [hs]; omega), hs, hargs]
          unfold leafT
          rw [mkB_bs, mkB_bs, show ((op.toNat : Nat) : Int) = op by omega]
      · obtain ⟨a1, a2, a3, a4, a5, a6, a7, a8, a9⟩ := wform_node hk h
        subst a4
        have ih : ∀ i m r, (toksD (args i)).length < m → opOf (hd r) = 0 → rdOne m (toksD (args i) ++ r) = some (args i, r) := fun i => rd_print (args i) (a9 i)
        have hnode := node_of a1 args nm ev a3 a5
        rw [toks_node hk] at hm ⊢
        have hlen : ((List.finRange n).map args).length = n := by simp
        have hmem : ∀ a ∈ (List.finRange n).map args, ∀ m r, (toksD a).length < m → opOf (hd r) = 0 → rdOne m (toksD a ++ r) = some (a, r) := fun a ha => by
          obtain ⟨i, _, rfl⟩ := List.mem_map.1 ha
          exact ih i
        generalize (List.finRange n).map args = L at hm hlen hmem hnode ⊢
        cases L with
        | nil => simp at hlen; omega
        | cons a us =>
          have hwp := word_plain a1 a2 0
          have hz : preT k 0 = [] := if_neg (by omega)
          rw [bodyT, hz, List.nil_append] at hm ⊢
          simp only [Nat.zero_add] at hm ⊢
          simp only [List.length_cons, List.length_append, List.length_nil] at hm
          have hal : us.length + 1 = n := by simpa using hlen
          -- the body
          have hstop : opOf (hd ([41] :: r : List Wd)) = 0 := (show opOf [41] = 0 by decide)
          have hbl : ∀ (i : Nat) (l : List DepT), l.length ≤ (bodyT k i l).length := fun i l => by
            induction l generalizing i with
            | nil => exact Nat.zero_le _
            | cons b l ihl =>
              have h5 := toks_len b
              have h6 := ihl (i + 1)
              rw [bodyT, List.length_append, List.length_append, List.length_cons]
              omega
          have hin : ∀ b ∈ a :: us, (toksD b).length < m := fun b hb => by
            have hsub : ∀ (i : Nat) (l : List DepT), b ∈ l → (toksD b).length ≤ (bodyT k i l).length := fun i l => by
              induction l generalizing i with
              | nil => intro h; cases h
              | cons c l ihl =>
                intro h
                rw [bodyT, List.length_append, List.length_append]
                rcases List.mem_cons.1 h with rfl | h
                · omega
                · have := ihl (i + 1) h
                  omega
            rcases List.mem_cons.1 hb with rfl | hb
            · omega
            · have := hsub 1 us hb
              omega
          have hcons : [40] :: (toksD a ++ bodyT k 1 us ++ [[41]]) ++ r = [40] :: (toksD a ++ (bodyT k 1 us ++ ([41] :: r))) := by simp
          rw [hcons, rdOne, if_neg (by intro e; exact e rfl)]
          have e0 : ([40] :: (toksD a ++ (bodyT k 1 us ++ ([41] :: r))) : List Wd).tail = toksD a ++ (bodyT k 1 us ++ ([41] :: r)) := rfl
          cases us with
          | nil => simp at hal; omega
          | cons b bs' =>
            have hhd : hd (bodyT k 1 (b :: bs') ++ ([41] :: r)) = wordOf k := by
              rw [bodyT, preT, if_pos (by omega), wordAt, if_neg (by omega)]
              rfl
            rw [e0, hmem a (by simp) m _ (hin a (by simp)) (by rw [hhd]; exact hwp.2.2.2.2.2)]
            simp only
            rw [hhd, hwp.2.2.2.1, if_neg (by omega)]
            have hf : ∀ l : List DepT, (∀ c ∈ l, c ∈ a :: b :: bs') → ∀ c ∈ l, ∀ r, opOf (hd r) = 0 → rdOne m (toksD c ++ r) = some (c, r) := fun l hl c hc r hr => hmem c (hl c hc) m r (hin c (hl c hc)) hr
            have h41 : ([41] : Wd) ≠ wordOf k := fun e => (word_plain a1 a2 1).2.2.1 (by rw [wordAt, if_neg (by omega)]; exact e.symm)
            have hend : ∀ l : List DepT, rdEnd (wordOf k) l ([41] :: r) = some (nodeT k.toNat l, r) := fun l => by
              unfold rdEnd
              rw [if_pos (show hd ([41] :: r) = [41] from rfl), hwp.2.2.2.1]
              rfl
            by_cases h4 : k = 4
            · subst h4
              have hw : wordOf 4 = ifW := rfl
              have h7 := a7 rfl
              cases bs' with
              | nil =>
                have e5 : bodyT 4 1 [b] ++ ([41] :: r) = moreT (wordOf 4) [b] ++ ([41] :: r) := by
                  simp [bodyT, moreT, preT, wordAt]
                rw [e5, rd_more hwp.2.2.2.2.2 [b] (m + 1) [a] ([41] :: r) (hf [b] (by simp)) (by simp; omega) h41 hstop (fun e => absurd rfl e.1) (.inl (by simp)) (by simp)]
                simp only
                rw [rdElse, if_neg (fun e => absurd (show ([41] : Wd) = elseW from e.2) (by decide)), hend]
                rw [← hnode]
                rfl
              | cons c cs =>
                have hcs : cs = [] := by
                  simp at hal
                  exact List.length_eq_zero_iff.1 (by omega)
                subst hcs
                have e5 : bodyT 4 1 [b, c] ++ ([41] :: r) = moreT (wordOf 4) [b] ++ (elseW :: (toksD c ++ ([41] :: r))) := by
                  simp [bodyT, moreT, preT, wordAt]
                rw [e5, rd_more hwp.2.2.2.2.2 [b] (m + 1) [a] (elseW :: (toksD c ++ ([41] :: r))) (hf [b] (by simp)) (by simp; omega) (by rw [hw]; exact (show elseW ≠ ifW by decide)) (show opOf elseW = 0 by decide) (fun e => absurd rfl e.1) (.inl (by simp)) (by simp)]
                simp only
                rw [rdElse, if_pos ⟨hw, rfl⟩]
                have e6 : (elseW :: (toksD c ++ ([41] :: r))).tail = toksD c ++ ([41] :: r) := rfl
                rw [e6, hf [c] (by simp) c (by simp) _ hstop]
                simp only
                rw [hend, ← hnode]
                rfl
            · have e5 : bodyT k 1 (b :: bs') ++ ([41] :: r) = moreT (wordOf k) (b :: bs') ++ ([41] :: r) := by rw [body_more h4 _ 0]
              have hlim : (b :: bs').length ≤ 1 ∨ ¬ (wordOf k = ifW ∨ wordOf k = woW) := by
                by_cases h6 : k = 6
                · left
                  have := a8 h6
                  simp at hal ⊢
                  exact List.length_eq_zero_iff.1 (by omega)
                · right
                  rcases kinds a1 a2 with rfl | rfl | rfl | rfl | rfl <;> first | exact absurd rfl h4 | exact absurd rfl h6 | decide
              have hbl2 := hbl 1 (b :: bs')
              rw [e5, rd_more hwp.2.2.2.2.2 (b :: bs') (m + 1) [a] ([41] :: r) (hf (b :: bs') (by intro c hc; exact List.mem_cons_of_mem _ hc)) (by omega) h41 hstop (fun e => absurd rfl e.1) hlim (by simp)]
              simp only
              rw [rdElse, if_neg (fun e => absurd (show ([41] : Wd) = elseW from e.2) (by decide)), hend, ← hnode]
              rfl
/-- A dependency's text is read as that dependency. -/
theorem parse_print {d : DepT} (h : depCheck d = 0) : depParse (mkB (printB d)) = (d, 0) := by
  have hf : formB d = true := by
    unfold depCheck at h
    split at h
    · cases h
    · rename_i h1
      simpa using h1
  have hw : wordsB (printB d) = toksD d := by
    have := words_print d hf [] (.inl rfl)
    rw [List.append_nil] at this
    rw [this, wordsB_nil rfl, List.append_nil]
  have hr : rdOne ((toksD d).length + 1) (toksD d) = some (d, []) := by
    have := rd_print d hf ((toksD d).length + 1) [] (by omega) rfl
    rw [List.append_nil] at this
    exact this
  unfold depParse
  rw [bs_mkB, hw, hr]
  simp only
  rw [if_neg (by simp), if_neg (by rw [h]; simp)]
end Go.Proofs.YtjcefgjgjhdbpaaGreatDoor
namespace Go.Proofs.YtjcefgjgjhdbpaaGreatDoor
set_option linter.unusedVariables false
set_option linter.unusedSimpArgs false

/-- A version's two parts. -/
def verRel (ev : Wd) : Wd × Wd := match li 45 ev with
  | none => (ev, [45])
  | some j => (ev.take j, ev.drop (j + 1))
def valP (p : PkgT) : Wd := bs p.name ++ 32 :: ((verRel (bs p.evr)).1 ++ 32 :: ((verRel (bs p.evr)).2 ++ 32 :: bs p.arch))
def tagI (i : Fin 7) : Wd := tagsW.getD i.val []
def depsL (p : PkgT) (i : Fin 7) : List DepT := (List.finRange (p.n i)).map (p.deps i)
/-- A package's lines. -/
def linesP (p : PkgT) : List Wd :=
  lineV pkgW (valP p) :: ((if p.vendor.size = 0 then [] else [lineV vndW (bs p.vendor)]) ++ ((List.finRange 7).flatMap (fun i => (depsL p i).map fun d => lineV (tagI i) (printB d)) ++ p.files.map fun f => lineV flsW (bs f)))
def writeB (ps : List PkgT) : Wd := (ps.flatMap linesP).flatMap fun v => v ++ [10]

/-! ### bytes -/
theorem paren_bytes : ∀ (o : Nat) (l : Wd), paren o l = true → ∀ c ∈ l, 33 ≤ c.toNat ∧ c.toNat ≤ 126
  | _, [], _, c, hc => by cases hc
  | o, d :: l, h, c, hc => by
    unfold paren at h
    split at h
    · cases h
    · rename_i hd
      have hd2 : 33 ≤ d.toNat ∧ d.toNat ≤ 126 := by omega
      rcases List.mem_cons.1 hc with rfl | hc
      · exact hd2
      · split at h
        · exact paren_bytes _ l h c hc
        · split at h
          · cases o with
            | zero => cases h
            | succ o => exact paren_bytes _ l h c hc
          · exact paren_bytes _ l h c hc
theorem byte_ne {c : UInt8} (h : 33 ≤ c.toNat ∧ c.toNat ≤ 126) : c ≠ 10 ∧ c ≠ 32 ∧ layB c = false := by
  refine ⟨fun e => by subst e; exact absurd h.1 (by decide), fun e => by subst e; exact absurd h.1 (by decide), ?_⟩
  unfold layB
  have h1 : c ≠ 32 := fun e => by subst e; exact absurd h.1 (by decide)
  have h2 : c ≠ 9 := fun e => by subst e; exact absurd h.1 (by decide)
  simp [h1, h2]
theorem name_bytes {s : ByteArray} (h : nameB s = true) : bs s ≠ [] ∧ ∀ c ∈ bs s, c ≠ 10 ∧ c ≠ 32 ∧ layB c = false := by
  obtain ⟨h1, _, _, _, _, _, _, h8⟩ := name_parts h
  exact ⟨fun e => h1 (by rw [← bs_length, e]; rfl), fun c hc => byte_ne (paren_bytes 0 _ h8 c hc)⟩
theorem evr_bytes {l : Wd} (h : (parse l).isSome = true) : ∀ c ∈ l, c ≠ 10 ∧ c ≠ 32 := fun c hc => by
  have := may_plain ((evr_may h).2 c hc)
  exact ⟨this.2.2.2.1, this.1⟩
theorem arch_bytes {s : ByteArray} (h : archB s = true) : bs s ≠ [] ∧ ∀ c ∈ bs s, c ≠ 10 ∧ c ≠ 32 := by
  unfold archB at h
  simp only [Bool.and_eq_true, decide_eq_true_eq] at h
  obtain ⟨h1, h2, _⟩ := h
  refine ⟨fun e => ?_, fun c hc => ?_⟩
  · have : s.size = 0 := by rw [← bs_length, e]; rfl
    omega
  · unfold allBy at h1
    have := List.all_eq_true.1 h1 c hc
    refine ⟨fun e => ?_, fun e => ?_⟩ <;> · subst e; revert this; decide
theorem vend_bytes {s : ByteArray} (h : vendB s = true) : ∀ c ∈ bs s, c ≠ 10 := fun c hc => by
  unfold vendB at h
  simp only [Bool.and_eq_true] at h
  have h1 := h.1
  unfold allBy at h1
  have := List.all_eq_true.1 h1 c hc
  intro e
  subst e
  revert this
  decide
theorem print_bytes : ∀ (d : DepT), formB d = true → ∀ c ∈ printB d, c ≠ 10
  | .mk k nm op ev n args, h, c, hc => by
    by_cases hk : k = 1
    · subst hk
      obtain ⟨h1, _, h3⟩ := wform_name h
      rw [printB, if_pos rfl] at hc
      rcases h3 with ⟨h3, _⟩ | ⟨h3, h4, h5⟩
      · rw [if_neg (by omega)] at hc
        exact ((name_bytes h1).2 c hc).1
      · rw [if_pos (by omega)] at hc
        rcases List.mem_append.1 hc with hc | hc
        · exact ((name_bytes h1).2 c hc).1
        · rcases List.mem_cons.1 hc with rfl | hc
          · decide
          · rcases List.mem_append.1 hc with hc | hc
            · have : op = 1 ∨ op = 2 ∨ op = 3 ∨ op = 4 ∨ op = 5 ∨ op = 6 ∨ op = 7 := by omega
              have hall : ∀ c ∈ signOf op, c ≠ 10 := by
                rcases this with rfl | rfl | rfl | rfl | rfl | rfl | rfl <;> decide
              exact hall c hc
            · rcases List.mem_cons.1 hc with rfl | hc
              · decide
              · exact (evr_bytes h5 c hc).1
    · obtain ⟨a1, a2, _, _, _, _, _, _, a9⟩ := wform_node hk h
      have ih : ∀ i, ∀ c ∈ printB (args i), c ≠ 10 := fun i => print_bytes (args i) (a9 i)
      rw [print_node hk] at hc
      have hbody : ∀ (us : List DepT) (i : Nat), (∀ a ∈ us, ∀ c ∈ printB a, c ≠ 10) → ∀ c ∈ bodyP k i us, c ≠ 10 := by
        intro us
        induction us with
        | nil => intro i _ c hc; cases hc
        | cons a us ihu =>
          intro i hu c hc
          rw [bodyP] at hc
          rcases List.mem_append.1 hc with hc | hc
          · rw [preP] at hc
            split at hc
            · rcases List.mem_cons.1 hc with rfl | hc
              · decide
              · rcases List.mem_append.1 hc with hc | hc
                · have hw : ∀ w ∈ [andW, orW, ifW, withW, woW, elseW], ∀ c ∈ w, c ≠ 10 := by decide
                  refine hw (wordAt k i) ?_ c hc
                  unfold wordAt
                  split
                  · simp
                  · rcases kinds a1 a2 with rfl | rfl | rfl | rfl | rfl <;> decide
                · rw [List.mem_singleton] at hc
                  subst hc
                  decide
            · cases hc
          · rcases List.mem_append.1 hc with hc | hc
            · exact hu a (by simp) c hc
            · exact ihu (i + 1) (fun b hb => hu b (List.mem_cons_of_mem _ hb)) c hc
      rcases List.mem_cons.1 hc with rfl | hc
      · decide
      · rcases List.mem_append.1 hc with hc | hc
        · exact hbody _ 0 (fun a ha => by
            obtain ⟨i, _, rfl⟩ := List.mem_map.1 ha
            exact ih i) c hc
        · rw [List.mem_singleton] at hc
          subst hc
          decide
/-- What a package that may be is. -/
theorem check_parts {p : PkgT} (h : pkgCheck p = 0) : nameB p.name = true ∧ (parse (bs p.evr)).isSome = true ∧ archB p.arch = true ∧ vendB p.vendor = true ∧ (∀ i, ∀ d ∈ depsL p i, depCheck d = 0) ∧ ∀ f ∈ p.files, nameB f = true := by
  unfold pkgCheck chk6 at h
  split at h
  · cases h
  · rename_i h1
    split at h
    · cases h
    · rename_i h2
      split at h
      · cases h
      · rename_i h3
        split at h
        · cases h
        · rename_i h4
          split at h
          · cases h
          · rename_i h5
            split at h
            · cases h
            · rename_i h6
              refine ⟨by simpa using h1, ?_, by simpa using h3, by simpa using h4, fun i d hd => ?_, fun f hf => ?_⟩
              · cases e : parse (bs p.evr) with
                | none => rw [e] at h2; exact absurd (by decide) h2
                | some x => rfl
              · have h5 : depsB p = true := by simpa using h5
                unfold depsB at h5
                have h7 := List.all_eq_true.1 h5 i (List.mem_finRange i)
                rw [Bool.and_eq_true] at h7
                obtain ⟨j, _, rfl⟩ := List.mem_map.1 hd
                have h8 := List.all_eq_true.1 h7.2 j (List.mem_finRange j)
                unfold depOk at h8
                simp only [Bool.and_eq_true, decide_eq_true_eq] at h8
                exact h8.1.2
              · have h6 : filesB p.files = true := by simpa using h6
                unfold filesB at h6
                rw [Bool.and_eq_true] at h6
                have h7 := List.all_eq_true.1 h6.2 f hf
                unfold fileOk at h7
                rw [Bool.and_eq_true] at h7
                exact h7.1
theorem dep_form {d : DepT} (h : depCheck d = 0) : formB d = true := by
  unfold depCheck at h
  split at h
  · cases h
  · rename_i h1
    simpa using h1

/-! ### a version's parts -/
theorem ev_parts {l : Wd} (h : (parse l).isSome = true) {j : Nat} (hj : li 45 l = some j) : l.take j ≠ [] ∧ l.drop (j + 1) ≠ [] := by
  unfold parse at h
  split at h
  · cases h
  · cases hf : fi 58 l with
    | none =>
      rw [hf] at h
      simp only [parse2, hj] at h
      split at h
      · cases h
      · rename_i h1
        split at h
        · cases h
        · rename_i h2
          exact ⟨fun e => h2 (.inl e), h1⟩
    | some i =>
      rw [hf] at h
      simp only at h
      split at h
      · cases h
      · rename_i h1
        have h1 : okEpoch (l.take i) = true := by simpa using h1
        obtain ⟨hi, hi2, _⟩ := fi_some.1 hf
        obtain ⟨hjl, hj2, hj3⟩ := li_some.1 hj
        have hij : i < j := by
          rcases Nat.lt_trichotomy j i with hlt | heq | hgt
          · unfold okEpoch at h1
            simp only [Bool.and_eq_true, List.all_eq_true] at h1
            have h5 := h1.2 l[j] (by
              rw [List.mem_iff_getElem]
              exact ⟨j, by rw [List.length_take]; omega, by rw [List.getElem_take]⟩)
            rw [hj2] at h5
            exact absurd h5 (by decide)
          · subst heq
            rw [hj2] at hi2
            exact absurd hi2 (by decide)
          · exact hgt
        have hr : li 45 (l.drop (i + 1)) = some (j - (i + 1)) := by
          refine li_some.2 ⟨by rw [List.length_drop]; omega, ?_, fun k hk hkj => ?_⟩
          · rw [List.getElem_drop]
            have : i + 1 + (j - (i + 1)) = j := by omega
            simp only [this]
            exact hj2
          · rw [List.getElem_drop]
            rw [List.length_drop] at hk
            exact hj3 (i + 1 + k) (by omega) (by omega)
        simp only [parse2, hr] at h
        split at h
        · cases h
        · rename_i h2
          refine ⟨fun e => ?_, ?_⟩
          · have := congrArg List.length e
            rw [List.length_take, List.length_nil] at this
            omega
          · rw [List.drop_drop] at h2
            have : i + 1 + (j - (i + 1) + 1) = j + 1 := by omega
            rwa [this] at h2
theorem ver_ok {l : Wd} (h : (parse l).isSome = true) : (verRel l).1 ≠ [] ∧ (verRel l).2 ≠ [] ∧ (∀ c ∈ (verRel l).1, c ≠ 10 ∧ c ≠ 32) ∧ (∀ c ∈ (verRel l).2, c ≠ 10 ∧ c ≠ 32) ∧ (if (verRel l).2 = [45] then (verRel l).1 else (verRel l).1 ++ 45 :: (verRel l).2) = l := by
  have hb := evr_bytes h
  unfold verRel
  cases hj : li 45 l with
  | none =>
    refine ⟨(evr_may h).1, by simp, hb, fun c hc => ?_, by simp⟩
    rw [List.mem_singleton] at hc
    subst hc
    decide
  | some j =>
    obtain ⟨h1, h2⟩ := ev_parts h hj
    obtain ⟨hjl, hj2, hj3⟩ := li_some.1 hj
    refine ⟨h1, h2, fun c hc => hb c (List.mem_of_mem_take hc), fun c hc => hb c (List.mem_of_mem_drop hc), ?_⟩
    have hne : l.drop (j + 1) ≠ [45] := fun e => by
      have hl := congrArg List.length e
      rw [List.length_drop, List.length_singleton] at hl
      have h5 := hj3 (j + 1) (by omega) (by omega)
      have h6 : (l.drop (j + 1))[0]? = some 45 := by rw [e]; rfl
      rw [List.getElem?_drop, Nat.add_zero, List.getElem?_eq_getElem (by omega)] at h6
      exact h5 (Option.some.inj h6)
    simp only
    rw [if_neg hne, ← hj2, ← List.drop_eq_getElem_cons hjl, List.take_append_drop]

/-! ### the head -/
theorem split_at : ∀ (a l : Wd), (∀ c ∈ a, c ≠ 32) → splitC 32 (a ++ 32 :: l) = a :: splitC 32 l
  | [], l, _ => by
    rw [List.nil_append, splitC, if_pos rfl]
  | c :: a, l, h => by
    rw [List.cons_append, splitC, if_neg (h c (by simp)), split_at a l (fun d hd => h d (List.mem_cons_of_mem _ hd))]
theorem split_end : ∀ (a : Wd), (∀ c ∈ a, c ≠ 32) → splitC 32 a = [a]
  | [], _ => rfl
  | c :: a, h => by
    rw [splitC, if_neg (h c (by simp)), split_end a (fun d hd => h d (List.mem_cons_of_mem _ hd))]
theorem fields_val {p : PkgT} (h : pkgCheck p = 0) : fieldsS (valP p) = [bs p.name, (verRel (bs p.evr)).1, (verRel (bs p.evr)).2, bs p.arch] := by
  obtain ⟨h1, h2, h3, _⟩ := check_parts h
  obtain ⟨n1, n2⟩ := name_bytes h1
  obtain ⟨v1, v2, v3, v4, _⟩ := ver_ok h2
  obtain ⟨a1, a2⟩ := arch_bytes h3
  unfold fieldsS valP
  rw [split_at _ _ (fun c hc => (n2 c hc).2.1), split_at _ _ (fun c hc => (v3 c hc).2), split_at _ _ (fun c hc => (v4 c hc).2), split_end _ (fun c hc => (a2 c hc).2)]
  have e : ∀ l : Wd, l ≠ [] → (!l.isEmpty) = true := fun l hl => by
    cases l with
    | nil => exact absurd rfl hl
    | cons _ _ => rfl
  simp only [List.filter_cons, e _ n1, e _ v1, e _ v2, e _ a1, if_true, List.filter_nil]
theorem plain_tags : PlainT pkgW ∧ PlainT vndW ∧ PlainT flsW ∧ ∀ i, PlainT (tagI i) := by
  refine ⟨⟨by decide, by decide⟩, ⟨by decide, by decide⟩, ⟨by decide, by decide⟩, fun i => ?_⟩
  match i with
  | 0 => exact ⟨by decide, by decide⟩
  | 1 => exact ⟨by decide, by decide⟩
  | 2 => exact ⟨by decide, by decide⟩
  | 3 => exact ⟨by decide, by decide⟩
  | 4 => exact ⟨by decide, by decide⟩
  | 5 => exact ⟨by decide, by decide⟩
  | 6 => exact ⟨by decide, by decide⟩
theorem tag_list (i : Fin 7) : listOf (tagI i) = some i ∧ tagI i ≠ vndW ∧ tagI i ≠ flsW ∧ tagI i ≠ pkgW := by
  match i with
  | 0 => exact ⟨rfl, by decide, by decide, by decide⟩
  | 1 => exact ⟨rfl, by decide, by decide, by decide⟩
  | 2 => exact ⟨rfl, by decide, by decide, by decide⟩
  | 3 => exact ⟨rfl, by decide, by decide, by decide⟩
  | 4 => exact ⟨rfl, by decide, by decide, by decide⟩
  | 5 => exact ⟨rfl, by decide, by decide, by decide⟩
  | 6 => exact ⟨rfl, by decide, by decide, by decide⟩
theorem step_head {v : Wd} (st : SSt) : stepN (lineV pkgW v) st = goR none (packS st v) := by
  unfold stepN
  have h1 : ¬ (trimT (lineV pkgW v) = [] ∨ (lineV pkgW v).head? = some 35) := by
    rintro (h | h)
    · have := trimT_nil.1 h 61 (by simp [lineV])
      revert this
      decide
    · injection h with h
      revert h
      decide
  rw [if_neg h1]
  unfold lineV
  rw [tagOf_at 61 _ plain_tags.1]
  simp only
  rw [if_pos (by rfl)]
  unfold oneS
  rw [if_pos rfl]
  rfl
/-- A line of a tag, behind a head. -/
theorem run_line {t v : Wd} (ht : PlainT t) (hp : t ≠ pkgW) {sp q : SP} (hq : putP sp t v = some q) (l : List Wd) (out : List PkgT) : runS none (lineV t v :: l) ⟨out, some sp⟩ = runS none l ⟨out, some q⟩ := by
  have h : stepS none (lineV t v) ⟨out, some sp⟩ = .go none ⟨out, some q⟩ := by
    show stepN (lineV t v) ⟨out, some sp⟩ = _
    rw [step_one ht hp _ rfl]
    unfold putS
    simp only [hq]
    rfl
  rw [runS_cons, h]
def SP.adds (s : SP) (i : Fin 7) (ds : List DepT) : SP := { s with L := fun k => if k = i then s.L k ++ ds else s.L k }
theorem adds_nil (s : SP) (i : Fin 7) : s.adds i [] = s := by
  cases s
  unfold SP.adds
  simp
theorem adds_cons (s : SP) (i : Fin 7) (d : DepT) (ds : List DepT) : (s.add i d).adds i ds = s.adds i (d :: ds) := by
  unfold SP.adds SP.add
  simp only [SP.mk.injEq, true_and, and_true]
  funext k
  by_cases h : k = i
  · simp [h]
  · simp [h]
theorem run_deps (i : Fin 7) : ∀ (ds : List DepT), (∀ d ∈ ds, depCheck d = 0) → ∀ (l : List Wd) (out : List PkgT) (sp : SP), runS none ((ds.map fun d => lineV (tagI i) (printB d)) ++ l) ⟨out, some sp⟩ = runS none l ⟨out, some (sp.adds i ds)⟩
  | [], _, l, out, sp => by rw [adds_nil]; rfl
  | d :: ds, h, l, out, sp => by
    obtain ⟨t1, t2, t3, t4⟩ := tag_list i
    have hq : putP sp (tagI i) (printB d) = some (sp.add i d) := by
      unfold putP
      rw [if_neg t2, if_neg t3, t1]
      simp only
      rw [parse_print (h d (by simp)), if_neg (by simp)]
    rw [List.map_cons, List.cons_append, run_line (plain_tags.2.2.2 i) t4 hq, run_deps i ds (fun e he => h e (List.mem_cons_of_mem _ he)), adds_cons]
theorem run_lists (D : Fin 7 → List DepT) (h : ∀ i, ∀ d ∈ D i, depCheck d = 0) : ∀ (is : List (Fin 7)) (l : List Wd) (out : List PkgT) (sp : SP), runS none ((is.flatMap fun i => (D i).map fun d => lineV (tagI i) (printB d)) ++ l) ⟨out, some sp⟩ = runS none l ⟨out, some (is.foldl (fun s i => s.adds i (D i)) sp)⟩
  | [], l, out, sp => rfl
  | i :: is, l, out, sp => by
    rw [List.flatMap_cons, List.append_assoc, run_deps i _ (h i), run_lists D h is]
    rfl
theorem trim_plain {l : Wd} (h : ∀ c ∈ l, layB c = false) : trimT l = l := by
  have key : ∀ l : Wd, (∀ c ∈ l, layB c = false) → l.dropWhile layB = l := fun l h => by
    cases l with
    | nil => rfl
    | cons c l => rw [List.dropWhile_cons, if_neg (by rw [h c (by simp)]; decide)]
  unfold trimT
  rw [key l.reverse (fun c hc => h c (List.mem_reverse.1 hc)), List.reverse_reverse, key l h]
theorem run_files : ∀ (fs : List ByteArray), (∀ f ∈ fs, nameB f = true) → ∀ (l : List Wd) (out : List PkgT) (sp : SP), runS none ((fs.map fun f => lineV flsW (bs f)) ++ l) ⟨out, some sp⟩ = runS none l ⟨out, some { sp with files := sp.files ++ fs }⟩
  | [], _, l, out, sp => by
    rw [List.append_nil]
    rfl
  | f :: fs, h, l, out, sp => by
    have hq : putP sp flsW (bs f) = some { sp with files := sp.files ++ [f] } := by
      unfold putP
      rw [if_neg (by decide), if_pos rfl, trim_plain (fun c hc => ((name_bytes (h f (by simp))).2 c hc).2.2), mkB_bs]
    rw [List.map_cons, List.cons_append, run_line plain_tags.2.2.1 (by decide) hq, run_files fs (fun g hg => h g (List.mem_cons_of_mem _ hg))]
    simp
/-- The package that the reader has behind a package's lines. -/
def ofPkg (p : PkgT) : SP := ⟨p.name, p.evr, p.arch, p.vendor, depsL p, p.files⟩
theorem pkg_of_sp (p : PkgT) : (ofPkg p).pkg = p := by
  cases p with
  | mk name evr arch vendor n deps files =>
    have key : ∀ (L : Fin 7 → List DepT) (hL : ∀ i, (L i).length = n i) (hd : ∀ i j (h : j < n i), (L i)[j]'(by rw [hL]; exact h) = deps i ⟨j, h⟩),
        (PkgT.mk name evr arch vendor (fun i => (L i).length) (fun i j => (L i)[j]) files) = PkgT.mk name evr arch vendor n deps files := by
      intro L hL hd
      obtain rfl : n = fun i => (L i).length := funext fun i => (hL i).symm
      congr 1
      funext i j
      exact hd i j.val j.isLt
    exact key (fun i => (List.finRange (n i)).map (deps i)) (fun i => by simp) (fun i j h => by simp)
theorem run_pkg {p : PkgT} (h : pkgCheck p = 0) {st : SSt} {o : List PkgT} (hw : wholeS st = (o, 0)) (hn : o.length < 200) (l : List Wd) : runS none (linesP p ++ l) st = runS none l ⟨o, some (ofPkg p)⟩ := by
  obtain ⟨h1, h2, h3, h4, h5, h6⟩ := check_parts h
  obtain ⟨_, _, _, _, v5⟩ := ver_ok h2
  have hst : stepS none (lineV pkgW (valP p)) st = .go none ⟨o, some (newSP (bs p.name) (verRel (bs p.evr)).1 (verRel (bs p.evr)).2 (bs p.arch))⟩ := by
    show stepN _ st = _
    rw [step_head]
    unfold packS
    rw [hw, fields_val h]
    simp only
    rw [if_neg (by simp), if_neg (by omega)]
    rfl
  have hsp : newSP (bs p.name) (verRel (bs p.evr)).1 (verRel (bs p.evr)).2 (bs p.arch) = ⟨p.name, p.evr, p.arch, ⟨#[]⟩, fun _ => [], []⟩ := by
    unfold newSP
    rw [v5, mkB_bs, mkB_bs, mkB_bs]
  have hfold : ∀ s : SP, s.L = (fun _ => []) → (List.finRange 7).foldl (fun s i => s.adds i (depsL p i)) s = { s with L := depsL p } := by
    intro s hs
    have e : List.finRange 7 = [0, 1, 2, 3, 4, 5, 6] := by decide
    rw [e]
    simp only [List.foldl_cons, List.foldl_nil, SP.adds, SP.mk.injEq, true_and, and_true, hs]
    funext k
    match k with
    | 0 => simp
    | 1 => simp
    | 2 => simp
    | 3 => simp
    | 4 => simp
    | 5 => simp
    | 6 => simp
  unfold linesP
  rw [List.cons_append, runS_cons, hst]
  simp only
  rw [hsp]
  by_cases hv : p.vendor.size = 0
  · have hve : p.vendor = ⟨#[]⟩ := by
      have : bs p.vendor = [] := List.length_eq_zero_iff.1 (by rw [bs_length]; exact hv)
      rw [← mkB_bs p.vendor, this]
      rfl
    rw [if_pos hv, List.nil_append, List.append_assoc, run_lists (depsL p) h5, hfold _ rfl, run_files p.files h6]
    unfold ofPkg
    rw [hve]
    simp
  · have hq : putP ⟨p.name, p.evr, p.arch, ⟨#[]⟩, fun _ => [], []⟩ vndW (bs p.vendor) = some ⟨p.name, p.evr, p.arch, p.vendor, fun _ => [], []⟩ := by
      unfold putP
      rw [if_pos rfl, mkB_bs]
    rw [if_neg hv, List.append_assoc, List.singleton_append, run_line plain_tags.2.1 (by decide) hq, List.append_assoc, run_lists (depsL p) h5, hfold _ rfl, run_files p.files h6]
    unfold ofPkg
    simp
theorem run_pkgs : ∀ (ps : List PkgT), (∀ p ∈ ps, pkgCheck p = 0) → ∀ (st : SSt) (o : List PkgT), wholeS st = (o, 0) → o.length + ps.length ≤ 200 → runS none (ps.flatMap linesP) st = (o ++ ps, 0)
  | [], _, st, o, hw, _ => by
    show endS st = _
    unfold endS
    rw [hw, List.append_nil]
    simp
  | p :: ps, h, st, o, hw, hn => by
    rw [List.length_cons] at hn
    rw [List.flatMap_cons, run_pkg (h p (by simp)) hw (by omega)]
    have hw2 : wholeS ⟨o, some (ofPkg p)⟩ = (o ++ [p], 0) := by
      rw [whole_some rfl, pkg_of_sp, if_pos (h p (by simp))]
    rw [run_pkgs ps (fun q hq => h q (List.mem_cons_of_mem _ hq)) _ _ hw2 (by rw [List.length_append, List.length_singleton]; omega), List.append_assoc]
    rfl
theorem line_no10 {t v : Wd} (ht : PlainT t) (hv : ∀ c ∈ v, c ≠ 10) : ∀ c ∈ lineV t v, c ≠ 10 := tag_no10 ht 61 _ (by decide) (fun d hd => by
  rcases List.mem_cons.1 hd with rfl | hd
  · decide
  · exact hv d hd)
theorem lines_no10 {p : PkgT} (h : pkgCheck p = 0) : ∀ v ∈ linesP p, ∀ c ∈ v, c ≠ 10 := by
  obtain ⟨h1, h2, h3, h4, h5, h6⟩ := check_parts h
  obtain ⟨_, _, v3, v4, _⟩ := ver_ok h2
  intro v hv
  unfold linesP at hv
  rcases List.mem_cons.1 hv with rfl | hv
  · refine line_no10 plain_tags.1 (fun c hc => ?_)
    unfold valP at hc
    simp only [List.mem_append, List.mem_cons] at hc
    rcases hc with hc | rfl | hc | rfl | hc | rfl | hc
    · exact ((name_bytes h1).2 c hc).1
    · decide
    · exact (v3 c hc).1
    · decide
    · exact (v4 c hc).1
    · decide
    · exact ((arch_bytes h3).2 c hc).1
  · rcases List.mem_append.1 hv with hv | hv
    · split at hv
      · cases hv
      · rw [List.mem_singleton] at hv
        subst hv
        exact line_no10 plain_tags.2.1 (vend_bytes h4)
    · rcases List.mem_append.1 hv with hv | hv
      · obtain ⟨i, _, hv⟩ := List.mem_flatMap.1 hv
        obtain ⟨d, hd, rfl⟩ := List.mem_map.1 hv
        exact line_no10 (plain_tags.2.2.2 i) (print_bytes d (dep_form (h5 i d hd)))
      · obtain ⟨f, hf, rfl⟩ := List.mem_map.1 hv
        exact line_no10 plain_tags.2.2.1 (fun c hc => ((name_bytes (h6 f hf)).2 c hc).1)
/-- What is written is read again. -/
theorem parse_write {ps : List PkgT} (h : ∀ p ∈ ps, pkgCheck p = 0) (hn : ps.length ≤ 200) (hs : (writeB ps).length ≤ 40000) : suseParse (mkB (writeB ps)) = (ps, 0) := by
  unfold suseParse
  rw [size_mkB, if_neg (by omega), bs_mkB]
  have hl : linesB (writeB ps) = ps.flatMap linesP := by
    unfold writeB
    have h1 := lines_flat (fun v => v) (ps.flatMap linesP) [] (fun v hv c hc => by
      obtain ⟨p, hp, hv⟩ := List.mem_flatMap.1 hv
      exact lines_no10 (h p hp) v hv c hc)
    rw [List.append_nil, List.map_id', linesB_nil, List.append_nil] at h1
    exact h1
  rw [hl]
  have := run_pkgs ps h ⟨[], none⟩ [] rfl (by simpa using hn)
  rwa [List.nil_append] at this
end Go.Proofs.YtjcefgjgjhdbpaaGreatDoor
namespace Go.Proofs.YtjcefgjgjhdbpaaGreatDoor
set_option linter.unusedVariables false
set_option linter.unusedSimpArgs false

def npL : List DepT → Nat
  | [] => 0
  | d :: l => nparts d + npL l
theorem npL_append : ∀ a b : List DepT, npL (a ++ b) = npL a + npL b
  | [], b => by simp [npL]
  | d :: a, b => by
    rw [List.cons_append, npL, npL, npL_append a b]
    omega
theorem upto_take (l : List DepT) : ∀ n, n ≤ l.length → upto (fun j => if h : j < l.length then nparts l[j] else 0) n = npL (l.take n)
  | 0, _ => rfl
  | n + 1, h => by
    have hn : n < l.length := h
    have e : upto (fun j => if h : j < l.length then nparts l[j] else 0) (n + 1) = upto (fun j => if h : j < l.length then nparts l[j] else 0) n + (if h : n < l.length then nparts l[n] else 0) := rfl
    rw [e, upto_take l n (by omega), dif_pos hn, ← List.take_append_getElem hn, npL_append]
    simp [npL]
theorem upto_list (l : List DepT) : upto (fun j => if h : j < l.length then nparts l[j] else 0) l.length = npL l := by
  rw [upto_take l l.length (Nat.le_refl _), List.take_length]
theorem upto_of {n : Nat} (args : Fin n → DepT) (l : List DepT) (hl : l.length = n) (h : ∀ i (hi : i < n), l[i]? = some (args ⟨i, hi⟩)) : upto (fun j => if h : j < n then nparts (args ⟨j, h⟩) else 0) n = npL l := by
  subst hl
  rw [← upto_list l]
  refine upto_congr fun i hi => ?_
  rw [dif_pos hi, dif_pos hi]
  have h1 := h i hi
  rw [List.getElem?_eq_getElem hi, Option.some.injEq] at h1
  rw [h1]
theorem nparts_node {k : Int} (hk : k ≠ 1) (nm : ByteArray) (op : Int) (ev : ByteArray) {n : Nat} (args : Fin n → DepT) : nparts (.mk k nm op ev n args) = npL ((List.finRange n).map args) := by
  unfold nparts
  rw [if_neg hk]
  exact upto_of args _ (by simp) (fun i hi => by simp [hi])
theorem nparts_nodeT (k : Nat) (l : List DepT) : nparts (nodeT k l) ≤ 1 + npL l := by
  unfold nodeT nparts
  split
  · omega
  · have h1 := upto_list l
    show upto (fun j => if h : j < l.length then nparts l[j] else 0) l.length ≤ 1 + npL l
    rw [h1]
    omega
theorem hd_tail {ws : List Wd} {w : Wd} (h : hd ws = w) (hw : w ≠ []) : ws.tail.length + 1 = ws.length := by
  cases ws with
  | nil => rw [hd_nil] at h; exact absurd h.symm hw
  | cons a t => simp
theorem rdMore_num {f : List Wd → Option (DepT × List Wd)} {k : Wd} (hf : ∀ ws d r, f ws = some (d, r) → nparts d + r.length ≤ ws.length) : ∀ (n : Nat) (acc : List DepT) (ws : List Wd) (l : List DepT) (r : List Wd), rdMore f k n acc ws = some (l, r) → npL l + r.length ≤ npL acc + ws.length
  | 0, _, _, _, _, h => by cases h
  | n + 1, acc, ws, l, r, h => by
    unfold rdMore at h
    split at h
    · split at h
      · cases h
      · split at h
        · cases h
        · rename_i d q e
          have h1 := rdMore_num hf n _ _ _ _ h
          have h2 := hf _ _ _ e
          have h3 : ws.tail.length ≤ ws.length := (List.tail_suffix ws).length_le
          rw [npL_append] at h1
          simp only [npL] at h1
          omega
    · injection h with h
      injection h with h1 h2
      rw [← h1, ← h2]
      exact Nat.le_refl _
theorem rdEnd_num {k : Wd} {l : List DepT} {ws r : List Wd} {d : DepT} (h : rdEnd k l ws = some (d, r)) : nparts d + r.length ≤ npL l + ws.length := by
  unfold rdEnd at h
  split at h
  · rename_i h0
    injection h with h
    injection h with h1 h2
    rw [← h1, ← h2]
    have h3 := nparts_nodeT (kindOf k) l
    have h4 := hd_tail h0 (by decide)
    omega
  · cases h
theorem rdElse_num {f : List Wd → Option (DepT × List Wd)} {k : Wd} {l : List DepT} {ws r : List Wd} {d : DepT} (hf : ∀ ws d r, f ws = some (d, r) → nparts d + r.length ≤ ws.length) (h : rdElse f k l ws = some (d, r)) : nparts d + r.length ≤ npL l + ws.length := by
  unfold rdElse at h
  split at h
  · split at h
    · cases h
    · rename_i d1 r1 e
      have h1 := rdEnd_num h
      have h2 := hf _ _ _ e
      have h3 : ws.tail.length ≤ ws.length := (List.tail_suffix ws).length_le
      rw [npL_append] at h1
      simp only [npL] at h1
      omega
  · exact rdEnd_num h
theorem leaf_num (w : Wd) (op : Nat) (ev : Wd) : nparts (leafT w op ev) = 1 := rfl
theorem rdOne_num : ∀ (n : Nat) (ws : List Wd) (d : DepT) (r : List Wd), rdOne n ws = some (d, r) → nparts d + r.length ≤ ws.length
  | 0, _, _, _, h => by cases h
  | n + 1, ws, d, r, h => by
    unfold rdOne at h
    split at h
    · have h1 := (rdLeaf_suf h).2
      have h2 : nparts d = 1 := by
        unfold rdLeaf at h
        split at h
        · cases h
        · split at h
          · injection h with h
            injection h with h _
            rw [← h]
            rfl
          · injection h with h
            injection h with h _
            rw [← h]
            rfl
      omega
    · split at h
      · cases h
      · rename_i d1 r1 e1
        split at h
        · cases h
        · split at h
          · cases h
          · rename_i l q e2
            have h1 := rdElse_num (fun ws d r e => rdOne_num n ws d r e) h
            have h2 := rdMore_num (fun ws d r e => rdOne_num n ws d r e) _ _ _ _ _ e2
            have h3 := rdOne_num n _ _ _ e1
            have h4 : ws.tail.length ≤ ws.length := (List.tail_suffix ws).length_le
            simp only [npL] at h2
            omega
theorem depParse_num {s : ByteArray} (h : (depParse s).2 = 0) : nparts (depParse s).1 ≤ s.size := by
  unfold depParse at h ⊢
  cases e : rdOne ((wordsB (bs s)).length + 1) (wordsB (bs s)) with
  | none => rw [e] at h; cases h
  | some x =>
    obtain ⟨d, ws⟩ := x
    rw [e] at h
    simp only at h ⊢
    by_cases h1 : ws ≠ []
    · rw [if_pos h1] at h; cases h
    · rw [if_neg h1] at h ⊢
      by_cases h2 : depCheck d ≠ 0
      · rw [if_pos h2] at h; exact absurd h h2
      · rw [if_neg h2]
        have h3 := rdOne_num _ _ _ _ e
        have h4 := wordsB_len _ (bs s) (Nat.le_refl _)
        rw [bs_length] at h4
        show nparts d ≤ s.size
        omega

/-! ### the text's length -/
theorem pre_len {k : Int} (h1 : 2 ≤ k) (h2 : k ≤ 6) (i : Nat) : (preP k i).length ≤ 9 := by
  unfold preP
  split
  · have : (wordAt k i).length ≤ 7 := by
      unfold wordAt
      split
      · decide
      · rcases kinds h1 h2 with rfl | rfl | rfl | rfl | rfl <;> decide
    simp only [List.length_cons, List.length_append, List.length_nil]
    omega
  · exact Nat.zero_le _
theorem body_len {k : Int} (h1 : 2 ≤ k) (h2 : k ≤ 6) : ∀ (us : List DepT) (i : Nat), (∀ a ∈ us, (printB a).length + 20 ≤ 150 * nparts a) → (bodyP k i us).length + 11 * us.length ≤ 150 * npL us
  | [], _, _ => by simp [bodyP, npL]
  | a :: us, i, h => by
    have ih := body_len h1 h2 us (i + 1) (fun b hb => h b (List.mem_cons_of_mem _ hb))
    have h3 := h a (by simp)
    have h4 := pre_len h1 h2 i
    rw [bodyP, npL, List.length_append, List.length_append, List.length_cons]
    omega
theorem ev_len {l : Wd} (h : (parse l).isSome = true) : l.length ≤ 60 := by
  unfold parse at h
  split at h
  · cases h
  · rename_i h1
    unfold okText at h1
    simp at h1
    omega
theorem print_len : ∀ (d : DepT), formB d = true → (printB d).length + 20 ≤ 150 * nparts d
  | .mk k nm op ev n args, h => by
    by_cases hk : k = 1
    · subst hk
      obtain ⟨h1, _, h3⟩ := wform_name h
      have h4 := (name_parts h1).2.1
      have h5 : nparts (.mk 1 nm op ev n args) = 1 := by unfold nparts; rw [if_pos rfl]
      rw [h5, printB, if_pos rfl]
      rcases h3 with ⟨rfl, _⟩ | ⟨h6, h7, h8⟩
      · rw [if_neg (by decide), bs_length]
        omega
      · rw [if_pos (by omega)]
        have h9 := ev_len h8
        have h10 : (signOf op).length ≤ 3 := by
          have : op = 1 ∨ op = 2 ∨ op = 3 ∨ op = 4 ∨ op = 5 ∨ op = 6 ∨ op = 7 := by omega
          rcases this with rfl | rfl | rfl | rfl | rfl | rfl | rfl <;> decide
        simp only [List.length_append, List.length_cons, bs_length] at h9 ⊢
        omega
    · obtain ⟨a1, a2, _, _, _, a6, _, _, a9⟩ := wform_node hk h
      have ih : ∀ i, (printB (args i)).length + 20 ≤ 150 * nparts (args i) := fun i => print_len (args i) (a9 i)
      have hb := body_len a1 a2 ((List.finRange n).map args) 0 (fun a ha => by
        obtain ⟨i, _, rfl⟩ := List.mem_map.1 ha
        exact ih i)
      rw [print_node hk, nparts_node hk]
      simp only [List.length_cons, List.length_append, List.length_nil, List.length_map, List.length_finRange] at hb ⊢
      omega
theorem print_small {d : DepT} (h : depCheck d = 0) (hn : nparts d < 4611686018427387904) : (printB d).length ≤ 2400 := by
  unfold depCheck at h
  split at h
  · cases h
  · rename_i h1
    split at h
    · cases h
    · rename_i h2
      have h3 := print_len d (by simpa using h1)
      omega
end Go.Proofs.YtjcefgjgjhdbpaaGreatDoor
