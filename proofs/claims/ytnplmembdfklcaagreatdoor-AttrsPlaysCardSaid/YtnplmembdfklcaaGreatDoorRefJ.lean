/-
  The document's ups: plain laws and the walk. Helper text; the conditions are those typed.
-/
import Derived.Test.YtnplmembdfklcaaGreatDoorRefE
import Derived.Test.YtnplmembdfklcaaGreatDoorTextsR
import Derived.Test.YtnplmembdfklcaaGreatDoorDirLaw
namespace Go.Proofs.YtnplmembdfklcaaGreatDoor
set_option linter.unusedVariables false
set_option linter.unusedSimpArgs false
open Go.RowKit Go.Maps

def upR (r : Nat) : Bool := decide (33 ≤ r ∧ r ≤ 126)
theorem oddR_eq : oddR = fun r => !upR r := by
  funext r
  unfold oddR upR
  by_cases h1 : r < 33
  · simp [h1] <;> omega
  · by_cases h2 : 126 < r
    · simp [h2] <;> omega
    · simp [h1, h2] <;> omega
theorem clean_eq (r : List UInt8) : cleanB (mkB r) = r.all fun b => upR b.toNat := by
  unfold cleanB
  rw [oddR_eq, idx_by upR (fun r h => by unfold upR at h; simp at h; omega)]
  rfl
theorem split_app (c : UInt8) : ∀ (x y : List UInt8), c ∉ x → splitC c (x ++ c :: y) = x :: splitC c y
  | [], y, _ => by show splitC c (c :: y) = _; rw [splitC_cons, if_pos rfl]
  | b :: x, y, h => by
    show splitC c (b :: (x ++ c :: y)) = _
    rw [splitC_cons, if_neg (fun e => h (by simp [e])), split_app c x y (fun e => h (by simp [e]))]
theorem split_end (c : UInt8) : ∀ (x : List UInt8), c ∉ x → splitC c x = [x]
  | [], _ => rfl
  | b :: x, h => by rw [splitC_cons, if_neg (fun e => h (by simp [e])), split_end c x (fun e => h (by simp [e]))]
theorem bs_extract (p : ByteArray) (a b : Nat) : bs (p.extract a b) = ((bs p).drop a).take (b - a) := by
  have := Lib.extract_data p a b
  unfold bs
  rw [this]
theorem atAll_ge : ∀ (qs : List (List UInt8)) (a : List UInt8), a.length + qs.length ≤ (atAll a qs).length
  | [], a => Nat.le_refl _
  | q :: qs, a => by
    have := atAll_ge qs (a ++ 47 :: q)
    rw [List.length_append, List.length_cons] at this
    show _ ≤ (atAll (a ++ 47 :: q) qs).length
    rw [List.length_cons]
    omega

/-- What the loop knows: up to i, the parts up to f. -/
structure UI (ps r : List UInt8) (i f : Nat) (qs : List (List UInt8)) : Prop where
  one : 1 ≤ f
  fi : f ≤ i
  is : i ≤ ps.length + 1
  pre : ps.take (f - 1) = atAll [] qs
  ok : qs.all okPart = true
  sl : ∀ (h : f - 1 < ps.length), ps[f - 1] = 47
  no : ∀ j (h : j < ps.length), f ≤ j → j < i → ps[j] ≠ 47
  phase : (i ≤ ps.length ∧ splitC 47 r = qs ++ splitC 47 (ps.drop f)) ∨ (i = ps.length + 1 ∧ splitC 47 r = qs)
  up : ∀ j (h : j < ps.length), 1 ≤ j → j < i → ps[j] = 47 ∨ upR (ps[j]).toNat = true

theorem UI.start {ps r : List UInt8} (hp : ps = 47 :: r) (hr : r ≠ []) : UI ps r 1 1 [] :=
  ⟨Nat.le_refl _, Nat.le_refl _, by simp, rfl, rfl, fun h => by subst hp; rfl, fun j h h1 h2 => by omega, .inl ⟨by subst hp; simp, by subst hp; rfl⟩, fun j h h1 h2 => by omega⟩
theorem UI.byte {ps r : List UInt8} {i f : Nat} {qs : List (List UInt8)} (h : UI ps r i f qs) (hi : i < ps.length) (h1 : ps[i] ≠ 47) (h2 : upR (ps[i]).toNat = true) : UI ps r (i + 1) f qs := by
  refine ⟨h.one, by have := h.fi; omega, by omega, h.pre, h.ok, h.sl, fun j hj hf hji => ?_, ?_, fun j hj h1j hji => ?_⟩
  · by_cases e : j = i
    · subst e; exact h1
    · exact h.no j hj hf (by omega)
  · rcases h.phase with ⟨_, e⟩ | ⟨e, _⟩
    · exact .inl ⟨by omega, e⟩
    · omega
  · by_cases e : j = i
    · subst e; exact .inr h2
    · exact h.up j hj h1j (by omega)
theorem UI.part {ps r : List UInt8} {i f : Nat} {qs : List (List UInt8)} (h : UI ps r i f qs) (hi : i ≤ ps.length) : (47 : UInt8) ∉ (ps.drop f).take (i - f) := by
  intro hm
  obtain ⟨j, hj, e⟩ := List.mem_iff_getElem.1 hm
  rw [List.length_take, List.length_drop] at hj
  rw [List.getElem_take, List.getElem_drop] at e
  exact h.no (f + j) (by omega) (by omega) (by omega) e
theorem UI.split {ps r : List UInt8} {i f : Nat} {qs : List (List UInt8)} (h : UI ps r i f qs) (hi : i ≤ ps.length) (hs : ∀ (h : i < ps.length), ps[i] = 47) : splitC 47 r = qs ++ (ps.drop f).take (i - f) :: (if i < ps.length then splitC 47 (ps.drop (i + 1)) else []) := by
  have hfi := h.fi
  rcases h.phase with ⟨_, e⟩ | ⟨e, _⟩
  · rw [e]
    congr 1
    by_cases hlt : i < ps.length
    · rw [if_pos hlt]
      have e2 : ps.drop f = (ps.drop f).take (i - f) ++ 47 :: ps.drop (i + 1) := by
        have h3 : (ps.drop f).drop (i - f) = 47 :: ps.drop (i + 1) := by
          rw [List.drop_drop, show f + (i - f) = i by omega, List.drop_eq_getElem_cons hlt, hs hlt]
        rw [← h3, List.take_append_drop]
      calc splitC 47 (ps.drop f) = splitC 47 ((ps.drop f).take (i - f) ++ 47 :: ps.drop (i + 1)) := congrArg _ e2
        _ = _ := split_app 47 _ _ (h.part hi)
    · rw [if_neg hlt]
      have hp := h.part hi
      rw [List.take_of_length_le (by rw [List.length_drop]; omega)] at hp ⊢
      exact split_end 47 _ hp
  · omega
theorem UI.next {ps r : List UInt8} {i f : Nat} {qs : List (List UInt8)} (h : UI ps r i f qs) (hp : ps = 47 :: r) (hi : i ≤ ps.length) (hs : ∀ (h : i < ps.length), ps[i] = 47) (hok : okPart ((ps.drop f).take (i - f)) = true) :
    UI ps r (i + 1) (i + 1) (qs ++ [(ps.drop f).take (i - f)]) ∧ ps.take i = atAll [] qs ++ 47 :: (ps.drop f).take (i - f) := by
  have hfi := h.fi
  have h1f := h.one
  have hpre : ps.take i = atAll [] qs ++ 47 :: (ps.drop f).take (i - f) := by
    rw [← h.pre]
    have hlt : f - 1 < ps.length := by omega
    have e0 : ps.take i = ps.take (f - 1) ++ (ps.drop (f - 1)).take (i - (f - 1)) := by
      have e := List.take_add (l := ps) (i := f - 1) (j := i - (f - 1))
      rw [show f - 1 + (i - (f - 1)) = i by omega] at e
      exact e
    rw [e0, List.drop_eq_getElem_cons hlt, h.sl hlt, show i - (f - 1) = (i - f) + 1 by omega, List.take_succ_cons, show f - 1 + 1 = f by omega]
  refine ⟨⟨by omega, Nat.le_refl _, by omega, ?_, ?_, fun hh => ?_, fun j hj hf hji => by omega, ?_, fun j hj h1j hji => ?_⟩, hpre⟩
  · rw [show i + 1 - 1 = i by omega, hpre, atAll_snoc]
  · rw [List.all_append, h.ok, List.all_cons, hok]; rfl
  · exact hs hh
  · have e := h.split hi hs
    by_cases hlt : i < ps.length
    · rw [if_pos hlt] at e
      exact .inl ⟨by omega, by rw [e, List.append_assoc]; rfl⟩
    · rw [if_neg hlt] at e
      exact .inr ⟨by omega, e⟩
  · by_cases e : j = i
    · subst e; exact .inl (hs hj)
    · exact h.up j hj h1j (by omega)
theorem UI.bad {p : ByteArray} {r : List UInt8} {i f : Nat} {qs : List (List UInt8)} (h : UI (bs p) r i f qs) (hp : bs p = 47 :: r) (hr : r ≠ []) (hi : i ≤ (bs p).length) (hs : ∀ (h : i < (bs p).length), (bs p)[i] = 47) (hno : okPart (((bs p).drop f).take (i - f)) = false) : upsL p = none := by
  have hnr : bs p ≠ [47] := fun e => hr (by rw [hp] at e; simpa using e)
  have hall : (splitC 47 r).all okPart = false := by
    rw [h.split hi hs, List.all_append, List.all_cons, hno]
    simp
  unfold upsL
  rw [if_neg hnr, hp]
  simp only [hall, Bool.false_eq_true, and_false, if_false]
theorem UI.odd {p : ByteArray} {r : List UInt8} {i f : Nat} {qs : List (List UInt8)} (h : UI (bs p) r i f qs) (hp : bs p = 47 :: r) (hr : r ≠ []) (hi : i < (bs p).length) (hno : upR ((bs p)[i]).toNat = false) : upsL p = none := by
  have hnr : bs p ≠ [47] := fun e => hr (by rw [hp] at e; simpa using e)
  have hc : cleanB (mkB r) = false := by
    rw [clean_eq, List.all_eq_false]
    refine ⟨(bs p)[i], ?_, by rw [hno]; decide⟩
    have h1 := h.one
    have h2 := h.fi
    have e : (bs p)[i] = r[i - 1]'(by have := congrArg List.length hp; simp at this; omega) := by
      have : (bs p)[i]? = r[i - 1]? := by
        rw [hp, show i = (i - 1) + 1 by omega, List.getElem?_cons_succ]
        simp
      rw [List.getElem?_eq_getElem hi, List.getElem?_eq_getElem (by have := congrArg List.length hp; simp at this; omega)] at this
      exact Option.some.inj this
    rw [e]
    exact List.getElem_mem _
  unfold upsL
  rw [if_neg hnr, hp]
  simp only [hc, Bool.false_eq_true, false_and, and_false, if_false]
theorem UI.done {p : ByteArray} {r : List UInt8} {i f : Nat} {qs : List (List UInt8)} (h : UI (bs p) r i f qs) (hp : bs p = 47 :: r) (hr : r ≠ []) (hsz : p.size ≤ 200) (hi : i = (bs p).length + 1) : upsL p = some (upsFrom [] qs) := by
  have hnr : bs p ≠ [47] := fun e => hr (by rw [hp] at e; simpa using e)
  have hsp : splitC 47 r = qs := by
    rcases h.phase with ⟨e, _⟩ | ⟨_, e⟩
    · omega
    · exact e
  have hc : cleanB (mkB r) = true := by
    rw [clean_eq, List.all_eq_true]
    intro x hx
    obtain ⟨j, hj, rfl⟩ := List.mem_iff_getElem.1 hx
    have hj1 : j + 1 < (bs p).length := by have := congrArg List.length hp; simp at this; omega
    have e : (bs p)[j + 1] = r[j] := by
      have : (bs p)[j + 1]? = r[j]? := by rw [hp, List.getElem?_cons_succ]
      rw [List.getElem?_eq_getElem hj1, List.getElem?_eq_getElem hj] at this
      exact Option.some.inj this
    rcases h.up (j + 1) hj1 (by omega) (by omega) with h1 | h1
    · rw [e] at h1
      rw [h1]; decide
    · rw [e] at h1
      exact h1
  unfold upsL
  rw [if_neg hnr, hp]
  simp only [hsp, hc, hsz, h.ok, and_self, if_true]

set_option maxHeartbeats 4000000 in
set_option maxRecDepth 100000 in
/-- ups. -/
theorem refups_c (p : ByteArray) (w : World) : Calls Tryz.prog 52 #[.string p] w (UpsP p w) := by
  by_cases hroot : bs p = [47]
  · have hq : (p.toList == [47]) = true := by rw [toList_bs, hroot]; rfl
    have HE : Hid (UpsP p w (.returned (.tuple #[.slice none 0 0, .bool true])) w) := by
      unfold Hid UpsP upsL
      rw [if_pos hroot]
      exact ⟨⟨_, rfl, World.ownsRow_nil _ _ _ _⟩, Below.refl _ _⟩
    generalize UpsP p w = Q at HE ⊢
    clear hroot
    go_enter Tryz.func52, Tryz.ntmps52
    go_wp2_with fail
    exact HE.out
  have hq : (p.toList == [47]) = false := by
    rw [toList_bs]
    simpa using hroot
  have HNO : Hid (upsL p = none → ∀ w', Below w.heap.size w w' → UpsP p w (.returned (.tuple #[.slice none 0 0, .bool false])) w') := fun he w' hb => by
    unfold UpsP
    rw [he]
    exact ⟨rfl, hb⟩
  have HYES : Hid (∀ qs v w', upsL p = some (upsFrom [] qs) → OwnS w v ((upsFrom [] qs).map mkB) w' → UpsP p w (.returned (.tuple #[v, .bool true])) w') := fun qs v w' he ho => by
    unfold UpsP
    rw [he]
    have h1 := ho.1
    rw [List.length_map, List.map_map] at h1
    exact ⟨⟨v, rfl, h1⟩, ho.2⟩
  have HBR := Lib.hid (Below.refl w.heap.size w)
  have HL := Lib.hid (bs_len p)
  generalize UpsP p w = Q at HNO HYES ⊢
  by_cases h2 : p.size < 2
  · have hno : upsL p = none := by
      unfold upsL
      rw [if_neg hroot]
      cases hb : bs p with
      | nil => rfl
      | cons c r =>
        have h3 := bs_len p
        rw [hb] at h3
        have hr : r = [] := List.eq_nil_of_length_eq_zero (by simp at h3; omega)
        subst hr
        have hc : ¬ c = 47 := fun e => hroot (by rw [hb, e])
        simp only [hc, false_and, if_false]
    have HN1 := Lib.hid (HNO.out hno w HBR.out)
    have k2 : (p.size : Int) < 2 := by omega
    clear hroot hno h2 HNO HYES
    go_enter Tryz.func52, Tryz.ntmps52
    go_wp2_with fail
    exact HN1.out
  have k2 : ¬ (p.size : Int) < 2 := by omega
  by_cases h3 : 200 < p.size
  · have hno : upsL p = none := by
      unfold upsL
      rw [if_neg hroot]
      cases hb : bs p with
      | nil => rfl
      | cons c r => simp only [show ¬ p.size ≤ 200 by omega, false_and, and_false, if_false]
    have HN1 := Lib.hid (HNO.out hno w HBR.out)
    have k3 : 200 < (p.size : Int) := by omega
    clear hroot hno h3 h2 HNO HYES
    go_enter Tryz.func52, Tryz.ntmps52
    go_wp2_with fail
    exact HN1.out
  have k3 : ¬ 200 < (p.size : Int) := by omega
  have hp0 : 0 < p.size := by omega
  have hb0 : (bs p)[0]'(by rw [bs_len]; exact hp0) = p[0]'hp0 := rfl
  by_cases h4 : (p[0]'hp0).toNat = 47
  · obtain ⟨r, hp⟩ : ∃ r, bs p = 47 :: r := by
      cases hb : bs p with
      | nil => have := bs_len p; rw [hb] at this; simp at this; omega
      | cons c r =>
        refine ⟨r, ?_⟩
        have : c = p[0]'hp0 := by rw [← hb0]; simp [hb]
        rw [this]
        congr 1
        exact UInt8.toNat_inj.1 h4
    have hr : r ≠ [] := fun e => hroot (by rw [hp, e])
    have HP : Hid (bs p = 47 :: r ∧ r ≠ [] ∧ p.size ≤ 200) := ⟨hp, hr, by omega⟩
    have k4 : (((p[0]'hp0).toNat : Int) != 47) = false := by simp; omega
    have hsz : p.size ≤ 200 := by omega
    have HS := Lib.hid (UI.start hp hr)
    clear hroot h2 h3 h4 hp hr hb0
    go_enter Tryz.func52, Tryz.ntmps52
    go_wp2_with fail
    go_loopw [4, 5, 6, 7] (fun v4 v5 v6 v7 wr => ∃ i f qs, v5 = .int .i64 (f : Nat) ∧ v6 = .int .i64 (i : Nat) ∧ i ≤ p.size + 1 ∧ f ≤ i ∧ Hid (UI (bs p) r i f qs) ∧ Hid (OwnS w v4 ((upsFrom [] qs).map mkB) wr)) (fun _ _ v6 _ _ => p.size + 2 - (intOf v6).toNat)
    case atStart => exact ⟨1, 1, [], rfl, rfl, by omega, Nat.le_refl _, HS, OwnS.nil w⟩
    case round =>
      obtain ⟨i, f, qs, rfl, rfl, hi, hf, HI, HO⟩ := hrel
      by_cases hle : i ≤ p.size
      · have hi1 : (i : Int) ≤ (p.size : Int) := by omega
        have HLN := HL.out
        by_cases hA : ∃ (h : i < p.size), (p[i]'h).toNat ≠ 47
        · obtain ⟨hlt, h47⟩ := hA
          have hlt1 : (i : Int) < (p.size : Int) := by omega
          have hil : i < (bs p).length := by omega
          have hbi : (bs p)[i] = p[i]'hlt := rfl
          have kb : (((p[i]'hlt).toNat : Int) != 47) = true := by simp; omega
          have h47' : (bs p)[i] ≠ 47 := fun e => h47 (by rw [← hbi, e]; rfl)
          by_cases hup : 33 ≤ (p[i]'hlt).toNat ∧ (p[i]'hlt).toNat ≤ 126
          · have HN : Hid (UI (bs p) r (i + 1) f qs) := HI.out.byte hil h47' (by rw [hbi]; unfold upR; exact decide_eq_true hup)
            have q1 : ¬ ((p[i]'hlt).toNat : Int) < 33 := by omega
            have q2 : ¬ 126 < ((p[i]'hlt).toNat : Int) := by omega
            clear hup h47 h47' HI
            go_wp2_with fail
            go_roundw
            case rel => exact ⟨i + 1, f, qs, rfl, by go_num, by omega, by omega, HN, HO⟩
            case measure => simp [intOf]; omega
          · have HN := Lib.hid (HNO.out (HI.out.odd HP.out.1 HP.out.2.1 hil (by rw [hbi]; unfold upR; exact decide_eq_false hup)) wr HO.out.2)
            have H : ((p[i]'hlt).toNat : Int) < 33 ∨ (¬ ((p[i]'hlt).toNat : Int) < 33 ∧ 126 < ((p[i]'hlt).toNat : Int)) := by omega
            clear hup h47 h47' HI
            rcases H with q1 | ⟨q1, q2⟩
            · go_wp2_with fail
              exact HN.out
            · go_wp2_with fail
              exact HN.out
        · have hs : ∀ (h : i < (bs p).length), (bs p)[i] = 47 := fun h => by
            have h' : i < p.size := by omega
            have e : (p[i]'h').toNat = 47 := by
              by_cases e : (p[i]'h').toNat = 47
              · exact e
              · exact absurd ⟨h', e⟩ hA
            exact UInt8.toNat_inj.1 e
          have H : ¬ (i : Int) < (p.size : Int) ∨ ((i : Int) < (p.size : Int) ∧ ∃ (h : i < p.size), (((p[i]'h).toNat : Int) != 47) = false) := by
            by_cases h : i < p.size
            · right
              refine ⟨by omega, h, ?_⟩
              have e : (p[i]'h).toNat = 47 := by
                by_cases e : (p[i]'h).toNat = 47
                · exact e
                · exact absurd ⟨h, e⟩ hA
              rw [e]; decide
            · left; omega
          have hile : i ≤ (bs p).length := by omega
          obtain ⟨part, hpart⟩ : ∃ part, p.extract f i = part := ⟨_, rfl⟩
          obtain ⟨pre, hpre⟩ : ∃ pre, p.extract 0 i = pre := ⟨_, rfl⟩
          have hbp : bs part = ((bs p).drop f).take (i - f) := by
            rw [← hpart]
            exact bs_extract p f i
          have hpl : part.toList = ((bs p).drop f).take (i - f) := by rw [toList_bs, hbp]
          have hfi : (f : Int) ≤ (i : Int) := by omega
          cases hok : okPart (((bs p).drop f).take (i - f)) with
          | false =>
            have HN := Lib.hid (HNO.out (HI.out.bad HP.out.1 HP.out.2.1 hile hs hok) wr HO.out.2)
            have H2 : (part.toList == ([] : List UInt8)) = true ∨ ((part.toList == ([] : List UInt8)) = false ∧ (part.toList == [46]) = true) ∨ ((part.toList == ([] : List UInt8)) = false ∧ (part.toList == [46]) = false ∧ (part.toList == [46, 46]) = true) := by
              rw [hpl]
              generalize ((bs p).drop f).take (i - f) = z at hok
              by_cases h1 : z = []
              · left; simp [h1]
              · right
                by_cases h2 : z = [46]
                · left; exact ⟨by simpa using h1, by simp [h2]⟩
                · right
                  refine ⟨by simpa using h1, by simpa using h2, ?_⟩
                  unfold okPart at hok
                  simpa [h1, h2] using hok
            clear HI hs hA hok hbp hpl HNO HYES
            rcases H2 with q0 | ⟨q0, q1⟩ | ⟨q0, q1, q2⟩
            all_goals
              rcases H with hlt | ⟨hlt, hlt', kb⟩
              all_goals
                go_wp2_with fail
                exact HN.out
          | true =>
            obtain ⟨hn1, hn2⟩ := HI.out.next HP.out.1 hile hs hok
            have HN := Lib.hid hn1
            have HX : Hid ((upsFrom [] (qs ++ [((bs p).drop f).take (i - f)])).map mkB = (upsFrom [] qs).map mkB ++ [pre]) := by
              unfold Hid
              rw [upsFrom_snoc, List.map_append, ← hn2]
              congr 1
              show [mkB ((bs p).take i)] = [pre]
              congr 1
              apply bs_inj
              rw [bs_mkB, ← hpre, bs_extract]
              simp
            have HQL : Hid (qs.length ≤ 200) := by
              unfold Hid
              have h1 := atAll_ge qs []
              rw [← HI.out.pre, List.length_take] at h1
              simp at h1
              omega
            have q0 : (part.toList == ([] : List UInt8)) = false := by
              rw [hpl]; generalize ((bs p).drop f).take (i - f) = z at hok; unfold okPart at hok; simp at hok; simpa using hok.1.1
            have q1 : (part.toList == [46]) = false := by
              rw [hpl]; generalize ((bs p).drop f).take (i - f) = z at hok; unfold okPart at hok; simp at hok; simpa using hok.1.2
            have q2 : (part.toList == [46, 46]) = false := by
              rw [hpl]; generalize ((bs p).drop f).take (i - f) = z at hok; unfold okPart at hok; simp at hok; simpa using hok.2
            have HOA := Lib.hid (HO.out.alloc (.cells #[.string pre] 9))
            have HTX : Hid (TxtsAt (wr.alloc (.cells #[.string pre] 9)) (some ⟨wr.heap.size, 0, none⟩) [pre]) := txts_new wr [pre] 9
            have HLEN : Hid (((upsFrom [] qs).map mkB).length ≤ 200) := by
              unfold Hid
              rw [List.length_map, upsFrom_len]
              exact HQL.out
            clear HI hs hA hok hbp hpl HNO HYES hn1 hn2 HO
            rcases H with hlt | ⟨hlt, hlt', kb⟩
            all_goals
              go_wp2_with (at_builtin; refine wpList_appS (w0 := w) rfl (.tmp 63) (.tmp 67) rfl u4 (some ⟨wr.heap.size, 0, none⟩) 1 1 ((upsFrom [] qs).map mkB) [pre] rfl rfl HOA.out rfl HTX.out (by have := HLEN.out; simp only [List.length_singleton]; omega) ?_; intro v7 w7 h7 hg7)
              have HO7 : Hid (OwnS w v7 ((upsFrom [] (qs ++ [((bs p).drop f).take (i - f)])).map mkB) w7) := by rw [Hid, HX.out]; exact h7
              clear h7 hg7
              go_roundw
              case rel => exact ⟨i + 1, i + 1, _, by go_num, by go_num, by omega, Nat.le_refl _, HN, HO7⟩
              case measure => simp [intOf]; omega
      · have hi1 : ¬ (i : Int) ≤ (p.size : Int) := by omega
        have HF := Lib.hid (HYES.out qs u4 wr (HI.out.done HP.out.1 HP.out.2.1 HP.out.2.2 (by have := HL.out; omega)) HO.out)
        go_wp2_with fail
        exact HF.out
  · have hno : upsL p = none := by
      unfold upsL
      rw [if_neg hroot]
      cases hb : bs p with
      | nil => rfl
      | cons c r =>
        have hc : ¬ c = 47 := fun e => h4 (by
          have : c = p[0]'hp0 := by rw [← hb0]; simp [hb]
          rw [← this, e]; rfl)
        simp only [hc, false_and, if_false]
    have HN1 := Lib.hid (HNO.out hno w HBR.out)
    have k4 : (((p[0]'hp0).toNat : Int) != 47) = true := by simp; omega
    clear hroot hno h3 h2 h4 HNO HYES hb0
    go_enter Tryz.func52, Tryz.ntmps52
    go_wp2_with fail
    exact HN1.out
end Go.Proofs.YtnplmembdfklcaaGreatDoor
