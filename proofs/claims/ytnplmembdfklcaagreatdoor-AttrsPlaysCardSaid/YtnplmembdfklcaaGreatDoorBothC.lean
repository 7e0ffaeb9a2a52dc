/-
  Both stores tell the same: plain laws (keys, values, searches, schemas). Helper text; the conditions are those typed.
  Both stores tell the same: plain laws (Unset, Search, Schema, Schemas). Helper text; the conditions are those typed.
  Both stores tell the same: plain laws of directories. Helper text; the conditions are those typed.
-/
import Derived.Test.YtnplmembdfklcaaGreatDoorRefN
import Derived.Test.YtnplmembdfklcaaGreatDoorRefH
import Derived.Test.YtnplmembdfklcaaGreatDoorSche
import Derived.Test.YtnplmembdfklcaaGreatDoorDirsLaw
import Derived.DataShut
namespace Go.Proofs.YtnplmembdfklcaaGreatDoor
set_option linter.unusedVariables false
set_option linter.unusedSimpArgs false
open Go.RowKit Go.Maps

def tag (p : KeptT) : Int × ByteArray := (p.id, p.key)
/-- Both stores tell the same. -/
structure Both (st : StT) (rt : RefT) : Prop where
  keys : st.keys = rt.keys
  nd : rt.keys.Nodup
  klen : rt.kinds.length = rt.keys.length
  kind : ∀ k x, st.kind k = some x ↔ ∃ i : Nat, rt.keys[i]? = some k ∧ rt.kinds[i]? = some x
  val : ∀ id k v, st.val id k = some v ↔ ∃ p ∈ rt.l, p.id = id ∧ p.key = k ∧ p.v = v
  one : (rt.l.map tag).Nodup
  kok : KeysOK st
  sok : StOK st
  dirs : rt.dirs = st.dirs.map (fun d => mkB d.1)
  dok : DirsOK st.dirs
  dlen : st.dirs.length ≤ 2000

theorem keyIdx_some {l : List ByteArray} {k : ByteArray} {i : Nat} (h : keyIdx l k = some i) : l[i]? = some k := by
  unfold keyIdx at h
  rw [List.findIdx?_eq_some_iff_getElem] at h
  obtain ⟨hi, hp, _⟩ := h
  rw [List.getElem?_eq_getElem hi, of_decide_eq_true hp]
theorem keyIdx_none {l : List ByteArray} {k : ByteArray} : keyIdx l k = none ↔ k ∉ l := by
  unfold keyIdx
  rw [List.findIdx?_eq_none_iff]
  constructor
  · intro h hm
    have := h k hm
    simp at this
  · intro h x hx
    exact decide_eq_false (fun e => h (e ▸ hx))
theorem keptIdx_none {l : List KeptT} {id : Int} {k : ByteArray} : keptIdx l id k = none ↔ ∀ p ∈ l, ¬ (p.id = id ∧ p.key = k) := by
  unfold keptIdx
  rw [List.findIdx?_eq_none_iff]
  constructor
  · intro h p hp ⟨e1, e2⟩
    have := h p hp
    rw [decide_eq_true e1, decide_eq_true e2] at this
    cases this
  · intro h p hp
    have := h p hp
    by_cases e1 : p.id = id
    · rw [decide_eq_false (fun e2 => this ⟨e1, e2⟩), Bool.and_false]
    · rw [decide_eq_false e1, Bool.false_and]
theorem nodup_inj {α : Type} {l : List α} (h : l.Nodup) {i j : Nat} (hi : i < l.length) (hj : j < l.length) (e : l[i] = l[j]) : i = j := by
  have h1 := List.pairwise_iff_getElem.1 h
  rcases Nat.lt_trichotomy i j with h2 | h2 | h2
  · exact absurd e (h1 i j hi hj h2)
  · exact h2
  · exact absurd e.symm (h1 j i hj hi h2)
theorem nodup_at {α : Type} {l : List α} (h : l.Nodup) {i j : Nat} {x : α} (hi : l[i]? = some x) (hj : l[j]? = some x) : i = j := by
  obtain ⟨h1, a⟩ := List.getElem?_eq_some_iff.1 hi
  obtain ⟨h2, b⟩ := List.getElem?_eq_some_iff.1 hj
  exact nodup_inj h h1 h2 (a.trans b.symm)

section
variable {st : StT} {rt : RefT}
theorem Both.kind_at (h : Both st rt) (key : ByteArray) : st.kind key = (keyIdx rt.keys key).bind fun i => rt.kinds[i]? := by
  cases hk : keyIdx rt.keys key with
  | none =>
    cases hs : st.kind key with
    | none => rfl
    | some x =>
      obtain ⟨i, h1, _⟩ := (h.kind key x).1 hs
      exact absurd (List.mem_of_getElem? h1) (keyIdx_none.1 hk)
  | some i =>
    have h1 := keyIdx_some hk
    have hi := (List.getElem?_eq_some_iff.1 h1).1
    have h2 : rt.kinds[i]? = some (rt.kinds[i]'(by rw [h.klen]; exact hi)) := List.getElem?_eq_getElem _
    show _ = rt.kinds[i]?
    rw [h2]
    exact (h.kind key _).2 ⟨i, h1, h2⟩
theorem Both.kind_none (h : Both st rt) (key : ByteArray) : st.kind key = none ↔ keyIdx rt.keys key = none := by
  rw [h.kind_at key]
  cases hk : keyIdx rt.keys key with
  | none => simp
  | some i =>
    have hi := (List.getElem?_eq_some_iff.1 (keyIdx_some hk)).1
    have h2 : rt.kinds[i]? = some (rt.kinds[i]'(by rw [h.klen]; exact hi)) := List.getElem?_eq_getElem _
    simp [h2]
theorem Both.setErr (h : Both st rt) (id : Int) (key : ByteArray) (v : ValT) : setErr st id key v = rsetErr rt id key v := by
  unfold Go.Proofs.YtnplmembdfklcaaGreatDoor.setErr rsetErr
  rw [h.kind_at key, h.keys]
  cases hk : keyIdx rt.keys key with
  | none => rfl
  | some i =>
    have hi := (List.getElem?_eq_some_iff.1 (keyIdx_some hk)).1
    have h2 : rt.kinds[i]? = some (rt.kinds[i]'(by rw [h.klen]; exact hi)) := List.getElem?_eq_getElem _
    simp only [Option.bind_some, h2, Option.some.injEq]
theorem Both.kept (h : Both st rt) (id : Int) (k : ByteArray) : st.val id k = (keptIdx rt.l id k).bind fun i => rt.l[i]?.map (·.v) := by
  cases hk : keptIdx rt.l id k with
  | none =>
    cases hs : st.val id k with
    | none => rfl
    | some v =>
      obtain ⟨p, hp, h1, h2, _⟩ := (h.val id k v).1 hs
      exact absurd ⟨h1, h2⟩ (keptIdx_none.1 hk p hp)
  | some i =>
    obtain ⟨hi, h1, h2⟩ := keptIdx_lt hk
    show _ = rt.l[i]?.map (·.v)
    rw [List.getElem?_eq_getElem hi]
    exact (h.val id k _).2 ⟨_, List.getElem_mem hi, h1, h2, rfl⟩
theorem Both.kept_none (h : Both st rt) (id : Int) (k : ByteArray) : st.val id k = none ↔ keptIdx rt.l id k = none := by
  rw [h.kept id k]
  cases hk : keptIdx rt.l id k with
  | none => simp
  | some i =>
    obtain ⟨hi, _, _⟩ := keptIdx_lt hk
    simp [List.getElem?_eq_getElem hi]
theorem flat_len_const {α β : Type} (c : Nat) (f : α → List β) (hf : ∀ a, (f a).length = c) (l : List α) : (l.flatMap f).length = l.length * c := by
  induction l with
  | nil => simp
  | cons a l ih => rw [List.flatMap_cons, List.length_append, hf, ih, List.length_cons, Nat.add_mul]; omega
theorem Both.small (h : Both st rt) : rt.l.length ≤ 4194304 := by
  have h1 := nodup_sub (m := (List.range 65536).flatMap fun (i : Nat) => rt.keys.map fun k => ((i : Int), k)) h.one (fun x hx => by
    obtain ⟨p, hp, rfl⟩ := List.mem_map.1 hx
    have hv := (h.val p.id p.key p.v).2 ⟨p, hp, rfl, rfl, rfl⟩
    have hid := (h.sok p.id p.key p.v hv).2
    have hk := h.kok.of p.id p.key p.v hv
    rw [h.keys] at hk
    refine List.mem_flatMap.2 ⟨p.id.toNat, List.mem_range.2 (by omega), List.mem_map.2 ⟨p.key, hk, ?_⟩⟩
    show ((p.id.toNat : Int), p.key) = (p.id, p.key)
    rw [Int.toNat_of_nonneg hid.1])
  rw [List.length_map, flat_len_const rt.keys.length _ (fun a => List.length_map ..), List.length_range] at h1
  have h2 := h.kok.len
  rw [h.keys] at h2
  have h3 : 65536 * rt.keys.length ≤ 65536 * 64 := Nat.mul_le_mul_left _ h2
  omega
theorem Both.okv (h : Both st rt) : ∀ p ∈ rt.l, ValOK p.v := fun p hp => (h.sok p.id p.key p.v ((h.val p.id p.key p.v).2 ⟨p, hp, rfl, rfl, rfl⟩)).1

theorem set_ok {st : StT} (hok : StOK st) {id : Int} {key : ByteArray} {v : ValT} (hn : (Lit.int .i64 v.num).wf = true) (he : setErr st id key v = 0) : StOK (setSt st id key v) := by
  intro i k u hu
  unfold setSt at hu
  simp only [] at hu
  unfold setErr at he
  split at he
  · cases he
  rename_i h1
  split at he
  · cases he
  split at he
  · cases he
  split at he
  · cases he
  rename_i h4
  unfold longB at h4
  simp only [Bool.or_eq_true, decide_eq_true_eq, List.any_eq_true, not_or, not_exists, not_and] at h4
  split at hu
  · cases hu
    have hw := (Lit.wf_int_iff .i64 v.num).1 hn
    have e1 : IntKind.i64.min = -9223372036854775808 := by decide
    have e2 : IntKind.i64.max = 9223372036854775807 := by decide
    rename_i hik
    obtain ⟨rfl, rfl⟩ := hik
    exact ⟨⟨by omega, by omega, by omega, by omega, fun s hs => by have := h4.2 s hs; omega⟩, by omega, by omega⟩
  · exact hok i k u hu
theorem set_err_parts {st : StT} {id : Int} {key : ByteArray} {v : ValT} (he : setErr st id key v = 0) : nameB key = true ∧ (∀ x, st.kind key = some x → x = v.kind) ∧ (st.kind key = none → st.keys.length < 64) := by
  unfold setErr at he
  split at he
  · cases he
  split at he
  · cases he
  rename_i h2
  split at he
  · cases he
  split at he
  · cases he
  refine ⟨by simpa using h2, fun x hx => ?_, fun hn => ?_⟩
  · rw [hx] at he
    simp only [] at he
    split at he
    · assumption
    · cases he
  · rw [hn] at he
    simp only [] at he
    split at he
    · cases he
    · omega

theorem set_mem {l : List KeptT} {i : Nat} (hi : i < l.length) {a p : KeptT} (hone : (l.map tag).Nodup) (ht : tag l[i] = tag a) : p ∈ l.set i a ↔ p = a ∨ (p ∈ l ∧ tag p ≠ tag a) := by
  constructor
  · intro hp
    obtain ⟨j, hj, e⟩ := List.mem_iff_getElem.1 hp
    rw [List.length_set] at hj
    rw [List.getElem_set] at e
    split at e
    · exact .inl e.symm
    · rename_i hij
      right
      subst e
      refine ⟨List.getElem_mem hj, fun e2 => hij ?_⟩
      refine nodup_inj hone (i := i) (j := j) (by rw [List.length_map]; exact hi) (by rw [List.length_map]; exact hj) ?_
      rw [List.getElem_map, List.getElem_map, ht, e2]
  · rintro (rfl | ⟨hp, hne⟩)
    · exact List.mem_set hi _
    · obtain ⟨j, hj, e⟩ := List.mem_iff_getElem.1 hp
      refine List.mem_iff_getElem.2 ⟨j, by rw [List.length_set]; exact hj, ?_⟩
      rw [List.getElem_set_ne (fun e2 => hne (by subst e2; rw [← e, ht]))]
      exact e
theorem Both.set (h : Both st rt) {id : Int} {key : ByteArray} {v : ValT} (hn : (Lit.int .i64 v.num).wf = true) (he : YtnplmembdfklcaaGreatDoor.setErr st id key v = 0) (sl : Value) : Both (setSt st id key v) (rsetSt rt id key v sl) := by
  obtain ⟨hname, hkd, hroom⟩ := set_err_parts he
  have hkn := h.kind_none key
  have hkeys : (setSt st id key v).keys = (rsetSt rt id key v sl).keys := by
    unfold setSt rsetSt
    simp only []
    cases hk : keyIdx rt.keys key with
    | none => rw [if_pos (hkn.2 hk), h.keys]
    | some i => rw [if_neg (fun e => by have := hkn.1 e; rw [hk] at this; cases this), h.keys]
  have hnd : (rsetSt rt id key v sl).keys.Nodup := by
    unfold rsetSt
    simp only []
    cases hk : keyIdx rt.keys key with
    | none =>
      simp only []
      rw [List.nodup_append]
      exact ⟨h.nd, List.nodup_cons.2 ⟨by simp, List.nodup_nil⟩, fun a ha b hb e => by
        rw [List.mem_singleton] at hb
        subst hb e
        exact keyIdx_none.1 hk ha⟩
    | some i => exact h.nd
  refine ⟨hkeys, hnd, ?_, fun k x => ?_, fun i k u => ?_, ?_, ⟨?_, fun k hk => ?_, fun i k u hu => ?_⟩, set_ok h.sok hn he, h.dirs, h.dok, h.dlen⟩
  · unfold rsetSt
    simp only []
    cases hk : keyIdx rt.keys key with
    | none => simp [h.klen]
    | some i => exact h.klen
  · show (if k = key then some v.kind else st.kind k) = some x ↔ _
    unfold rsetSt
    simp only []
    cases hk : keyIdx rt.keys key with
    | none =>
      have hno := keyIdx_none.1 hk
      have hkl := h.klen
      simp only []
      by_cases e : k = key
      · subst e
        rw [if_pos rfl]
        constructor
        · intro e
          refine ⟨rt.keys.length, by simp, ?_⟩
          rw [← hkl]
          simpa using e
        · rintro ⟨i, h1, h2⟩
          have hi : i = rt.keys.length := by
            by_cases hlt : i < rt.keys.length
            · rw [List.getElem?_append_left hlt] at h1
              exact absurd (List.mem_of_getElem? h1) hno
            · have := (List.getElem?_eq_some_iff.1 h1).1
              rw [List.length_append, List.length_singleton] at this
              omega
          subst hi
          rw [← hkl] at h2
          simpa using h2
      · rw [if_neg e, h.kind k x]
        constructor
        · rintro ⟨i, h1, h2⟩
          have hl1 := (List.getElem?_eq_some_iff.1 h1).1
          have hl2 := (List.getElem?_eq_some_iff.1 h2).1
          exact ⟨i, by rw [List.getElem?_append_left hl1]; exact h1, by rw [List.getElem?_append_left hl2]; exact h2⟩
        · rintro ⟨i, h1, h2⟩
          by_cases hlt : i < rt.keys.length
          · rw [List.getElem?_append_left hlt] at h1
            rw [List.getElem?_append_left (by omega)] at h2
            exact ⟨i, h1, h2⟩
          · rw [List.getElem?_append_right (by omega)] at h1
            have := (List.getElem?_eq_some_iff.1 h1)
            obtain ⟨h3, h4⟩ := this
            simp at h3
            have h5 : i - rt.keys.length = 0 := by omega
            simp [h5] at h1
            exact absurd h1.symm e
    | some i =>
      simp only []
      by_cases e : k = key
      · subst e
        rw [if_pos rfl]
        have h1 := keyIdx_some hk
        have hi := (List.getElem?_eq_some_iff.1 h1).1
        have h2 : rt.kinds[i]? = some (rt.kinds[i]'(by rw [h.klen]; exact hi)) := List.getElem?_eq_getElem _
        have h3 := hkd _ ((h.kind k _).2 ⟨i, h1, h2⟩)
        rw [h3] at h2
        constructor
        · intro e
          cases e
          exact ⟨i, h1, h2⟩
        · rintro ⟨j, h4, h5⟩
          have := nodup_at h.nd h1 h4
          subst this
          rw [h2] at h5
          exact h5
      · rw [if_neg e, h.kind k x]
  · show (if i = id ∧ k = key then some v else st.val i k) = some u ↔ _
    unfold rsetSt
    simp only []
    cases hk : keptIdx rt.l id key with
    | none =>
      have hno := keptIdx_none.1 hk
      simp only [List.mem_append, List.mem_singleton]
      by_cases e : i = id ∧ k = key
      · obtain ⟨rfl, rfl⟩ := e
        rw [if_pos ⟨rfl, rfl⟩]
        constructor
        · intro e; cases e
          exact ⟨_, .inr rfl, rfl, rfl, rfl⟩
        · rintro ⟨p, hp | hp, h1, h2, h3⟩
          · exact absurd ⟨h1, h2⟩ (hno p hp)
          · subst hp; rw [← h3]
      · rw [if_neg e, h.val i k u]
        constructor
        · rintro ⟨p, hp, h1⟩
          exact ⟨p, .inl hp, h1⟩
        · rintro ⟨p, hp | hp, h1, h2, h3⟩
          · exact ⟨p, hp, h1, h2, h3⟩
          · subst hp
            exact absurd ⟨h1.symm, h2.symm⟩ e
    | some j =>
      obtain ⟨hj, hj1, hj2⟩ := keptIdx_lt hk
      have hm : ∀ p, p ∈ rt.l.set j ⟨id, key, v, sl⟩ ↔ p = ⟨id, key, v, sl⟩ ∨ (p ∈ rt.l ∧ tag p ≠ (id, key)) := fun p => set_mem hj h.one (by show (_, _) = (_, _); rw [hj1, hj2])
      by_cases e : i = id ∧ k = key
      · obtain ⟨rfl, rfl⟩ := e
        rw [if_pos ⟨rfl, rfl⟩]
        constructor
        · intro e; cases e
          exact ⟨_, (hm _).2 (.inl rfl), rfl, rfl, rfl⟩
        · rintro ⟨p, hp, h1, h2, h3⟩
          rcases (hm p).1 hp with hp | ⟨hp, hne⟩
          · subst hp; rw [← h3]
          · exact absurd (by show (_, _) = (_, _); rw [h1, h2]) hne
      · rw [if_neg e, h.val i k u]
        constructor
        · rintro ⟨p, hp, h1, h2, h3⟩
          refine ⟨p, (hm p).2 (.inr ⟨hp, fun e2 => e ?_⟩), h1, h2, h3⟩
          have e3 : (p.id, p.key) = (id, key) := e2
          injection e3 with e4 e5
          exact ⟨h1.symm.trans e4, h2.symm.trans e5⟩
        · rintro ⟨p, hp, h1, h2, h3⟩
          rcases (hm p).1 hp with hp | ⟨hp, hne⟩
          · subst hp; exact absurd ⟨h1.symm, h2.symm⟩ e
          · exact ⟨p, hp, h1, h2, h3⟩
  · unfold rsetSt
    simp only []
    cases hk : keptIdx rt.l id key with
    | none =>
      simp only [List.map_append, List.map_cons, List.map_nil]
      rw [List.nodup_append]
      refine ⟨h.one, List.nodup_cons.2 ⟨by simp, List.nodup_nil⟩, fun a ha b hb e => ?_⟩
      rw [List.mem_singleton] at hb
      subst hb e
      obtain ⟨p, hp, e2⟩ := List.mem_map.1 ha
      have e3 : (p.id, p.key) = (id, key) := e2
      injection e3 with e4 e5
      exact keptIdx_none.1 hk p hp ⟨e4, e5⟩
    | some j =>
      obtain ⟨hj, hj1, hj2⟩ := keptIdx_lt hk
      simp only []
      rw [List.map_set]
      have e : tag (⟨id, key, v, sl⟩ : KeptT) = (rt.l.map tag)[j]'(by rw [List.length_map]; exact hj) := by
        rw [List.getElem_map]
        show (id, key) = (_, _)
        rw [hj1, hj2]
      rw [e, List.set_getElem_self]
      exact h.one
  · show (if st.kind key = none then st.keys ++ [key] else st.keys).length ≤ 64
    split
    · rename_i e
      have := hroom e
      rw [List.length_append, List.length_singleton]
      omega
    · exact h.kok.len
  · have hk' : k ∈ (if st.kind key = none then st.keys ++ [key] else st.keys) := hk
    split at hk'
    · rcases List.mem_append.1 hk' with h1 | h1
      · exact h.kok.name k h1
      · rw [List.mem_singleton] at h1
        subst h1
        exact hname
    · exact h.kok.name k hk'
  · have hu' : (if i = id ∧ k = key then some v else st.val i k) = some u := hu
    show k ∈ (if st.kind key = none then st.keys ++ [key] else st.keys)
    split at hu'
    · rename_i e
      obtain ⟨rfl, rfl⟩ := e
      split
      · simp
      · rename_i e2
        rw [h.keys]
        by_cases hm : k ∈ rt.keys
        · exact hm
        · exact absurd (hkn.2 (keyIdx_none.2 hm)) e2
    · have h1 := h.kok.of i k u hu'
      split
      · exact List.mem_append_left _ h1
      · exact h1
end
end Go.Proofs.YtnplmembdfklcaaGreatDoor
namespace Go.Proofs.YtnplmembdfklcaaGreatDoor
set_option linter.unusedVariables false
set_option linter.unusedSimpArgs false
open Go.RowKit Go.Maps

theorem foldPut_mem (c : KeptT → Prop) [DecidablePred c] : ∀ (l : List KeptT) (o : List Int) (x : Int), x ∈ l.foldl (fun o p => if c p then put1 o p.id else o) o ↔ x ∈ o ∨ ∃ p ∈ l, c p ∧ p.id = x
  | [], o, x => by simp
  | p :: l, o, x => by
    rw [List.foldl_cons, foldPut_mem c l]
    by_cases h : c p
    · rw [if_pos h, mem_put1]
      constructor
      · rintro ((h1 | h1) | ⟨q, hq, h1⟩)
        · exact .inr ⟨p, by simp, h, h1.symm⟩
        · exact .inl h1
        · exact .inr ⟨q, by simp [hq], h1⟩
      · rintro (h1 | ⟨q, hq, h1, h2⟩)
        · exact .inl (.inr h1)
        · rcases List.mem_cons.1 hq with e | hq
          · subst e; exact .inl (.inl h2.symm)
          · exact .inr ⟨q, hq, h1, h2⟩
    · rw [if_neg h]
      constructor
      · rintro (h1 | ⟨q, hq, h1⟩)
        · exact .inl h1
        · exact .inr ⟨q, by simp [hq], h1⟩
      · rintro (h1 | ⟨q, hq, h1, h2⟩)
        · exact .inl h1
        · rcases List.mem_cons.1 hq with e | hq
          · subst e; exact absurd h1 h
          · exact .inr ⟨q, hq, h1, h2⟩
theorem foldPut_rising (c : KeptT → Prop) [DecidablePred c] : ∀ (l : List KeptT) (o : List Int), Rising o → Rising (l.foldl (fun o p => if c p then put1 o p.id else o) o)
  | [], o, h => h
  | p :: l, o, h => by
    rw [List.foldl_cons]
    refine foldPut_rising c l _ ?_
    split
    · exact put1_rising h
    · exact h
theorem foldPutS_mem (c : KeptT → Prop) [DecidablePred c] : ∀ (l : List KeptT) (o : List ByteArray) (x : ByteArray), x ∈ l.foldl (fun o p => if c p then putS o p.key else o) o ↔ x ∈ o ∨ ∃ p ∈ l, c p ∧ p.key = x
  | [], o, x => by simp
  | p :: l, o, x => by
    rw [List.foldl_cons, foldPutS_mem c l]
    by_cases h : c p
    · rw [if_pos h, mem_putS]
      constructor
      · rintro ((h1 | h1) | ⟨q, hq, h1⟩)
        · exact .inr ⟨p, by simp, h, h1.symm⟩
        · exact .inl h1
        · exact .inr ⟨q, by simp [hq], h1⟩
      · rintro (h1 | ⟨q, hq, h1, h2⟩)
        · exact .inl (.inr h1)
        · rcases List.mem_cons.1 hq with e | hq
          · subst e; exact .inl (.inl h2.symm)
          · exact .inr ⟨q, hq, h1, h2⟩
    · rw [if_neg h]
      constructor
      · rintro (h1 | ⟨q, hq, h1⟩)
        · exact .inl h1
        · exact .inr ⟨q, by simp [hq], h1⟩
      · rintro (h1 | ⟨q, hq, h1, h2⟩)
        · exact .inl h1
        · rcases List.mem_cons.1 hq with e | hq
          · subst e; exact absurd h1 h
          · exact .inr ⟨q, hq, h1, h2⟩
theorem rsearch_mem (l : List KeptT) (how : Int) (key text : ByteArray) (x : Int) : x ∈ rsearch l how key text ↔ ∃ p ∈ l, (p.key = key ∧ hitV how text p.v = true) ∧ p.id = x := by
  unfold rsearch
  rw [foldPut_mem (fun p => p.key = key ∧ hitV how text p.v = true)]
  simp
theorem rsearch_rising (l : List KeptT) (how : Int) (key text : ByteArray) : Rising (rsearch l how key text) :=
  foldPut_rising (fun p => p.key = key ∧ hitV how text p.v = true) l [] List.Pairwise.nil
theorem rids_mem (l : List KeptT) (x : Int) : x ∈ rids l ↔ ∃ p ∈ l, p.id = x := by
  have h := foldPut_mem (fun _ => True) l [] x
  simp only [if_true, true_and, List.not_mem_nil, false_or] at h
  exact h
theorem rschema_mem (l : List KeptT) (id : Int) (k : ByteArray) : k ∈ rschema l id ↔ ∃ p ∈ l, p.id = id ∧ p.key = k := by
  unfold rschema
  rw [foldPutS_mem (fun p => p.id = id)]
  simp
theorem rschema_rise (l : List KeptT) (id : Int) : RisingS (rschema l id) := by
  have := rschema_rising l id l.length
  rwa [List.take_length] at this

section
variable {st : StT} {rt : RefT}
theorem Both.has_val (h : Both st rt) (id : Int) (k : ByteArray) : st.val id k ≠ none ↔ ∃ p ∈ rt.l, p.id = id ∧ p.key = k := by
  cases hv : st.val id k with
  | none =>
    constructor
    · intro e; exact absurd rfl e
    · rintro ⟨p, hp, h1, h2⟩
      have := (h.val id k p.v).2 ⟨p, hp, h1, h2, rfl⟩
      rw [hv] at this
      cases this
  | some v =>
    obtain ⟨p, hp, h1, h2, _⟩ := (h.val id k v).1 hv
    exact ⟨fun _ => ⟨p, hp, h1, h2⟩, fun _ => by simp⟩
theorem Both.schema (h : Both st rt) {id : Int} {l : List ByteArray} (hr : RisingS l) (hm : ∀ k, k ∈ l ↔ st.val id k ≠ none) : l = rschema rt.l id :=
  risingS_ext hr (rschema_rise rt.l id) fun k => by rw [hm k, h.has_val, rschema_mem]
theorem Both.search (h : Both st rt) {how : Int} {key p : ByteArray} {l : List Int} (hr : Rising l) (hm : ∀ id, id ∈ l ↔ hitB st how key p id = true) : l = rsearch rt.l how key p :=
  rising_ext hr (rsearch_rising rt.l how key p) fun id => by
    rw [hm id, rsearch_mem]
    unfold hitB
    cases hv : st.val id key with
    | none =>
      constructor
      · intro e; cases e
      · rintro ⟨q, hq, ⟨h1, _⟩, h2⟩
        exact absurd hv ((h.has_val id key).2 ⟨q, hq, h2, h1⟩)
    | some v =>
      simp only []
      constructor
      · intro e
        obtain ⟨q, hq, h1, h2, h3⟩ := (h.val id key v).1 hv
        exact ⟨q, hq, ⟨h2, by rw [h3]; exact e⟩, h1⟩
      · rintro ⟨q, hq, ⟨h1, h2⟩, h3⟩
        have := (h.val id key q.v).2 ⟨q, hq, h3, h1, rfl⟩
        rw [hv] at this
        rw [Option.some.inj this]
        exact h2
theorem Both.unset (h : Both st rt) (id : Int) (key : ByteArray) : Both (if st.val id key = none then st else unsetSt st id key) { rt with l := runset rt.l id key } := by
  have hkn := h.kept_none id key
  unfold runset
  cases hk : keptIdx rt.l id key with
  | none =>
    rw [if_pos (hkn.2 hk)]
    exact h
  | some i =>
    rw [if_neg (fun e => by have := hkn.1 e; rw [hk] at this; cases this)]
    obtain ⟨hi, h1, h2⟩ := keptIdx_lt hk
    have hm : ∀ p, p ∈ rt.l.take i ++ rt.l.drop (i + 1) ↔ p ∈ rt.l ∧ ¬ (p.id = id ∧ p.key = key) := fun p => by
      rw [← List.eraseIdx_eq_take_drop_succ, List.mem_eraseIdx_iff_getElem?]
      constructor
      · rintro ⟨j, hj, e⟩
        refine ⟨List.mem_of_getElem? e, fun ⟨e1, e2⟩ => hj ?_⟩
        obtain ⟨hjl, e3⟩ := List.getElem?_eq_some_iff.1 e
        refine nodup_inj h.one (by rw [List.length_map]; exact hjl) (by rw [List.length_map]; exact hi) ?_
        rw [List.getElem_map, List.getElem_map, e3]
        show (p.id, p.key) = (_, _)
        rw [e1, e2, h1, h2]
      · rintro ⟨hp, hne⟩
        obtain ⟨j, hj, e⟩ := List.mem_iff_getElem.1 hp
        refine ⟨j, fun e2 => hne ?_, by rw [List.getElem?_eq_getElem hj, e]⟩
        subst e2
        rw [← e]
        exact ⟨h1, h2⟩
    refine ⟨h.keys, h.nd, h.klen, h.kind, fun x k v => ?_, ?_, ⟨h.kok.len, h.kok.name, fun x k v hv => ?_⟩, fun x k v hv => ?_, h.dirs, h.dok, h.dlen⟩
    · show (if x = id ∧ k = key then none else st.val x k) = some v ↔ _
      by_cases e : x = id ∧ k = key
      · rw [if_pos e]
        constructor
        · intro e; cases e
        · rintro ⟨p, hp, e1, e2, _⟩
          exact absurd ⟨e1.trans e.1, e2.trans e.2⟩ ((hm p).1 hp).2
      · rw [if_neg e, h.val x k v]
        constructor
        · rintro ⟨p, hp, e1, e2, e3⟩
          exact ⟨p, (hm p).2 ⟨hp, fun e4 => e ⟨e1.symm.trans e4.1, e2.symm.trans e4.2⟩⟩, e1, e2, e3⟩
        · rintro ⟨p, hp, e1, e2, e3⟩
          exact ⟨p, ((hm p).1 hp).1, e1, e2, e3⟩
    · show ((rt.l.take i ++ rt.l.drop (i + 1)).map tag).Nodup
      rw [← List.eraseIdx_eq_take_drop_succ]
      exact List.Nodup.sublist ((List.eraseIdx_sublist rt.l i).map tag) h.one
    · have hv' : (if x = id ∧ k = key then none else st.val x k) = some v := hv
      split at hv'
      · cases hv'
      · exact h.kok.of x k v hv'
    · have hv' : (if x = id ∧ k = key then none else st.val x k) = some v := hv
      split at hv'
      · cases hv'
      · exact h.sok x k v hv'

/-! ### how many unlike schemas -/
theorem cntG_list {α : Type} (l : List α) : ∃ d : List α, d.Nodup ∧ (∀ x, x ∈ d ↔ x ∈ l) ∧ d.length = cntG l := by
  induction l with
  | nil => exact ⟨[], List.nodup_nil, fun x => Iff.rfl, rfl⟩
  | cons x l ih =>
    obtain ⟨d, h1, h2, h3⟩ := ih
    by_cases e : x ∈ l
    · refine ⟨d, h1, fun y => ?_, by rw [cntG, if_pos e, h3]; rfl⟩
      rw [h2 y, List.mem_cons]
      constructor
      · exact .inr
      · rintro (h | h)
        · subst h; exact e
        · exact h
    · refine ⟨x :: d, List.nodup_cons.2 ⟨fun h => e ((h2 x).1 h), h1⟩, fun y => ?_, by rw [cntG, if_neg e, List.length_cons, h3]⟩
      rw [List.mem_cons, List.mem_cons, h2 y]
theorem cntG_same {α : Type} {l m : List α} (h : ∀ x, x ∈ l ↔ x ∈ m) : cntG l = cntG m := by
  classical
  obtain ⟨d, d1, d2, d3⟩ := cntG_list l
  obtain ⟨e, e1, e2, e3⟩ := cntG_list m
  rw [← d3, ← e3]
  refine Nat.le_antisymm (nodup_sub d1 fun x hx => (e2 x).2 ((h x).1 ((d2 x).1 hx))) (nodup_sub e1 fun x hx => (d2 x).2 ((h x).2 ((e2 x).1 hx)))
theorem cntG_map {α β : Type} (f : α → β) : ∀ (l : List α), (∀ x ∈ l, ∀ y ∈ l, f x = f y → x = y) → cntG (l.map f) = cntG l
  | [], _ => rfl
  | x :: l, h => by
    rw [List.map_cons, cntG, cntG, cntG_map f l (fun a ha b hb => h a (by simp [ha]) b (by simp [hb]))]
    congr 1
    by_cases e : x ∈ l
    · rw [if_pos e, if_pos (List.mem_map_of_mem e)]
    · rw [if_neg e, if_neg (fun hm => by
        obtain ⟨y, hy, e2⟩ := List.mem_map.1 hm
        have := h y (by simp [hy]) x (by simp) e2
        subst this
        exact e hy)]
theorem cntR_eq : ∀ l : List (List ByteArray), cntR l = cntG l
  | [] => rfl
  | x :: l => by rw [cntR, cntG, cntR_eq l]; congr
theorem no_space {k : ByteArray} (h : nameB k = true) : (32 : UInt8) ∉ bs k := by
  intro hm
  rw [nameB_eq] at h
  cases hb : bs k with
  | nil => rw [hb] at hm; cases hm
  | cons c r =>
    rw [hb] at h
    simp only [Bool.and_eq_true] at h
    have h2 := h.2
    unfold allBy at h2
    rw [List.all_eq_true] at h2
    have h3 := h2 32 hm
    have h4 : keyR (32 : UInt8).toNat = false := by decide +kernel
    rw [h4] at h3
    cases h3
theorem Both.schemas (h : Both st rt) {ids : List Int} (hids : ∀ id, id ∈ ids ↔ ∃ k, st.val id k ≠ none) : cntG (jn st ids) = rschemas rt.l := by
  have hsch : ∀ id, schT st id = rschema rt.l id := fun id => schT_eq ⟨rschema_rise rt.l id, fun k => by rw [rschema_mem, h.has_val]⟩
  have hid : ∀ id, id ∈ ids ↔ id ∈ rids rt.l := fun id => by
    rw [hids id, rids_mem]
    constructor
    · rintro ⟨k, hk⟩
      obtain ⟨p, hp, h1, _⟩ := (h.has_val id k).1 hk
      exact ⟨p, hp, h1⟩
    · rintro ⟨p, hp, h1⟩
      exact ⟨p.key, (h.has_val id p.key).2 ⟨p, hp, h1, rfl⟩⟩
  have e1 : jn st ids = (ids.map (rschema rt.l)).map joinT := by
    unfold jn
    rw [List.map_map]
    refine List.map_congr_left fun id _ => ?_
    show joinT (schT st id) = joinT (rschema rt.l id)
    rw [hsch]
  have hne : ∀ x ∈ ids.map (rschema rt.l), x ≠ [] ∧ ∀ k ∈ x, (32 : UInt8) ∉ bs k := fun x hx => by
    obtain ⟨id, hi, rfl⟩ := List.mem_map.1 hx
    constructor
    · intro e
      obtain ⟨k, hk⟩ := (hids id).1 hi
      have := (rschema_mem rt.l id k).2 ((h.has_val id k).1 hk)
      rw [e] at this
      cases this
    · intro k hk
      have hv := (h.has_val id k).2 ((rschema_mem rt.l id k).1 hk)
      cases hx : st.val id k with
      | none => exact absurd hx hv
      | some v => exact no_space (h.kok.name k (h.kok.of id k v hx))
  rw [e1, cntG_map joinT _ (fun x hx y hy e => joinT_inj (hne x hx).1 (hne y hy).1 (hne x hx).2 (hne y hy).2 e)]
  unfold rschemas unlike
  rw [cntR_eq]
  refine cntG_same fun x => ?_
  rw [List.mem_reverse, List.mem_map, List.mem_map]
  constructor
  · rintro ⟨id, hi, e⟩; exact ⟨id, (hid id).1 hi, e⟩
  · rintro ⟨id, hi, e⟩; exact ⟨id, (hid id).2 hi, e⟩
end
end Go.Proofs.YtnplmembdfklcaaGreatDoor
namespace Go.Proofs.YtnplmembdfklcaaGreatDoor
set_option linter.unusedVariables false
set_option linter.unusedSimpArgs false
open Go.RowKit Go.Maps

def dtexts (ds : DirL) : List ByteArray := ds.map fun d => mkB d.1
theorem mkB_inj {a b : List UInt8} (h : mkB a = mkB b) : a = b := by
  have := congrArg bs h
  exact this
theorem dtexts_idx (ds : DirL) (x : List UInt8) : keyIdx (dtexts ds) (mkB x) = idxD ds x := by
  unfold keyIdx dtexts idxD
  rw [List.findIdx?_map]
  congr 1
  funext d
  show decide (mkB d.1 = mkB x) = decide (d.1 = x)
  by_cases e : d.1 = x
  · rw [e]; simp
  · rw [decide_eq_false e, decide_eq_false (fun h => e (mkB_inj h))]
theorem dtexts_idx' (ds : DirL) (p : ByteArray) : keyIdx (dtexts ds) p = idxD ds (bs p) := by
  rw [← dtexts_idx, mkB_bs]
theorem rrun_run : ∀ (l : List (List UInt8)) (ds : DirL) (u : Nat), rrun (dtexts ds) l = dtexts (runD ds u l).1
  | [], ds, u => rfl
  | x :: l, ds, u => by
    rw [show rrun (dtexts ds) (x :: l) = rrun (if keyIdx (dtexts ds) (mkB x) = none then dtexts ds ++ [mkB x] else dtexts ds) l from rfl, runD_cons, dtexts_idx]
    cases hi : idxD ds x with
    | some n =>
      rw [if_neg (by simp)]
      exact rrun_run l ds n
    | none =>
      rw [if_pos rfl]
      have := rrun_run l (ds ++ [(x, u)]) ds.length
      rw [← this]
      unfold dtexts
      rw [List.map_append]
      rfl
theorem last_slash : ∀ (a b q r : List UInt8), (47 : UInt8) ∉ q → (47 : UInt8) ∉ r → a ++ 47 :: q = b ++ 47 :: r → a = b ∧ q = r
  | [], [], q, r, _, _, h => ⟨rfl, by simpa using h⟩
  | [], y :: b, q, r, hq, _, h => by
    simp only [List.nil_append, List.cons_append, List.cons.injEq] at h
    exact absurd (by rw [h.2]; simp) hq
  | x :: a, [], q, r, _, hr, h => by
    simp only [List.nil_append, List.cons_append, List.cons.injEq] at h
    exact absurd (by rw [← h.2]; simp) hr
  | x :: a, y :: b, q, r, hq, hr, h => by
    simp only [List.cons_append, List.cons.injEq] at h
    obtain ⟨h1, h2⟩ := last_slash a b q r hq hr h.2
    exact ⟨by rw [h.1, h1], h2⟩
theorem noRoot_of {x : List UInt8} (h : noRoot x ≠ []) : noRoot x = x := by
  unfold noRoot at *
  split
  · rename_i e; rw [if_pos e] at h; exact absurd rfl h
  · rfl
/-- Where a path has a number, the one that it is in has one. -/
theorem DirsOK.parent {ds : DirL} (h : DirsOK ds) {y q : List UInt8} (hy : y ≠ []) (hq : (47 : UInt8) ∉ q) {n : Nat} (hn : idxD ds (y ++ 47 :: q) = some n) : ∃ d u, ds[n]? = some d ∧ d.1 = y ++ 47 :: q ∧ d.2 = u ∧ idxD ds y = some u := by
  obtain ⟨d, hd, e⟩ := idxD_at hn
  have hn0 : n ≠ 0 := fun e0 => by
    subst e0
    rw [h.root] at hd
    cases hd
    have : ([47] : List UInt8) = y ++ 47 :: q := e
    cases y with
    | nil => exact hy rfl
    | cons a y =>
      have := congrArg List.length this
      simp at this
  obtain ⟨_, e1, part, he1, hp1, hp2, hp3⟩ := h.up n d hd hn0
  rw [e] at hp3
  obtain ⟨h1, h2⟩ := last_slash _ _ _ _ hq hp2 hp3
  have h3 : noRoot e1.1 = e1.1 := noRoot_of (by rw [← h1]; exact hy)
  refine ⟨d, d.2, hd, e, rfl, ?_⟩
  rw [h1, h3]
  exact h.one _ _ he1
theorem unknown_all {ds : DirL} (h : DirsOK ds) : ∀ (qs : List (List UInt8)) (x : List UInt8), x ≠ [] → (∀ q ∈ qs, (47 : UInt8) ∉ q) → idxD ds x = none → ∀ y ∈ upsFrom x qs, idxD ds y = none
  | [], x, _, _, _, y, hy => by cases hy
  | q :: qs, x, hx, hq, hn, y, hy => by
    have h1 : idxD ds (x ++ 47 :: q) = none := by
      cases hi : idxD ds (x ++ 47 :: q) with
      | none => rfl
      | some n =>
        obtain ⟨_, u, _, _, _, h2⟩ := h.parent hx (hq q (by simp)) hi
        rw [hn] at h2
        cases h2
    rcases List.mem_cons.1 hy with e | hy
    · rw [e]; exact h1
    · exact unknown_all h qs (x ++ 47 :: q) (by simp) (fun z hz => hq z (by simp [hz])) h1 y hy
theorem fresh_known {ds : DirL} (h : DirsOK ds) : ∀ (qs : List (List UInt8)) (a : List UInt8), (∀ q ∈ qs, (47 : UInt8) ∉ q) → freshN (dtexts ds) (upsFrom a qs) + knownD ds (upsFrom a qs) = qs.length
  | [], a, _ => rfl
  | q :: qs, a, hq => by
    have e : upsFrom a (q :: qs) = (a ++ 47 :: q) :: upsFrom (a ++ 47 :: q) qs := rfl
    rw [e]
    have ef : freshN (dtexts ds) ((a ++ 47 :: q) :: upsFrom (a ++ 47 :: q) qs) = freshN (dtexts ds) (upsFrom (a ++ 47 :: q) qs) + if (idxD ds (a ++ 47 :: q)).isNone then 1 else 0 := by
      unfold freshN
      rw [List.countP_cons, dtexts_idx]
    have ek : knownD ds ((a ++ 47 :: q) :: upsFrom (a ++ 47 :: q) qs) = if (idxD ds (a ++ 47 :: q)).isSome then knownD ds (upsFrom (a ++ 47 :: q) qs) + 1 else 0 := rfl
    rw [ef, ek, List.length_cons]
    cases hi : idxD ds (a ++ 47 :: q) with
    | some n =>
      have ih := fresh_known h qs (a ++ 47 :: q) (fun z hz => hq z (by simp [hz]))
      simp only [Option.isNone_some, Option.isSome_some, Bool.false_eq_true, if_false, if_true]
      omega
    | none =>
      have hall := unknown_all h qs (a ++ 47 :: q) (by simp) (fun z hz => hq z (by simp [hz])) hi
      have hf : freshN (dtexts ds) (upsFrom (a ++ 47 :: q) qs) = qs.length := by
        unfold freshN
        rw [List.countP_eq_length.2 (fun y hy => by rw [dtexts_idx, hall y hy]; rfl), upsFrom_len]
      simp only [Option.isNone_none, Option.isSome_none, Bool.false_eq_true, if_false, if_true]
      omega
theorem dir_err {ds : DirL} (h : DirsOK ds) (p : ByteArray) : rdirErr (dtexts ds) p = dirErr ds p := by
  unfold rdirErr dirErr
  cases hu : upsL p with
  | none => rfl
  | some l =>
    simp only []
    have hl : (dtexts ds).length = ds.length := List.length_map ..
    have hk := knownD_le ds l
    have e : freshN (dtexts ds) l + knownD ds l = l.length := by
      rcases upsL_some hu with ⟨_, rfl⟩ | ⟨r, _, _, rfl, _, h4⟩
      · rfl
      · rw [fresh_known h _ _ (fun q hq => (h4 q hq).2), upsFrom_len]
    rw [hl]
    congr 1
    simp only [eq_iff_iff]
    omega

/-! ### paths -/
/-- Each directory's path is one. -/
def PathsOK (ds : DirL) : Prop := ∀ d ∈ ds, ∃ l, upsL (mkB d.1) = some l
theorem upsFrom_mem : ∀ (qs : List (List UInt8)) (a x : List UInt8), x ∈ upsFrom a qs → ∃ j, j < qs.length ∧ x = atAll a (qs.take (j + 1))
  | [], a, x, h => by cases h
  | q :: qs, a, x, h => by
    rcases List.mem_cons.1 h with e | h
    · exact ⟨0, by simp, by rw [e]; rfl⟩
    · obtain ⟨j, hj, e⟩ := upsFrom_mem qs _ x h
      exact ⟨j + 1, by simpa using hj, by rw [e]; rfl⟩
theorem upsFrom_get : ∀ (qs : List (List UInt8)) (a : List UInt8) (j : Nat), j < qs.length → (upsFrom a qs)[j]? = some (atAll a (qs.take (j + 1)))
  | q :: qs, a, 0, _ => rfl
  | q :: qs, a, j + 1, h => by
    show (upsFrom (a ++ 47 :: q) qs)[j]? = _
    rw [upsFrom_get qs _ j (by simpa using h)]
    rfl
theorem atAll_cons : ∀ (qs : List (List UInt8)), qs ≠ [] → ∃ r, atAll [] qs = 47 :: r
  | [], h => absurd rfl h
  | q :: qs, _ => by
    rw [show atAll [] (q :: qs) = atAll ([] ++ 47 :: q) qs from rfl, atAll_pre]
    exact ⟨q ++ atAll [] qs, by simp⟩
theorem split_atAll : ∀ (qs : List (List UInt8)) (r : List UInt8), qs ≠ [] → (∀ q ∈ qs, (47 : UInt8) ∉ q) → atAll [] qs = 47 :: r → splitC 47 r = qs
  | [], _, h, _, _ => absurd rfl h
  | [q], r, _, hq, e => by
    have e' : 47 :: q = 47 :: r := e
    injection e' with _ e'
    subst e'
    exact split_end 47 q (hq q (by simp))
  | q :: q2 :: qs, r, _, hq, e => by
    obtain ⟨r2, h2⟩ := atAll_cons (q2 :: qs) (by simp)
    have ih := split_atAll (q2 :: qs) r2 (by simp) (fun z hz => hq z (by simp [hz])) h2
    rw [show atAll [] (q :: q2 :: qs) = atAll ([] ++ 47 :: q) (q2 :: qs) from rfl, atAll_pre, h2] at e
    have e' : q ++ 47 :: r2 = r := by
      simpa using e
    rw [← e', split_app 47 q r2 (hq q (by simp)), ih]
/-- The paths that a path is in, itself one of them. -/
theorem upsL_pre {p : ByteArray} {qs : List (List UInt8)} {r : List UInt8} (hp : bs p = 47 :: r) (hne : bs p ≠ [47]) (hqs : splitC 47 r = qs) (hu : upsL p = some (upsFrom [] qs)) {j : Nat} (hj : j < qs.length) : upsL (mkB (atAll [] (qs.take (j + 1)))) = some (upsFrom [] (qs.take (j + 1))) := by
  have hu' := hu
  unfold upsL at hu'
  rw [if_neg hne, hp] at hu'
  by_cases hc : (47 : UInt8) = 47 ∧ p.size ≤ 200 ∧ cleanB (mkB r) = true ∧ (splitC 47 r).all okPart = true
  · obtain ⟨_, h2, h3, h4⟩ := hc
    have hq : ∀ q ∈ qs, (47 : UInt8) ∉ q := fun q hq => split_mem 47 r q (by rw [hqs]; exact hq)
    have htne : qs.take (j + 1) ≠ [] := fun e => by
      have := congrArg List.length e
      rw [List.length_take, List.length_nil] at this
      omega
    obtain ⟨r', hr'⟩ := atAll_cons (qs.take (j + 1)) htne
    have hsp := split_atAll _ r' htne (fun q hqm => hq q (List.mem_of_mem_take hqm)) hr'
    have hall : (qs.take (j + 1)).all okPart = true := by
      rw [hqs] at h4
      rw [List.all_eq_true] at h4 ⊢
      exact fun q hqm => h4 q (List.mem_of_mem_take hqm)
    have hpre : ∃ t, r = r' ++ t := by
      have e1 : atAll [] qs = 47 :: r := by rw [← hqs, atAll_split]; rfl
      have e2 : qs = qs.take (j + 1) ++ qs.drop (j + 1) := (List.take_append_drop _ _).symm
      have e3 : atAll [] qs = atAll (atAll [] (qs.take (j + 1))) (qs.drop (j + 1)) := by
        conv => lhs; rw [e2]
        unfold atAll
        rw [List.foldl_append]
      rw [e1, atAll_pre, hr'] at e3
      simp only [List.cons_append, List.cons.injEq, true_and] at e3
      exact ⟨_, e3⟩
    obtain ⟨t, ht⟩ := hpre
    have hcl : cleanB (mkB r') = true := by
      rw [clean_eq] at h3 ⊢
      rw [ht, List.all_append, Bool.and_eq_true] at h3
      exact h3.1
    have hsz : (mkB (47 :: r')).size ≤ 200 := by
      rw [← bs_len, bs_mkB]
      have h5 := bs_len p
      rw [hp, ht] at h5
      simp at h5
      simp
      omega
    have hnr : ¬ bs (mkB (47 :: r')) = [47] := fun e => by
      rw [bs_mkB] at e
      have e' : r' = [] := by simpa using e
      subst e'
      have h6 : splitC 47 ([] : List UInt8) = qs.take (j + 1) := hsp
      rw [← h6] at hall
      simp [splitC, okPart] at hall
    rw [hr']
    unfold upsL
    rw [if_neg hnr, bs_mkB]
    simp only [hsz, hcl, hsp, hall, and_self, if_true]
  · have hu2 : (if (47 : UInt8) = 47 ∧ p.size ≤ 200 ∧ cleanB (mkB r) = true ∧ (splitC 47 r).all okPart = true then some (upsFrom [] (splitC 47 r)) else none) = some (upsFrom [] qs) := hu'
    rw [if_neg hc] at hu2
    cases hu2
theorem runD_paths : ∀ (l : List (List UInt8)) (ds : DirL) (u : Nat), PathsOK ds → (∀ x ∈ l, ∃ m, upsL (mkB x) = some m) → PathsOK (runD ds u l).1
  | [], ds, u, h, _ => h
  | x :: l, ds, u, h, hl => by
    rw [runD_cons]
    cases hi : idxD ds x with
    | some n => exact runD_paths l ds n h fun y hy => hl y (by simp [hy])
    | none =>
      refine runD_paths l _ _ (fun d hd => ?_) fun y hy => hl y (by simp [hy])
      rcases List.mem_append.1 hd with hd | hd
      · exact h d hd
      · rw [List.mem_singleton] at hd
        subst hd
        exact hl x (by simp)
theorem dir_paths {ds : DirL} (h : PathsOK ds) (p : ByteArray) : PathsOK (dirRun ds p).1 := by
  unfold dirRun
  split
  · refine runD_paths _ ds 0 h fun x hx => ?_
    cases hu : upsL p with
    | none => rw [hu] at hx; cases hx
    | some l =>
      rw [hu] at hx
      have hx' : x ∈ l := hx
      rcases upsL_some hu with ⟨_, rfl⟩ | ⟨r, h1, h2, rfl, _, _⟩
      · cases hx'
      · obtain ⟨j, hj, rfl⟩ := upsFrom_mem _ _ x hx'
        exact ⟨_, upsL_pre h1 h2 rfl hu hj⟩
  · exact h
theorem path_up {ds : DirL} (h : DirsOK ds) (hp : PathsOK ds) {n : Nat} {d : List UInt8 × Nat} (hd : ds[n]? = some d) : rup (dtexts ds) (mkB d.1) = (d.2 : Int) := by
  obtain ⟨l, hl⟩ := hp d (List.mem_of_getElem? hd)
  unfold rup
  rw [hl]
  simp only []
  have h0 : ∀ (m : Nat) (e : List UInt8 × Nat), ds[m]? = some e → e.1 = [47] → m = 0 := fun m e he e1 => by
    have := h.one m e he
    rw [e1] at this
    have h2 := h.one 0 _ h.root
    rw [this] at h2
    exact Option.some.inj h2
  rcases upsL_some hl with ⟨h1, rfl⟩ | ⟨r, h1, h2, rfl, h3, h4⟩
  · rw [bs_mkB] at h1
    have hn := h0 n d hd h1
    subst hn
    rw [h.root] at hd
    cases hd
    rfl
  · rw [bs_mkB] at h1 h2
    have hn0 : n ≠ 0 := fun e => by
      subst e
      rw [h.root] at hd
      cases hd
      exact h2 rfl
    obtain ⟨hlt, e1, part, he1, hp1, hp2, hp3⟩ := h.up n d hd hn0
    have hq := split_mem 47 r
    obtain ⟨qs, hqs⟩ : ∃ qs, splitC 47 r = qs := ⟨_, rfl⟩
    rw [hqs] at hq ⊢
    have hne : qs ≠ [] := by rw [← hqs]; exact splitC_ne 47 r
    have hat : atAll [] qs = d.1 := by rw [← hqs, atAll_split, h1]; rfl
    rw [upsFrom_len]
    obtain ⟨qi, q, rfl⟩ : ∃ qi q, qs = qi ++ [q] := ⟨qs.dropLast, qs.getLast hne, (List.dropLast_concat_getLast hne).symm⟩
    rw [atAll_snoc, hp3] at hat
    obtain ⟨h5, h6⟩ := last_slash _ _ _ _ (hq q (by simp)) hp2 hat
    by_cases hlen : 1 < (qi ++ [q]).length
    · rw [if_pos hlen]
      rw [List.length_append, List.length_singleton] at hlen ⊢
      have hg := upsFrom_get (qi ++ [q]) [] (qi.length - 1) (by rw [List.length_append, List.length_singleton]; omega)
      have e3 : (qi ++ [q]).take (qi.length - 1 + 1) = qi := by
        rw [show qi.length - 1 + 1 = qi.length by omega, List.take_left]
      rw [e3] at hg
      have e4 : (upsFrom [] (qi ++ [q])).getD (qi.length + 1 - 2) [] = atAll [] qi := by
        rw [show qi.length + 1 - 2 = qi.length - 1 by omega]
        simp [List.getD, hg]
      rw [e4, dtexts_idx, h5]
      have hnn : noRoot e1.1 ≠ [] := by
        rw [← h5]
        obtain ⟨r2, hr2⟩ := atAll_cons qi (fun e => by subst e; simp at hlen)
        rw [hr2]; simp
      rw [noRoot_of hnn, h.one _ _ he1]
      rfl
    · rw [if_neg hlen]
      rw [List.length_append, List.length_singleton] at hlen
      have hqi : qi = [] := List.eq_nil_of_length_eq_zero (by omega)
      subst hqi
      have h7 : noRoot e1.1 = [] := h5.symm
      have h8 : e1.1 = [47] := by
        unfold noRoot at h7
        split at h7
        · assumption
        · rename_i hx
          exfalso
          by_cases hm : d.2 = 0
          · rw [hm, h.root] at he1
            cases he1
            exact hx rfl
          · obtain ⟨_, e2, part2, _, _, _, hp4⟩ := h.up d.2 e1 he1 hm
            rw [h7] at hp4
            have := congrArg List.length hp4
            simp at this
      have := h0 _ _ he1 h8
      rw [this]
      rfl
theorem path_ans {ds : DirL} (h : DirsOK ds) (hp : PathsOK ds) (k : Int) : rpathAns (dtexts ds) k = pathAns ds k := by
  unfold rpathAns pathAns
  by_cases hk : 0 ≤ k
  · rw [if_pos hk, if_pos hk]
    have e : (dtexts ds)[k.toNat]? = ds[k.toNat]?.map fun d => mkB d.1 := by unfold dtexts; rw [List.getElem?_map]
    rw [e]
    cases hd : ds[k.toNat]? with
    | none => rfl
    | some d =>
      simp only [Option.map_some]
      rw [path_up h hp hd]
  · rw [if_neg hk, if_neg hk]
theorem dir_num {ds : DirL} (h : DirsOK ds) (hl : ds.length ≤ 2000) (p : ByteArray) : (if rdirErr (dtexts ds) p = 0 then idxOr (keyIdx (rdirSt (dtexts ds) p) p) else 0) = ((dirRun ds p).2 : Int) ∧ rdirSt (dtexts ds) p = dtexts (dirRun ds p).1 := by
  have he := dir_err h p
  rw [he]
  by_cases e : dirErr ds p = 0
  · have hst : rdirSt (dtexts ds) p = dtexts (dirRun ds p).1 := by
      unfold rdirSt dirRun
      rw [he, if_pos e, if_pos e]
      exact rrun_run _ ds 0
    refine ⟨?_, hst⟩
    rw [if_pos e, hst, dtexts_idx']
    obtain ⟨_, _, _, _, l, _, _, h3⟩ := dir_ok h hl e
    rw [h3]
    rfl
  · have hst : rdirSt (dtexts ds) p = dtexts (dirRun ds p).1 := by
      unfold rdirSt dirRun
      rw [he, if_neg e, if_neg e]
    refine ⟨?_, hst⟩
    rw [if_neg e]
    unfold dirRun
    rw [if_neg e]
    rfl
end Go.Proofs.YtnplmembdfklcaaGreatDoor
