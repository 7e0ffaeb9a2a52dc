/-
  The document's Set: the walk. Helper text; the conditions are those typed.
-/
import Derived.Test.YtnplmembdfklcaaGreatDoorRefE
import Derived.Deep.RegionHeld3
import Derived.Deep.AppendLies
namespace Go.Proofs.YtnplmembdfklcaaGreatDoor
set_option linter.unusedVariables false
set_option linter.unusedSimpArgs false
open Go.RowKit Go.Maps

/-- What the document's Set answers. -/
def rsetErr (rt : RefT) (id : Int) (key : ByteArray) (v : ValT) : Int :=
  if id < 0 ∨ 65535 < id then 1 else if nameB key = false then 80 else if shB v.kind v.num v.text v.list.length = false then 81 else if longB v = true then 82
  else match keyIdx rt.keys key with
    | some i => if rt.kinds[i]? = some v.kind then 0 else 81
    | none => if 64 ≤ rt.keys.length then 83 else 0
/-- The document's store with an attribute more. -/
def rsetSt (rt : RefT) (id : Int) (key : ByteArray) (v : ValT) (sl : Value) : RefT :=
  { l := match keptIdx rt.l id key with
      | some i => rt.l.set i ⟨id, key, v, sl⟩
      | none => rt.l ++ [⟨id, key, v, sl⟩]
    keys := match keyIdx rt.keys key with
      | some _ => rt.keys
      | none => rt.keys ++ [key]
    kinds := match keyIdx rt.keys key with
      | some _ => rt.kinds
      | none => rt.kinds ++ [v.kind]
    dirs := rt.dirs }
theorem txts_of_strs {w : World} {S : Nat → Prop} {l : List ByteArray} {a : Option Addr} {n c : Nat} (h : StrsV w S l (.slice a n c)) : TxtsAt w a l := by
  obtain ⟨a', c', e, _, _, h⟩ := h
  injection e with e1 _ _
  subst e1
  by_cases hl : l = []
  · exact .inl hl
  · obtain ⟨b, off, e, _, hc⟩ := h hl
    refine .inr ⟨b, off, e, fun i hi => ?_⟩
    rw [hc i hi]
    simp [List.getD, hi]
theorem strs_of_own {w0 w : World} {l : List ByteArray} {a : Option Addr} {n c : Nat} (h : OwnS w0 (.slice a n c) l w) (hs : ∀ s ∈ l, s.size ≤ maxLen) (hn : l.length * 16 ≤ 140737488355328) : StrsV w (fun b => w0.heap.size ≤ b) l (.slice a n c) := by
  obtain ⟨a', c', e, ht⟩ := h.slice
  injection e with e1 e2 e3
  subst e1 e2 e3
  refine ⟨_, _, rfl, hs, hn, fun hl => ?_⟩
  rcases ht with h0 | ⟨b, off, e, hc⟩
  · exact absurd h0 hl
  · refine ⟨b, off, e, ?_, fun i hi => ?_⟩
    · exact (h.1.lt b (by rw [e]; rfl)).1
    · rw [hc i hi]
      simp [List.getD, hi]
def RSetPost (role : Nat → Role) (w : World) (B M : Nat) (vD : Value) (rt : RefT) (id : Int) (key : ByteArray) (v : ValT) (e : Ending) (w' : World) : Prop :=
  e = .returned (.int .i64 (rsetErr rt id key v)) ∧ ∃ role' vL' vK' vN' rt', Moved role w role' w' ∧ RefIn w' B role' M vL' vK' vN' vD rt' ∧ (rsetErr rt id key v ≠ 0 → rt' = rt) ∧ (rsetErr rt id key v = 0 → ∃ sl, rt' = rsetSt rt id key v sl)

section
variable {w : World} {B : Nat} {role : Nat → Role} {M : Nat} {vL vK vN vD : Value} {rt : RefT}
set_option maxHeartbeats 8000000 in
set_option maxRecDepth 100000 in
theorem rset_c (h : RefIn w B role M vL vK vN vD rt) (hB : B ≤ w.heap.size) (hkk : rt.kinds.length = rt.keys.length) (hkl : rt.keys.length ≤ 64) (hll : rt.l.length ≤ 4194304) (id : Int) (key : ByteArray) (hkey : key.size ≤ maxLen) (v : ValT) (a : Option Addr) (ln c : Nat) (Sv : Nat → Prop)
    (hv : StrsV w Sv v.list (.slice a ln c)) (hSv : ∀ b, Sv b → role b = .free ∨ role b = .content) :
    Calls Tryz.prog 22 #[.pointer (some ⟨M, 0, none⟩), .int .i64 id, .string key, .agg #[.int .i64 v.kind, .int .i64 v.num, .string v.text, .slice a ln c]] w (RSetPost role w B M vD rt id key v) := by
  have HH := Lib.hid h
  have HB0 := Lib.hid hB
  have hln := hv.len
  have HV := Lib.hid hv
  have HNO : Hid (∀ e, rsetErr rt id key v = e → e ≠ 0 → ∀ w', Below w.heap.size w w' → RSetPost role w B M vD rt id key v (.returned (.int .i64 e)) w') := fun e he h0 w' hb => by
    unfold RSetPost
    rw [he]
    exact ⟨rfl, role, vL, vK, vN, rt, Moved.of_below HH.out.hi hb, HH.out.below HB0.out hb, fun _ => rfl, fun e => absurd e h0⟩
  have HYES : Hid (rsetErr rt id key v = 0 → ∀ w' role' vL' vK' vN' sl, Moved role w role' w' → RefIn w' B role' M vL' vK' vN' vD (rsetSt rt id key v sl) → RSetPost role w B M vD rt id key v (.returned (.int .i64 0)) w') := fun he w' role' vL' vK' vN' sl hm hs => by
    unfold RSetPost
    rw [he]
    exact ⟨rfl, role', vL', vK', vN', _, hm, hs, fun e => absurd rfl e, fun _ => ⟨sl, rfl⟩⟩
  have HE : Hid (∀ x, x = rsetErr rt id key v → x = (if id < 0 ∨ 65535 < id then 1 else if nameB key = false then 80 else if shB v.kind v.num v.text v.list.length = false then 81 else if longB v = true then 82 else match keyIdx rt.keys key with | some i => if rt.kinds[i]? = some v.kind then 0 else 81 | none => if 64 ≤ rt.keys.length then 83 else 0)) := fun x hx => hx
  generalize RSetPost role w B M vD rt id key v = Q at HNO HYES ⊢
  generalize rsetErr rt id key v = E at HNO HYES HE
  have HE' := Lib.hid (HE.out E rfl)
  have HSZ : Hid (rt.kinds.length = rt.keys.length ∧ rt.keys.length ≤ 64 ∧ rt.l.length ≤ 4194304) := ⟨hkk, hkl, hll⟩
  clear HE h hB hv hkk hkl hll
  have HBX : Hid (Below w.heap.size w (w.alloc (.cells #[.int .i64 v.kind, .int .i64 v.num, .string v.text, .slice a ln c] 31)) ∧ BoxN (w.alloc (.cells #[.int .i64 v.kind, .int .i64 v.num, .string v.text, .slice a ln c] 31)) w.heap.size [.int .i64 v.kind, .int .i64 v.num, .string v.text, .slice a ln c] 31) := ⟨below1 _ _, boxN_alloc _ _ _⟩
  by_cases hlo : id < 0
  · have he : E = 1 := by rw [HE'.out, if_pos (.inl hlo)]
    subst he
    have HNO1 := Lib.hid (HNO.out 1 rfl (by decide) _ HBX.out.1)
    clear HNO HYES HE'
    go_enter Tryz.func22, Tryz.ntmps22
    go_wp2_with fail
    exact HNO1.out
  by_cases hhi : 65535 < id
  · have he : E = 1 := by rw [HE'.out, if_pos (.inr hhi)]
    subst he
    have HNO1 := Lib.hid (HNO.out 1 rfl (by decide) _ HBX.out.1)
    clear HNO HYES HE'
    go_enter Tryz.func22, Tryz.ntmps22
    go_wp2_with fail
    exact HNO1.out
  have HE2 : Hid (E = (if nameB key = false then 80 else if shB v.kind v.num v.text v.list.length = false then 81 else if longB v = true then 82 else match keyIdx rt.keys key with | some i => if rt.kinds[i]? = some v.kind then 0 else 81 | none => if 64 ≤ rt.keys.length then 83 else 0)) := by
    rw [HE'.out, if_neg (by omega)]
    exact rfl
  clear HE'
  have HN := Lib.hid (fun w => rkey_c key w)
  obtain ⟨W1, hW1⟩ : ∃ W1, w.alloc (.cells #[.int .i64 v.kind, .int .i64 v.num, .string v.text, .slice a ln c] 31) = W1 := ⟨_, rfl⟩
  rw [hW1] at HBX
  have p0 := HBX.out.2.cell (j := 0) rfl
  have p1 := HBX.out.2.cell (j := 1) rfl
  have p2 := HBX.out.2.cell (j := 2) rfl
  have p3 := HBX.out.2.cell (j := 3) rfl
  go_enter Tryz.func22, Tryz.ntmps22
  cases hnb : nameB key with
  | false =>
    have he : E = 80 := by rw [HE2.out, if_pos hnb]
    subst he
    rw [hnb] at HN
    have HNO1 := Lib.hid (fun w' hb => HNO.out 80 rfl (by decide) w' hb)
    clear HNO HYES HE2
    replace hnb := Lib.hid hnb
    go_wp2_with (go_at_call 45; refine (HN.out _).mono ?_; rintro e w2 ⟨rfl, h2⟩; obtain rfl : W1 = w2 := h2.symm)
    exact HNO1.out _ HBX.out.1
  | true =>
  have HE3 : Hid (E = (if shB v.kind v.num v.text v.list.length = false then 81 else if longB v = true then 82 else match keyIdx rt.keys key with | some i => if rt.kinds[i]? = some v.kind then 0 else 81 | none => if 64 ≤ rt.keys.length then 83 else 0)) := by
    rw [HE2.out, if_neg (by rw [hnb]; decide)]
    exact rfl
  rw [hnb] at HN
  clear HE2
  replace hnb := Lib.hid hnb
  go_upto_region 6 with (go_at_call 45; refine (HN.out _).mono ?_; rintro e w2 ⟨rfl, h2⟩; obtain rfl : W1 = w2 := h2.symm)
  have HS := Lib.hid (fun w => rshaped_c v.kind v.num v.text a ln c w)
  rw [hln] at HE3
  cases hsh : shB v.kind v.num v.text ln with
  | false =>
    have he : E = 81 := by rw [HE3.out, if_pos hsh]
    subst he
    rw [hsh] at HS
    have HNO1 := Lib.hid (fun w' hb => HNO.out 81 rfl (by decide) w' hb)
    clear HNO HYES HE3
    replace hsh := Lib.hid hsh
    go_wp2_with (go_at_call 46; refine (HS.out _).mono ?_; rintro e w3 ⟨rfl, hb3⟩)
    exact HNO1.out _ (below_tr HBX.out.1 hb3)
  | true =>
  have HE4 : Hid (E = (if longB v = true then 82 else match keyIdx rt.keys key with | some i => if rt.kinds[i]? = some v.kind then 0 else 81 | none => if 64 ≤ rt.keys.length then 83 else 0)) := by
    rw [HE3.out, if_neg (by rw [hsh]; decide)]
    exact rfl
  rw [hsh] at HS
  clear HE3
  replace hsh := Lib.hid hsh
  go_upto_region 9 with (go_at_call 46; refine (HS.out _).mono ?_; rintro e w3 ⟨rfl, hb3⟩)
  have HB3 : Hid (Below w.heap.size w w3 ∧ BoxN w3 w.heap.size [.int .i64 v.kind, .int .i64 v.num, .string v.text, .slice a ln c] 31) := ⟨below_tr HBX.out.1 hb3, HBX.out.2.below hb3⟩
  clear hb3 p0 p1 p2 p3 HBX HS hW1
  have p0 := HB3.out.2.cell (j := 0) rfl
  have p1 := HB3.out.2.cell (j := 1) rfl
  have p2 := HB3.out.2.cell (j := 2) rfl
  have p3 := HB3.out.2.cell (j := 3) rfl
  have HL := Lib.hid (rlong_c v a ln c Sv w3 (HV.out.below HB3.out.1))
  cases hlg : longB v with
  | true =>
    have he : E = 82 := by rw [HE4.out, if_pos hlg]
    subst he
    rw [hlg] at HL
    have HNO1 := Lib.hid (fun w' hb => HNO.out 82 rfl (by decide) w' hb)
    clear HNO HYES HE4
    replace hlg := Lib.hid hlg
    go_wp2_with (go_at_call 47; refine HL.out.mono ?_; rintro e w4 ⟨rfl, hb4⟩)
    exact HNO1.out _ (below_tr HB3.out.1 hb4)
  | false =>
  have HE5 : Hid (E = (match keyIdx rt.keys key with | some i => if rt.kinds[i]? = some v.kind then 0 else 81 | none => if 64 ≤ rt.keys.length then 83 else 0)) := by
    rw [HE4.out, if_neg (by rw [hlg]; decide)]
    exact rfl
  rw [hlg] at HL
  clear HE4
  replace hlg := Lib.hid hlg
  go_upto_region 12 with (go_at_call 47; refine HL.out.mono ?_; rintro e w4 ⟨rfl, hb4⟩)
  have HB4 : Hid (Below w.heap.size w w4 ∧ BoxN w4 w.heap.size [.int .i64 v.kind, .int .i64 v.num, .string v.text, .slice a ln c] 31) := ⟨below_tr HB3.out.1 hb4, HB3.out.2.below hb4⟩
  clear hb4 p0 p1 p2 p3 HB3 HL
  have p0 := HB4.out.2.cell (j := 0) rfl
  have HR4 := Lib.hid (HH.out.below HB0.out HB4.out.1)
  have HAT := Lib.hid (at_c HR4.out key)
  have HFR : Hid (role w.heap.size = .free) := HH.out.hi.free (Nat.le_refl _)
  have HV4 : Hid (StrsV w4 (fun b => (role b = .free ∨ role b = .content) ∧ b < w.heap.size) v.list (.slice a ln c)) := HV.out.inn.keep (fun b hb => ⟨hSv b hb.1, hb.2⟩) (fun b hb hl => HB4.out.1.block b hl)
  have m1 := HR4.out.box.cell (j := 1) rfl
  have m2 := HR4.out.box.cell (j := 2) rfl
  obtain ⟨ka, kc, hvK⟩ := ownsRow_slice HR4.out.keys
  obtain ⟨na, nc, hvN⟩ := ownsRow_slice HR4.out.kinds
  subst hvK hvN
  obtain ⟨N, hN⟩ : ∃ N, rt.keys.length = N := ⟨_, rfl⟩
  have hN2 : rt.kinds.length = N := HSZ.out.1.trans hN
  have hN64 : N ≤ 64 := by rw [← hN]; exact HSZ.out.2.1
  rw [hN] at m1
  rw [hN2] at m2
  cases hki : keyIdx rt.keys key with
  | some i =>
    rw [hki] at HAT HE5
    simp only [idxOr] at HAT HE5
    have hi : i < N := by
      rw [← hN]
      unfold keyIdx at hki
      rw [List.findIdx?_eq_some_iff_getElem] at hki
      exact hki.1
    have hi0 : 0 ≤ (i : Int) := by omega
    have hi1 : ¬ ((i : Int) < 0) := by omega
    have hiN : (i : Int) < (N : Int) := by omega
    obtain ⟨kd, hkd⟩ : ∃ kd, rt.kinds[i]? = some kd := ⟨_, List.getElem?_eq_getElem (by omega)⟩
    rw [hkd] at HE5
    have hrow := HR4.out.kinds
    rw [hN2] at hrow
    obtain ⟨g, cap, hf, _⟩ := (ownsRow_form hrow).resolve_left (fun h => by have := h.2; omega)
    injection hf with hf1 _ hf3
    subst hf1 hf3
    have k0 : w4.cell? ⟨g, i, none⟩ = some (.int .i64 kd) := ownsRow_cell hrow (by rw [List.getElem?_map, hkd]; rfl)
    by_cases hkv : kd = v.kind
    · have he : E = 0 := by rw [HE5.out, if_pos (by rw [hkv])]
      subst he
      have hq : (kd != v.kind) = false := by simp [hkv]
      clear HNO HE5 hrow
      have HKI := Lib.hid hki
      have HR4b : Hid (∃ role6 vK2 vN2 rt6, role6 = role ∧ rt6 = rt ∧ RefIn w4.drew B role6 M vL vK2 vN2 vD rt6) := ⟨role, _, _, rt, rfl, rfl, HR4.out.below (Nat.le_trans HB0.out HB4.out.1.size) (Below.refl _ _).drew⟩
      clear hki
      replace hkd := Lib.hid hkd
      replace hkv := Lib.hid hkv
      go_upto_region 13 with (go_at_call 48; refine HAT.out.mono ?_; rintro e w5 ⟨rfl, h5⟩; obtain rfl : w4 = w5 := h5.symm)
      go_region_held3 (fun W => Below w.heap.size w W ∧ W.cell? ⟨M, 2, none⟩ = some (.slice (some ⟨g, 0, none⟩) N nc) ∧ W.cell? ⟨g, i, none⟩ = some (.int .i64 kd) ∧ W.cell? ⟨w.heap.size, 0, none⟩ = some (.int .i64 v.kind))
        (exact ⟨HB4.out.1.drew, m2, k0, p0⟩) (fail)
      all_goals
        go_upto_region 20 with fail
        obtain ⟨role6, vK2, vN2, rt6, erl, ert, hr6⟩ := HR4b.out
        have HX6 : Hid (BoxN w4.drew w.heap.size [.int .i64 v.kind, .int .i64 v.num, .string v.text, .slice a ln c] 31) := HB4.out.2
        have HF6 : Hid (role6 w.heap.size = .free) := by rw [erl]; exact HFR.out
        have HM6 : Hid (Step (fun r => r ≠ .free ∧ r ≠ .content) role w role6 w4.drew) := by rw [erl]; exact (Step.of_below HH.out.hi HB4.out.1.drew).mono fun _ h => h.elim
        have HST6 : Hid (∀ sl, rsetSt rt id key v sl = { rt6 with l := match keptIdx rt.l id key with | some i => rt.l.set i ⟨id, key, v, sl⟩ | none => rt.l ++ [⟨id, key, v, sl⟩] } ∧ rt6.l = rt.l) := fun sl => by
          unfold rsetSt
          rw [HKI.out, ert]
          exact ⟨rfl, rfl⟩
        obtain ⟨w6, e6⟩ : ∃ w6, w4.drew = w6 := ⟨_, rfl⟩
        rw [e6] at HX6 HM6 hr6 ⊢
        have HR6 := Lib.hid hr6
        clear hr6 erl ert e6 m1 m2 k0 p0 HAT HB4 HR4 HR4b HV4 HKI hkd hkv hN hN2
        have HV6 : Hid (StrsV w6 (fun _ => True) v.list (.slice a ln c)) := HV.out.inn.keep (fun _ _ => trivial) (fun b hb _ => (HM6.out.same b hb.2 (fun hT => (hSv b hb.1).elim hT.1 hT.2)).1)
        have HLN : Hid (v.list.length = ln ∧ ln * 16 ≤ 140737488355328 ∧ (∀ s ∈ v.list, s.size ≤ maxLen)) := by
          obtain ⟨_, _, _, h1, h2, _⟩ := HV6.out
          rw [hln] at h2
          exact ⟨hln, h2, h1⟩
        have x3 := HX6.out.cell (j := 3) rfl
        have HTX : Hid (TxtsAt (w6.alloc (.cells #[] 9)) a v.list) := (txts_of_strs HV6.out).below (below1 _ _)
        have HXA : Hid (BoxN (w6.alloc (.cells #[] 9)) w.heap.size [.int .i64 v.kind, .int .i64 v.num, .string v.text, .slice a ln c] 31 ∧ w.heap.size < w6.heap.size) := ⟨HX6.out.below (below1 _ _), HX6.out.lt⟩
        have HNE : Hid (some w.heap.size ≠ (Value.slice (some ⟨w6.heap.size, 0, none⟩) 0 0).ownBlock) := fun e => by have h1 := HXA.out.2; have h2 : w.heap.size = w6.heap.size := Option.some.inj e; omega
        have x3' := HXA.out.1.cell (j := 3) rfl
        go_upto_region 21 with (at_builtin; go_loud (refine wpList_appS (w0 := w6) rfl (.tmp 81) (.tmp 83) rfl _ a ln c [] v.list rfl rfl (OwnS.made w6) HLN.out.1.symm HTX.out (by have h1 := HLN.out; rw [h1.1]; simpa using h1.2.1) ?_; intro v7 w7 h7 hg7; obtain ⟨a7, c7, hv7, _⟩ := h7.slice; rw [show (([] : List ByteArray) ++ v.list).length = ln from HLN.out.1] at hv7; subst hv7; have y7 := (HXA.out.1.to (hg7.block _ HXA.out.1.lt HNE.out)).cell (j := 3) rfl; have z7 := (HXA.out.1.to (hg7.block _ HXA.out.1.lt HNE.out)).frozen 3))
        obtain ⟨w8, e8⟩ : ∃ w8, w7.setCell ⟨w.heap.size, 3, none⟩ (.slice a7 ln c7) = w8 := ⟨_, rfl⟩
        have H8 : Hid (∃ role8, Step (fun r => r ≠ .free ∧ r ≠ .content) role w role8 w8 ∧ RefIn w8 B role8 M vL vK2 vN2 vD rt6 ∧ BoxN w8 w.heap.size [.int .i64 v.kind, .int .i64 v.num, .string v.text, .slice a7 ln c7] 31 ∧ StrsV w8 (fun b => role8 b = .content) v.list (.slice a7 ln c7)) := by
          have hlt := HXA.out.2
          have hx7 : BoxN w7 w.heap.size [.int .i64 v.kind, .int .i64 v.num, .string v.text, .slice a ln c] 31 := HXA.out.1.to (hg7.block _ HXA.out.1.lt HNE.out)
          have hb6 : Below (w6.setCell ⟨w.heap.size, 3, none⟩ (.slice a7 ln c7)).heap.size (w6.setCell ⟨w.heap.size, 3, none⟩ (.slice a7 ln c7)) w8 := by
            rw [← e8, set_size]
            exact below_set2 h7.2 hlt 3 _
          have hr6 := HR6.out.set_free HF6.out 3 (.slice a7 ln c7)
          have hs6 := HM6.out.set (Nat.le_refl _) 3 (.slice a7 ln c7)
          have hB6 : B ≤ (w6.setCell ⟨w.heap.size, 3, none⟩ (.slice a7 ln c7)).heap.size := by rw [set_size]; have := HM6.out.size; have := HB0.out; omega
          have s8 := Step.of_new hr6.hi hb6 .content
          have hst : StrsV w8 (fun b => w6.heap.size ≤ b ∧ b < w8.heap.size) v.list (.slice a7 ln c7) := by
            have h1 : StrsV w7 (fun b => w6.heap.size ≤ b) v.list (.slice a7 ln c7) := strs_of_own (l := v.list) h7 HLN.out.2.2 (by rw [HLN.out.1]; exact HLN.out.2.1)
            refine (StrsV.keep (w' := w8) (S' := fun b => w6.heap.size ≤ b) (fun _ h => h) (fun b hb _ => ?_) h1).inn
            rw [← e8]
            exact set_other _ (by omega)
          refine ⟨_, (hs6.trans s8).mono (fun r h => h.elim (fun h => h) (fun h => h.elim)), hr6.keep s8 hB6, ?_, hst.keep (fun b hb => if_pos (by rw [set_size]; exact hb)) (fun _ _ _ => rfl)⟩
          rw [← e8]
          exact hx7.set 3 _
        rw [e8]
        clear x3 x3' y7 z7 h7 hg7 e8 HXA HTX HV6 HM6 HR6 HX6 HF6
        obtain ⟨role8, HM8, HR8, HX8, HV8⟩ := H8.out
        replace HM8 := Lib.hid HM8
        replace HR8 := Lib.hid HR8
        replace HX8 := Lib.hid HX8
        replace HV8 := Lib.hid HV8
        clear H8
        have hrl : rt6.l = rt.l := (HST6.out (.int .i64 0)).2
        have HFD := Lib.hid (find_c HR8.out id key)
        have p0 := HX8.out.cell (j := 0) rfl
        have p1 := HX8.out.cell (j := 1) rfl
        have p2 := HX8.out.cell (j := 2) rfl
        have p3 := HX8.out.cell (j := 3) rfl
        have m0 := HR8.out.box.cell (j := 0) rfl
        have f0 := HR8.out.box.frozen 0
        obtain ⟨la, lc, hvL⟩ := ownsRow_slice HR8.out.l
        rw [hrl] at hvL HFD
        obtain ⟨LN, hLN⟩ : ∃ LN, rt.l.length = LN := ⟨_, rfl⟩
        have hL1000 : LN ≤ 4194304 := by rw [← hLN]; exact HSZ.out.2.2
        rw [hLN] at hvL
        rw [hvL] at m0
        have HB8 : Hid (B ≤ w8.heap.size) := Nat.le_trans HB0.out HM8.out.size
        cases hfi : keptIdx rt.l id key with
        | none =>
          rw [hfi] at HFD
          simp only [idxOr] at HFD
          go_upto_region 24 with (go_at_call 49; refine HFD.out.mono ?_; rintro e w9 ⟨rfl, h9⟩; obtain rfl : w8 = w9 := h9.symm)
          obtain ⟨i70, hi70, hz0, hz1, hz2⟩ := info_parts info70
          have HW9 : Hid (Below w8.heap.size w8 (w8.alloc (.cells #[.int .i64 id, .string key, .int .i64 v.kind, .int .i64 v.num, .string v.text, .slice a7 ln c7] 70)).drew ∧ BoxN (w8.alloc (.cells #[.int .i64 id, .string key, .int .i64 v.kind, .int .i64 v.num, .string v.text, .slice a7 ln c7] 70)).drew w8.heap.size [.int .i64 id, .string key, .int .i64 v.kind, .int .i64 v.num, .string v.text, .slice a7 ln c7] 70) := ⟨(below1 _ _).drew, boxN_alloc _ _ _⟩
          have HR9 := Lib.hid (HR8.out.below HB8.out HW9.out.1)
          have m0' : (w8.alloc (.cells #[.int .i64 id, .string key, .int .i64 v.kind, .int .i64 v.num, .string v.text, .slice a7 ln c7] 70)).cell? ⟨M, 0, none⟩ = some (.slice la LN lc) := by rw [← hvL]; exact HR9.out.box.cell (j := 0) rfl
          have HROW : Hid ((w8.alloc (.cells #[.int .i64 id, .string key, .int .i64 v.kind, .int .i64 v.num, .string v.text, .slice a7 ln c7] 70)).drew.ownsRow B 70 6 (.slice la LN lc) LN (rt.l.flatMap keptCells)) := by
            have := HR9.out.l
            rw [hrl, hvL, hLN] at this
            exact this
          have HOTH : Hid (∀ W, (w8.alloc (.cells #[.int .i64 id, .string key, .int .i64 v.kind, .int .i64 v.num, .string v.text, .slice a7 ln c7] 70)).drew.grownBy W (Value.slice la LN lc).ownBlock → BoxN W M [vL, vK2, vN2, vD] 39) := fun W hg =>
            HR9.out.box.to (hg.block M HR9.out.box.lt (fun e => by have h1 := HR9.out.rL M (by rw [hvL]; exact e.symm); rw [HR9.out.rM] at h1; cases h1))
          replace hfi := Lib.hid hfi
          replace hrl := Lib.hid hrl
          replace hvL := Lib.hid hvL
          replace hLN := Lib.hid hLN
          have HFALL : Hid (∀ g9 cap9 w11, w11.ownsRow B 70 6 (.slice (some ⟨g9, 0, none⟩) (LN + 1) cap9) (LN + 1) (rt.l.flatMap keptCells ++ [.int .i64 id, .string key, .int .i64 v.kind, .int .i64 v.num, .string v.text, .slice a7 ln c7]) → (w8.alloc (.cells #[.int .i64 id, .string key, .int .i64 v.kind, .int .i64 v.num, .string v.text, .slice a7 ln c7] 70)).drew.grownBy w11 (Value.slice la LN lc).ownBlock → ((Value.slice la LN lc).ownBlock = some g9 ∨ g9 = (w8.alloc (.cells #[.int .i64 id, .string key, .int .i64 v.kind, .int .i64 v.num, .string v.text, .slice a7 ln c7] 70)).drew.heap.size) → g9 < w11.heap.size → Q (.returned (.int .i64 0)) (w11.setCell ⟨M, 0, none⟩ (.slice (some ⟨g9, 0, none⟩) (LN + 1) cap9))) := fun g9 cap9 w11 hown11 hgrow11 hat11 hlt11 => by
            obtain ⟨role9, hs9, hS9⟩ := HR9.out.l_step (l' := rt.l ++ [⟨id, key, v, .slice a7 ln c7⟩]) (Nat.le_trans HB8.out HW9.out.1.size) (by rw [List.length_append, hLN.out, List.length_singleton]) (by rw [List.flatMap_append, List.flatMap_singleton]; exact hown11) (by rw [hvL.out]; exact hgrow11) (by rw [hvL.out]; exact hat11.imp (fun h => h) fun h => Nat.le_of_eq h.symm) hlt11 (fun p hp => by
              rw [List.mem_append, List.mem_singleton] at hp
              rcases hp with hp | hp
              · exact HR9.out.cont p (by rw [hrl.out]; exact hp)
              · subst hp
                exact HV8.out.below HW9.out.1)
            refine HYES.out (by trivial) _ role9 (.slice (some ⟨g9, 0, none⟩) (LN + 1) cap9) vK2 vN2 (.slice a7 ln c7) ?_ ?_
            · exact ((HM8.out.trans (Step.of_below HR8.out.hi HW9.out.1)).trans hs9).mono fun r h => by
                rcases h with (h | h) | h | h
                · exact h.1
                · exact h.elim
                · rw [h]; simp
                · rw [h]; simp
            · rw [(HST6.out _).1, hfi.out]
              exact hS9
          go_region_law (refine step_append_lies _ rfl (.tmp 104) (.tmp 109) 36 rfl B 70 i70 _ 6 80 Tryz.underlying36 hi70 hz0 hz1 hz2 rfl (by decide) (.slice la LN lc) LN (rt.l.flatMap keptCells) rfl HROW.out ⟨w8.heap.size, 0, none⟩ 1 1 [.int .i64 id, .string key, .int .i64 v.kind, .int .i64 v.num, .string v.text, .slice a7 ln c7] rfl rfl (World.news_of_block (cs := #[.int .i64 id, .string key, .int .i64 v.kind, .int .i64 v.num, .string v.text, .slice a7 ln c7]) (t := 70) (fr := (0, 0)) HW9.out.2) (by intro u hu; simp at hu; rcases hu with rfl | rfl | rfl | rfl | rfl | rfl <;> rfl) (by omega) (by unfold maxLen; omega) (by omega) (Nat.le_trans HB8.out HW9.out.1.size) _ rfl ?_; intro g9 cap9 w11 hown11 hgrow11 hat11 hlt11; have c11 := (HOTH.out _ hgrow11).cell (j := 0) rfl; have f11 := (HOTH.out _ hgrow11).frozen 0)
          all_goals
            have HFIN := Lib.hid (HFALL.out _ _ _ hown11 hgrow11 hat11 hlt11)
            clear c11 f11 m0 m0' p0 p1 p2 p3 f0 hown11 hgrow11 hat11 hlt11 HFALL HOTH HROW HR9 HW9 HFD HST6
            go_wp2_with fail
            exact HFIN.out
        | some i =>
          rw [hfi] at HFD
          simp only [idxOr] at HFD
          obtain ⟨hil, hkid, hkey⟩ := keptIdx_lt hfi
          have hil' : i < rt6.l.length := by rw [hrl]; exact hil
          obtain ⟨g, cap, hvL2, hcells⟩ := HR8.out.kept hil'
          rw [hvL] at hvL2
          injection hvL2 with hg1 hg2 hg3
          subst hg1 hg3
          have hii : (i : Int) < (LN : Int) := by omega
          have hi0 : ¬ ((i : Int) < 0) := by omega
          have hi00 : 0 ≤ (i : Int) := by omega
          go_upto_region 23 with (go_at_call 49; refine HFD.out.mono ?_; rintro e w9 ⟨rfl, h9⟩; obtain rfl : w8 = w9 := h9.symm)
          refine wp_quiet_tail 8 (by kernel_rfl) (by kernel_rfl) ?_
          intro wd hwd
          have HD : Hid (Below w8.heap.size w8 wd) := by
            rw [hwd.out]
            exact (Below.refl _ _).drew
          have HRd := Lib.hid (HR8.out.below HB8.out HD.out)
          have HXd := Lib.hid (HX8.out.below HD.out)
          have HVd := Lib.hid (HV8.out.below HD.out)
          have d0 := HXd.out.cell (j := 0) rfl
          have d1 := HXd.out.cell (j := 1) rfl
          have d2 := HXd.out.cell (j := 2) rfl
          have d3 := HXd.out.cell (j := 3) rfl
          have n0 : wd.cell? ⟨M, 0, none⟩ = some (.slice (some ⟨g, 0, none⟩) LN lc) := by rw [← hvL]; exact HRd.out.box.cell (j := 0) rfl
          have HVL := Lib.hid hvL
          have HRL := Lib.hid hrl
          have HFI := Lib.hid hfi
          have HKI := Lib.hid hkid
          have HKE := Lib.hid hkey
          have HIL := Lib.hid hil'
          clear hvL hrl hfi hkid hkey hil' hcells m0 f0 p0 p1 p2 p3 hLN
          simp only [List.take_succ_cons, List.take_zero, List.drop_succ_cons, List.drop_zero]
          repeat (go_big_quiet_step (fail))
          refine wpQuiet_nil ?_
          have hvL := HVL.out
          have hrl := HRL.out
          have hfi := HFI.out
          have hkid := HKI.out
          have hkey := HKE.out
          have hil' := HIL.out
          obtain ⟨g', cap', hvL3, hcd⟩ := HRd.out.kept hil'
          rw [hvL] at hvL3
          injection hvL3 with hg1' hg2' hg3'
          injection hg1' with hg1'
          injection hg1' with hg1' _ _
          subst hg1' hg3'
          have k2 : wd.cell? ⟨g, i * 6 + 2, none⟩ = _ := hcd 2 (by omega)
          have k3 : wd.cell? ⟨g, i * 6 + 3, none⟩ = _ := hcd 3 (by omega)
          have k4 : wd.cell? ⟨g, i * 6 + 4, none⟩ = _ := hcd 4 (by omega)
          have k5 : wd.cell? ⟨g, i * 6 + 5, none⟩ = _ := hcd 5 (by omega)
          simp only [keptCells, List.getElem?_cons_succ, List.getElem?_cons_zero] at k2 k3 k4 k5
          have HFIN : Hid (Q (.returned (.int .i64 0)) ((((wd.setCell ⟨g, i * 6 + 2, none⟩ (.int .i64 v.kind)).setCell ⟨g, i * 6 + 3, none⟩ (.int .i64 v.num)).setCell ⟨g, i * 6 + 4, none⟩ (.string v.text)).setCell ⟨g, i * 6 + 5, none⟩ (.slice a7 ln c7))) := by
            obtain ⟨hs9, hS9⟩ := HRd.out.put_step (Nat.le_trans HB8.out HD.out.size) hil' hvL HVd.out
            refine HYES.out (by trivial) _ role8 (.slice (some ⟨g, 0, none⟩) LN lc) vK2 vN2 (.slice a7 ln c7) ?_ ?_
            · exact ((HM8.out.trans (Step.of_below HR8.out.hi HD.out)).trans hs9).mono fun r h => by
                rcases h with (h | h) | h
                · exact h.1
                · exact h.elim
                · rw [h]; simp
            · rw [(HST6.out _).1, hfi]
              have e : ({ rt6.l[i] with v := v, sl := .slice a7 ln c7 } : KeptT) = ⟨id, key, v, .slice a7 ln c7⟩ := by
                simp only [hrl, hkid, hkey]
              rw [e, hrl, hvL] at hS9
              exact hS9
          have HFZ : Hid (∀ j, wd.frozen? ⟨g, j, none⟩ = false) := fun j => by
            have h1 := HRd.out.l
            rw [hvL] at h1
            rcases h1.2 with ⟨h2, _⟩ | ⟨g2, cap2, cur2, h2, _, h3, _⟩
            · cases h2
            · injection h2 with h2 _ _
              injection h2 with h2
              injection h2 with h2 _ _
              subst h2
              exact frozen_of h3
          have z2 := HFZ.out (i * 6 + 2)
          have z3 := HFZ.out (i * 6 + 3)
          have z4 := HFZ.out (i * 6 + 4)
          have z5 := HFZ.out (i * 6 + 5)
          generalize rt6.l[i] = pp at k2 k3 k4 k5
          clear d0 n0 HRd HXd HVd HD hwd HST6 HFD hcd hvL hrl hfi hkid hkey hil'
          go_wp2_with fail
          exact HFIN.out
    · have he : E = 81 := by rw [HE5.out, if_neg (fun e => hkv (Option.some.inj e))]
      subst he
      have hq : (kd != v.kind) = true := by simpa using hkv
      have HNO1 := Lib.hid (fun w' hb => HNO.out 81 rfl (by decide) w' hb)
      clear HNO HYES HE5 hrow
      replace hki := Lib.hid hki
      replace hkd := Lib.hid hkd
      replace hkv := Lib.hid hkv
      go_upto_region 13 with (go_at_call 48; refine HAT.out.mono ?_; rintro e w5 ⟨rfl, h5⟩; obtain rfl : w4 = w5 := h5.symm)
      go_region_held3 (fun W => Below w.heap.size w W ∧ W.cell? ⟨M, 2, none⟩ = some (.slice (some ⟨g, 0, none⟩) N nc) ∧ W.cell? ⟨g, i, none⟩ = some (.int .i64 kd) ∧ W.cell? ⟨w.heap.size, 0, none⟩ = some (.int .i64 v.kind))
        (exact ⟨HB4.out.1.drew, m2, k0, p0⟩) (fail)
      all_goals
        go_wp2_with fail
        exact HNO1.out _ HB4.out.1.drew
  | none =>
    rw [hki] at HAT HE5
    simp only [idxOr] at HAT HE5
    by_cases h64 : 64 ≤ N
    · have he : E = 83 := by rw [HE5.out, hN, if_pos h64]
      subst he
      have hq : 64 ≤ (N : Int) := by omega
      have HNO1 := Lib.hid (fun w' hb => HNO.out 83 rfl (by decide) w' hb)
      clear HNO HYES HE5
      replace hki := Lib.hid hki
      replace hN := Lib.hid hN
      replace hN2 := Lib.hid hN2
      go_upto_region 13 with (go_at_call 48; refine HAT.out.mono ?_; rintro e w5 ⟨rfl, h5⟩; obtain rfl : w4 = w5 := h5.symm)
      refine wp_quiet_all (by kernel_rfl) (by kernel_rfl) ?_
      intro wd hwd
      repeat (go_big_quiet_step (fail))
      refine wpQuiet_nil ?_
      intro w' hw'
      rw [hw', hwd.out]
      clear hw' w' hwd wd
      go_wp2_with fail
      exact HNO1.out _ HB4.out.1.drew
    · have hq : ¬ 64 ≤ (N : Int) := by omega
      have he : E = 0 := by rw [HE5.out, hN, if_neg h64]
      subst he
      clear HNO HE5
      replace hki := Lib.hid hki
      go_upto_region 13 with (go_at_call 48; refine HAT.out.mono ?_; rintro e w5 ⟨rfl, h5⟩; obtain rfl : w4 = w5 := h5.symm)
      refine wp_quiet_all (by kernel_rfl) (by kernel_rfl) ?_
      intro wd hwd
      repeat (go_big_quiet_step (fail))
      refine wpQuiet_nil ?_
      intro w' hw'
      rw [hw', hwd.out]
      clear hw' w' hwd wd
      have HB5 : Hid (Below w.heap.size w w4.drew ∧ BoxN w4.drew w.heap.size [.int .i64 v.kind, .int .i64 v.num, .string v.text, .slice a ln c] 31 ∧ Below w4.heap.size w4 w4.drew) := ⟨HB4.out.1.drew, HB4.out.2, (Below.refl _ _).drew⟩
      obtain ⟨w5, e5⟩ : ∃ w5, w4.drew = w5 := ⟨_, rfl⟩
      rw [e5] at HB5 ⊢
      have HR5 := Lib.hid (HR4.out.below (Nat.le_trans HB0.out HB4.out.1.size) HB5.out.2.2)
      have HV5 := Lib.hid (HV4.out.below HB5.out.2.2)
      clear m1 m2 p0 HAT HB4 HR4 HV4 e5
      rw [hN, hN2] at HR5
      have m1 := HR5.out.box.cell (j := 1) rfl
      obtain ⟨i9, hi9, hz90, hz91, hz92⟩ := info_parts info9
      obtain ⟨W0, hW0⟩ : ∃ W0, w5.alloc (.cells #[.string key] 9) = W0 := ⟨_, rfl⟩
      have HW0 : Hid (Below w5.heap.size w5 W0 ∧ BoxN W0 w5.heap.size [.string key] 9 ∧ W0.heap.size = w5.heap.size + 1) := by
        rw [← hW0]
        exact ⟨below1 _ _, boxN_alloc _ _ _, by simp⟩
      have HB5' : Hid (B ≤ w5.heap.size) := Nat.le_trans HB0.out HB5.out.1.size
      have HR0 := Lib.hid (HR5.out.below HB5'.out HW0.out.1)
      have m1' : W0.cell? ⟨M, 1, none⟩ = some (.slice ka N kc) := HR0.out.box.cell (j := 1) rfl
      have HROW : Hid (W0.ownsRow B 9 1 (.slice ka N kc) N (rt.keys.map .string)) := by
        have := HR0.out.keys
        rw [hN] at this
        exact this
      have HOTH : Hid (∀ W, W0.grownBy W (Value.slice ka N kc).ownBlock → BoxN W M [vL, .slice ka N kc, .slice na N nc, vD] 39 ∧ BoxN W w.heap.size [.int .i64 v.kind, .int .i64 v.num, .string v.text, .slice a ln c] 31) := fun W hg => by
        have hne : ∀ R b, role b = R → R ≠ .keys → some b ≠ (Value.slice ka N kc).ownBlock := fun R b h1 h2 e => h2 (h1.symm.trans (HR0.out.rK b e.symm))
        refine ⟨HR0.out.box.to (hg.block M HR0.out.box.lt (hne _ _ HR0.out.rM (by simp))), ?_⟩
        have hx := HB5.out.2.1.below HW0.out.1
        exact hx.to (hg.block _ hx.lt (hne _ _ HFR.out (by simp)))
      replace hN := Lib.hid hN
      replace hN2 := Lib.hid hN2
      go_upto_region 19 with (at_builtin; refine wpList_append_lies _ rfl (.tmp 64) (.tmp 66) 29 rfl B 9 i9 _ 1 16 Tryz.underlying29 hi9 hz90 hz91 hz92 rfl (by decide) (.slice ka N kc) N (rt.keys.map .string) rfl HROW.out ⟨w5.heap.size, 0, none⟩ 1 1 [.string key] rfl rfl (World.news_of_block (cs := #[.string key]) (t := 9) (fr := (0, 0)) HW0.out.2.1) (by intro u hu; simp at hu; subst hu; rfl) (by omega) (by unfold maxLen; omega) (by omega) (Nat.le_trans HB5'.out HW0.out.1.size) W0.heap.size rfl ?_; intro g2 cap2 w10 hown10 hgrow10 hat10 hlt10; have c10 := (HOTH.out _ hgrow10).1.cell (j := 1) rfl; have f10 := (HOTH.out _ hgrow10).1.frozen 1)
      obtain ⟨W2, hW2⟩ : ∃ W2, w10.setCell ⟨M, 1, none⟩ (.slice (some ⟨g2, 0, none⟩) (N + 1) cap2) = W2 := ⟨_, rfl⟩
      have HNEW : Hid (∃ role2, Step (fun r => r ≠ .free ∧ r ≠ .content) role w role2 W2 ∧ RefIn W2 B role2 M vL (.slice (some ⟨g2, 0, none⟩) (N + 1) cap2) (.slice na N nc) vD { rt with keys := rt.keys ++ [key] } ∧ BoxN W2 w.heap.size [.int .i64 v.kind, .int .i64 v.num, .string v.text, .slice a ln c] 31 ∧ role2 w.heap.size = .free) := by
        have h1 := HR0.out
        rw [← hW2]
        rw [← hN.out] at hown10 hgrow10 hat10 h1 ⊢
        obtain ⟨role2, hs2, hS2⟩ := h1.key_step (key := key) (Nat.le_trans HB5'.out HW0.out.1.size) hown10 hgrow10 (hat10.imp (fun h => h) fun h => Nat.le_of_eq h.symm) hlt10
        have hx0 := HB5.out.2.1.below HW0.out.1
        obtain ⟨x1, x2⟩ := hs2.same w.heap.size hx0.lt (by rw [HFR.out]; simp)
        exact ⟨role2, ((((Step.of_below HH.out.hi (below_tr HB5.out.1 HW0.out.1)).mono fun _ h => h.elim : Step (fun r => r ≠ .free ∧ r ≠ .content) role w role W0)).trans hs2).mono fun r h => h.elim (fun h => h) (fun h => by rcases h with h | h <;> rw [h] <;> simp), hS2, hx0.to x1, x2.trans HFR.out⟩
      rw [hW2]
      clear c10 f10 m1 m1' hown10 hgrow10 hat10 hlt10 HOTH HROW HR0 HW0 hW0 hW2 HR5 HB5 HB5' HV5 hi9 hz90 hz91 hz92
      obtain ⟨role2, HS2, HR2, HX2, HF2⟩ := HNEW.out
      replace HS2 := Lib.hid HS2
      replace HR2 := Lib.hid HR2
      replace HX2 := Lib.hid HX2
      replace HF2 := Lib.hid HF2
      clear HNEW
      generalize (Value.slice (some ⟨g2, 0, none⟩) (N + 1) cap2) = vK2 at HR2
      have HD : Hid (Below W2.heap.size W2 W2.drew) := (Below.refl _ _).drew
      have HBd : Hid (B ≤ W2.heap.size) := Nat.le_trans HB0.out HS2.out.size
      have m2 := HR2.out.box.cell (j := 2) rfl
      have p0 := HX2.out.cell (j := 0) rfl
      obtain ⟨i3, hi3, hz30, hz31, hz32⟩ := info_parts info3
      have HW3 : Hid (Below W2.heap.size W2 (W2.alloc (.cells #[.int .i64 v.kind] 3)).drew ∧ BoxN (W2.alloc (.cells #[.int .i64 v.kind] 3)).drew W2.heap.size [.int .i64 v.kind] 3 ∧ (W2.alloc (.cells #[.int .i64 v.kind] 3)).drew.heap.size = W2.heap.size + 1) := ⟨(below1 _ _).drew, boxN_alloc _ _ _, by simp⟩
      have HR3 := Lib.hid (HR2.out.below HBd.out HW3.out.1)
      have HX3 := Lib.hid (HX2.out.below HW3.out.1)
      have m2' : (W2.alloc (.cells #[.int .i64 v.kind] 3)).cell? ⟨M, 2, none⟩ = _ := HR3.out.box.cell (j := 2) rfl
      have HROW : Hid ((W2.alloc (.cells #[.int .i64 v.kind] 3)).drew.ownsRow B 3 1 (.slice na N nc) N (rt.kinds.map (.int .i64))) := by
        have := HR3.out.kinds
        rw [show ({ rt with keys := rt.keys ++ [key] } : RefT).kinds.length = N from hN2.out] at this
        exact this
      have HOTH : Hid (∀ W, (W2.alloc (.cells #[.int .i64 v.kind] 3)).drew.grownBy W (Value.slice na N nc).ownBlock → BoxN W M [vL, vK2, .slice na N nc, vD] 39) := fun W hg =>
        HR3.out.box.to (hg.block M HR3.out.box.lt (fun e => by have h1 := HR3.out.rN M e.symm; rw [HR3.out.rM] at h1; cases h1))
      go_region_law (refine step_append_lies _ rfl (.tmp 74) (.tmp 77) 37 rfl B 3 i3 _ 1 8 Tryz.underlying37 hi3 hz30 hz31 hz32 rfl (by decide) (.slice na N nc) N (rt.kinds.map (.int .i64)) rfl HROW.out ⟨W2.heap.size, 0, none⟩ 1 1 [.int .i64 v.kind] rfl rfl (World.news_of_block (cs := #[.int .i64 v.kind]) (t := 3) (fr := (0, 0)) HW3.out.2.1) (by intro u hu; simp at hu; subst hu; rfl) (by omega) (by unfold maxLen; omega) (by omega) (Nat.le_trans HBd.out HW3.out.1.size) _ rfl ?_; intro g3 cap3 w11 hown11 hgrow11 hat11 hlt11; have c11 := (HOTH.out _ hgrow11).cell (j := 2) rfl; have f11 := (HOTH.out _ hgrow11).frozen 2)
      all_goals
        obtain ⟨w6, hw6⟩ : ∃ w6, w11.setCell ⟨M, 2, none⟩ (.slice (some ⟨g3, 0, none⟩) (N + 1) cap3) = w6 := ⟨_, rfl⟩
        have HNEW : Hid (∃ role6, Step (fun r => r ≠ .free ∧ r ≠ .content) role w role6 w6 ∧ RefIn w6 B role6 M vL vK2 (.slice (some ⟨g3, 0, none⟩) (N + 1) cap3) vD { rt with keys := rt.keys ++ [key], kinds := rt.kinds ++ [v.kind] } ∧ BoxN w6 w.heap.size [.int .i64 v.kind, .int .i64 v.num, .string v.text, .slice a ln c] 31 ∧ role6 w.heap.size = .free) := by
          have h1 := HR3.out
          rw [← hw6]
          rw [← hN2.out] at hown11 hgrow11 hat11 h1 ⊢
          obtain ⟨role3, hs3, hS3⟩ := h1.kind_step (kd := v.kind) (Nat.le_trans HBd.out HW3.out.1.size) hown11 hgrow11 (hat11.imp (fun h => h) fun h => Nat.le_of_eq h.symm) hlt11
          obtain ⟨x1, x2⟩ := hs3.same w.heap.size HX3.out.lt (by rw [HF2.out]; simp)
          exact ⟨role3, ((HS2.out.trans (Step.of_below HR2.out.hi HW3.out.1)).trans hs3).mono fun r h => by
            rcases h with (h | h) | h | h
            · exact h
            · exact h.elim
            · rw [h]; simp
            · rw [h]; simp, hS3, HX3.out.to x1, x2.trans HF2.out⟩
        rw [hw6]
        clear c11 f11 m2 m2' p0 hown11 hgrow11 hat11 hlt11 HOTH HROW HR3 HX3 HW3 hw6 HD HBd hi3 hz30 hz31 hz32 HS2 HR2 HX2 HF2
        obtain ⟨role6, HM6, HR6, HX6, HF6⟩ := HNEW.out
        replace HM6 := Lib.hid HM6
        replace HR6 := Lib.hid HR6
        replace HX6 := Lib.hid HX6
        replace HF6 := Lib.hid HF6
        clear HNEW
        generalize (Value.slice (some ⟨g3, 0, none⟩) (N + 1) cap3) = vN2 at HR6
        have HST6 : Hid (∀ sl, rsetSt rt id key v sl = { ({ rt with keys := rt.keys ++ [key], kinds := rt.kinds ++ [v.kind] } : RefT) with l := match keptIdx rt.l id key with | some i => rt.l.set i ⟨id, key, v, sl⟩ | none => rt.l ++ [⟨id, key, v, sl⟩] } ∧ ({ rt with keys := rt.keys ++ [key], kinds := rt.kinds ++ [v.kind] } : RefT).l = rt.l) := fun sl => by
          unfold rsetSt
          rw [hki.out]
          exact ⟨rfl, rfl⟩
        generalize ({ rt with keys := rt.keys ++ [key], kinds := rt.kinds ++ [v.kind] } : RefT) = rt6 at HR6 HST6
        clear hki hN hN2
        have HV6 : Hid (StrsV w6 (fun _ => True) v.list (.slice a ln c)) := HV.out.inn.keep (fun _ _ => trivial) (fun b hb _ => (HM6.out.same b hb.2 (fun hT => (hSv b hb.1).elim hT.1 hT.2)).1)
        have HLN : Hid (v.list.length = ln ∧ ln * 16 ≤ 140737488355328 ∧ (∀ s ∈ v.list, s.size ≤ maxLen)) := by
          obtain ⟨_, _, _, h1, h2, _⟩ := HV6.out
          rw [hln] at h2
          exact ⟨hln, h2, h1⟩
        have x3 := HX6.out.cell (j := 3) rfl
        have HTX : Hid (TxtsAt (w6.alloc (.cells #[] 9)) a v.list) := (txts_of_strs HV6.out).below (below1 _ _)
        have HXA : Hid (BoxN (w6.alloc (.cells #[] 9)) w.heap.size [.int .i64 v.kind, .int .i64 v.num, .string v.text, .slice a ln c] 31 ∧ w.heap.size < w6.heap.size) := ⟨HX6.out.below (below1 _ _), HX6.out.lt⟩
        have HNE : Hid (some w.heap.size ≠ (Value.slice (some ⟨w6.heap.size, 0, none⟩) 0 0).ownBlock) := fun e => by have h1 := HXA.out.2; have h2 : w.heap.size = w6.heap.size := Option.some.inj e; omega
        have x3' := HXA.out.1.cell (j := 3) rfl
        go_upto_region 21 with (at_builtin; go_loud (refine wpList_appS (w0 := w6) rfl (.tmp 81) (.tmp 83) rfl _ a ln c [] v.list rfl rfl (OwnS.made w6) HLN.out.1.symm HTX.out (by have h1 := HLN.out; rw [h1.1]; simpa using h1.2.1) ?_; intro v7 w7 h7 hg7; obtain ⟨a7, c7, hv7, _⟩ := h7.slice; rw [show (([] : List ByteArray) ++ v.list).length = ln from HLN.out.1] at hv7; subst hv7; have y7 := (HXA.out.1.to (hg7.block _ HXA.out.1.lt HNE.out)).cell (j := 3) rfl; have z7 := (HXA.out.1.to (hg7.block _ HXA.out.1.lt HNE.out)).frozen 3))
        obtain ⟨w8, e8⟩ : ∃ w8, w7.setCell ⟨w.heap.size, 3, none⟩ (.slice a7 ln c7) = w8 := ⟨_, rfl⟩
        have H8 : Hid (∃ role8, Step (fun r => r ≠ .free ∧ r ≠ .content) role w role8 w8 ∧ RefIn w8 B role8 M vL vK2 vN2 vD rt6 ∧ BoxN w8 w.heap.size [.int .i64 v.kind, .int .i64 v.num, .string v.text, .slice a7 ln c7] 31 ∧ StrsV w8 (fun b => role8 b = .content) v.list (.slice a7 ln c7)) := by
          have hlt := HXA.out.2
          have hx7 : BoxN w7 w.heap.size [.int .i64 v.kind, .int .i64 v.num, .string v.text, .slice a ln c] 31 := HXA.out.1.to (hg7.block _ HXA.out.1.lt HNE.out)
          have hb6 : Below (w6.setCell ⟨w.heap.size, 3, none⟩ (.slice a7 ln c7)).heap.size (w6.setCell ⟨w.heap.size, 3, none⟩ (.slice a7 ln c7)) w8 := by
            rw [← e8, set_size]
            exact below_set2 h7.2 hlt 3 _
          have hr6 := HR6.out.set_free HF6.out 3 (.slice a7 ln c7)
          have hs6 := HM6.out.set (Nat.le_refl _) 3 (.slice a7 ln c7)
          have hB6 : B ≤ (w6.setCell ⟨w.heap.size, 3, none⟩ (.slice a7 ln c7)).heap.size := by rw [set_size]; have := HM6.out.size; have := HB0.out; omega
          have s8 := Step.of_new hr6.hi hb6 .content
          have hst : StrsV w8 (fun b => w6.heap.size ≤ b ∧ b < w8.heap.size) v.list (.slice a7 ln c7) := by
            have h1 : StrsV w7 (fun b => w6.heap.size ≤ b) v.list (.slice a7 ln c7) := strs_of_own (l := v.list) h7 HLN.out.2.2 (by rw [HLN.out.1]; exact HLN.out.2.1)
            refine (StrsV.keep (w' := w8) (S' := fun b => w6.heap.size ≤ b) (fun _ h => h) (fun b hb _ => ?_) h1).inn
            rw [← e8]
            exact set_other _ (by omega)
          refine ⟨_, (hs6.trans s8).mono (fun r h => h.elim (fun h => h) (fun h => h.elim)), hr6.keep s8 hB6, ?_, hst.keep (fun b hb => if_pos (by rw [set_size]; exact hb)) (fun _ _ _ => rfl)⟩
          rw [← e8]
          exact hx7.set 3 _
        rw [e8]
        clear x3 x3' y7 z7 h7 hg7 e8 HXA HTX HV6 HM6 HR6 HX6 HF6
        obtain ⟨role8, HM8, HR8, HX8, HV8⟩ := H8.out
        replace HM8 := Lib.hid HM8
        replace HR8 := Lib.hid HR8
        replace HX8 := Lib.hid HX8
        replace HV8 := Lib.hid HV8
        clear H8
        have hrl : rt6.l = rt.l := (HST6.out (.int .i64 0)).2
        have HFD := Lib.hid (find_c HR8.out id key)
        have p0 := HX8.out.cell (j := 0) rfl
        have p1 := HX8.out.cell (j := 1) rfl
        have p2 := HX8.out.cell (j := 2) rfl
        have p3 := HX8.out.cell (j := 3) rfl
        have m0 := HR8.out.box.cell (j := 0) rfl
        have f0 := HR8.out.box.frozen 0
        obtain ⟨la, lc, hvL⟩ := ownsRow_slice HR8.out.l
        rw [hrl] at hvL HFD
        obtain ⟨LN, hLN⟩ : ∃ LN, rt.l.length = LN := ⟨_, rfl⟩
        have hL1000 : LN ≤ 4194304 := by rw [← hLN]; exact HSZ.out.2.2
        rw [hLN] at hvL
        rw [hvL] at m0
        have HB8 : Hid (B ≤ w8.heap.size) := Nat.le_trans HB0.out HM8.out.size
        cases hfi : keptIdx rt.l id key with
        | none =>
          rw [hfi] at HFD
          simp only [idxOr] at HFD
          go_upto_region 24 with (go_at_call 49; refine HFD.out.mono ?_; rintro e w9 ⟨rfl, h9⟩; obtain rfl : w8 = w9 := h9.symm)
          obtain ⟨i70, hi70, hz0, hz1, hz2⟩ := info_parts info70
          have HW9 : Hid (Below w8.heap.size w8 (w8.alloc (.cells #[.int .i64 id, .string key, .int .i64 v.kind, .int .i64 v.num, .string v.text, .slice a7 ln c7] 70)).drew ∧ BoxN (w8.alloc (.cells #[.int .i64 id, .string key, .int .i64 v.kind, .int .i64 v.num, .string v.text, .slice a7 ln c7] 70)).drew w8.heap.size [.int .i64 id, .string key, .int .i64 v.kind, .int .i64 v.num, .string v.text, .slice a7 ln c7] 70) := ⟨(below1 _ _).drew, boxN_alloc _ _ _⟩
          have HR9 := Lib.hid (HR8.out.below HB8.out HW9.out.1)
          have m0' : (w8.alloc (.cells #[.int .i64 id, .string key, .int .i64 v.kind, .int .i64 v.num, .string v.text, .slice a7 ln c7] 70)).cell? ⟨M, 0, none⟩ = some (.slice la LN lc) := by rw [← hvL]; exact HR9.out.box.cell (j := 0) rfl
          have HROW : Hid ((w8.alloc (.cells #[.int .i64 id, .string key, .int .i64 v.kind, .int .i64 v.num, .string v.text, .slice a7 ln c7] 70)).drew.ownsRow B 70 6 (.slice la LN lc) LN (rt.l.flatMap keptCells)) := by
            have := HR9.out.l
            rw [hrl, hvL, hLN] at this
            exact this
          have HOTH : Hid (∀ W, (w8.alloc (.cells #[.int .i64 id, .string key, .int .i64 v.kind, .int .i64 v.num, .string v.text, .slice a7 ln c7] 70)).drew.grownBy W (Value.slice la LN lc).ownBlock → BoxN W M [vL, vK2, vN2, vD] 39) := fun W hg =>
            HR9.out.box.to (hg.block M HR9.out.box.lt (fun e => by have h1 := HR9.out.rL M (by rw [hvL]; exact e.symm); rw [HR9.out.rM] at h1; cases h1))
          replace hfi := Lib.hid hfi
          replace hrl := Lib.hid hrl
          replace hvL := Lib.hid hvL
          replace hLN := Lib.hid hLN
          have HFALL : Hid (∀ g9 cap9 w11, w11.ownsRow B 70 6 (.slice (some ⟨g9, 0, none⟩) (LN + 1) cap9) (LN + 1) (rt.l.flatMap keptCells ++ [.int .i64 id, .string key, .int .i64 v.kind, .int .i64 v.num, .string v.text, .slice a7 ln c7]) → (w8.alloc (.cells #[.int .i64 id, .string key, .int .i64 v.kind, .int .i64 v.num, .string v.text, .slice a7 ln c7] 70)).drew.grownBy w11 (Value.slice la LN lc).ownBlock → ((Value.slice la LN lc).ownBlock = some g9 ∨ g9 = (w8.alloc (.cells #[.int .i64 id, .string key, .int .i64 v.kind, .int .i64 v.num, .string v.text, .slice a7 ln c7] 70)).drew.heap.size) → g9 < w11.heap.size → Q (.returned (.int .i64 0)) (w11.setCell ⟨M, 0, none⟩ (.slice (some ⟨g9, 0, none⟩) (LN + 1) cap9))) := fun g9 cap9 w11 hown11 hgrow11 hat11 hlt11 => by
            obtain ⟨role9, hs9, hS9⟩ := HR9.out.l_step (l' := rt.l ++ [⟨id, key, v, .slice a7 ln c7⟩]) (Nat.le_trans HB8.out HW9.out.1.size) (by rw [List.length_append, hLN.out, List.length_singleton]) (by rw [List.flatMap_append, List.flatMap_singleton]; exact hown11) (by rw [hvL.out]; exact hgrow11) (by rw [hvL.out]; exact hat11.imp (fun h => h) fun h => Nat.le_of_eq h.symm) hlt11 (fun p hp => by
              rw [List.mem_append, List.mem_singleton] at hp
              rcases hp with hp | hp
              · exact HR9.out.cont p (by rw [hrl.out]; exact hp)
              · subst hp
                exact HV8.out.below HW9.out.1)
            refine HYES.out (by trivial) _ role9 (.slice (some ⟨g9, 0, none⟩) (LN + 1) cap9) vK2 vN2 (.slice a7 ln c7) ?_ ?_
            · exact ((HM8.out.trans (Step.of_below HR8.out.hi HW9.out.1)).trans hs9).mono fun r h => by
                rcases h with (h | h) | h | h
                · exact h.1
                · exact h.elim
                · rw [h]; simp
                · rw [h]; simp
            · rw [(HST6.out _).1, hfi.out]
              exact hS9
          go_region_law (refine step_append_lies _ rfl (.tmp 104) (.tmp 109) 36 rfl B 70 i70 _ 6 80 Tryz.underlying36 hi70 hz0 hz1 hz2 rfl (by decide) (.slice la LN lc) LN (rt.l.flatMap keptCells) rfl HROW.out ⟨w8.heap.size, 0, none⟩ 1 1 [.int .i64 id, .string key, .int .i64 v.kind, .int .i64 v.num, .string v.text, .slice a7 ln c7] rfl rfl (World.news_of_block (cs := #[.int .i64 id, .string key, .int .i64 v.kind, .int .i64 v.num, .string v.text, .slice a7 ln c7]) (t := 70) (fr := (0, 0)) HW9.out.2) (by intro u hu; simp at hu; rcases hu with rfl | rfl | rfl | rfl | rfl | rfl <;> rfl) (by omega) (by unfold maxLen; omega) (by omega) (Nat.le_trans HB8.out HW9.out.1.size) _ rfl ?_; intro g9 cap9 w11 hown11 hgrow11 hat11 hlt11; have c11 := (HOTH.out _ hgrow11).cell (j := 0) rfl; have f11 := (HOTH.out _ hgrow11).frozen 0)
          all_goals
            have HFIN := Lib.hid (HFALL.out _ _ _ hown11 hgrow11 hat11 hlt11)
            clear c11 f11 m0 m0' p0 p1 p2 p3 f0 hown11 hgrow11 hat11 hlt11 HFALL HOTH HROW HR9 HW9 HFD HST6
            go_wp2_with fail
            exact HFIN.out
        | some i =>
          rw [hfi] at HFD
          simp only [idxOr] at HFD
          obtain ⟨hil, hkid, hkey⟩ := keptIdx_lt hfi
          have hil' : i < rt6.l.length := by rw [hrl]; exact hil
          obtain ⟨g, cap, hvL2, hcells⟩ := HR8.out.kept hil'
          rw [hvL] at hvL2
          injection hvL2 with hg1 hg2 hg3
          subst hg1 hg3
          have hii : (i : Int) < (LN : Int) := by omega
          have hi0 : ¬ ((i : Int) < 0) := by omega
          have hi00 : 0 ≤ (i : Int) := by omega
          go_upto_region 23 with (go_at_call 49; refine HFD.out.mono ?_; rintro e w9 ⟨rfl, h9⟩; obtain rfl : w8 = w9 := h9.symm)
          refine wp_quiet_tail 8 (by kernel_rfl) (by kernel_rfl) ?_
          intro wd hwd
          have HD : Hid (Below w8.heap.size w8 wd) := by
            rw [hwd.out]
            exact (Below.refl _ _).drew
          have HRd := Lib.hid (HR8.out.below HB8.out HD.out)
          have HXd := Lib.hid (HX8.out.below HD.out)
          have HVd := Lib.hid (HV8.out.below HD.out)
          have d0 := HXd.out.cell (j := 0) rfl
          have d1 := HXd.out.cell (j := 1) rfl
          have d2 := HXd.out.cell (j := 2) rfl
          have d3 := HXd.out.cell (j := 3) rfl
          have n0 : wd.cell? ⟨M, 0, none⟩ = some (.slice (some ⟨g, 0, none⟩) LN lc) := by rw [← hvL]; exact HRd.out.box.cell (j := 0) rfl
          have HVL := Lib.hid hvL
          have HRL := Lib.hid hrl
          have HFI := Lib.hid hfi
          have HKI := Lib.hid hkid
          have HKE := Lib.hid hkey
          have HIL := Lib.hid hil'
          clear hvL hrl hfi hkid hkey hil' hcells m0 f0 p0 p1 p2 p3 hLN
          simp only [List.take_succ_cons, List.take_zero, List.drop_succ_cons, List.drop_zero]
          repeat (go_big_quiet_step (fail))
          refine wpQuiet_nil ?_
          have hvL := HVL.out
          have hrl := HRL.out
          have hfi := HFI.out
          have hkid := HKI.out
          have hkey := HKE.out
          have hil' := HIL.out
          obtain ⟨g', cap', hvL3, hcd⟩ := HRd.out.kept hil'
          rw [hvL] at hvL3
          injection hvL3 with hg1' hg2' hg3'
          injection hg1' with hg1'
          injection hg1' with hg1' _ _
          subst hg1' hg3'
          have k2 : wd.cell? ⟨g, i * 6 + 2, none⟩ = _ := hcd 2 (by omega)
          have k3 : wd.cell? ⟨g, i * 6 + 3, none⟩ = _ := hcd 3 (by omega)
          have k4 : wd.cell? ⟨g, i * 6 + 4, none⟩ = _ := hcd 4 (by omega)
          have k5 : wd.cell? ⟨g, i * 6 + 5, none⟩ = _ := hcd 5 (by omega)
          simp only [keptCells, List.getElem?_cons_succ, List.getElem?_cons_zero] at k2 k3 k4 k5
          have HFIN : Hid (Q (.returned (.int .i64 0)) ((((wd.setCell ⟨g, i * 6 + 2, none⟩ (.int .i64 v.kind)).setCell ⟨g, i * 6 + 3, none⟩ (.int .i64 v.num)).setCell ⟨g, i * 6 + 4, none⟩ (.string v.text)).setCell ⟨g, i * 6 + 5, none⟩ (.slice a7 ln c7))) := by
            obtain ⟨hs9, hS9⟩ := HRd.out.put_step (Nat.le_trans HB8.out HD.out.size) hil' hvL HVd.out
            refine HYES.out (by trivial) _ role8 (.slice (some ⟨g, 0, none⟩) LN lc) vK2 vN2 (.slice a7 ln c7) ?_ ?_
            · exact ((HM8.out.trans (Step.of_below HR8.out.hi HD.out)).trans hs9).mono fun r h => by
                rcases h with (h | h) | h
                · exact h.1
                · exact h.elim
                · rw [h]; simp
            · rw [(HST6.out _).1, hfi]
              have e : ({ rt6.l[i] with v := v, sl := .slice a7 ln c7 } : KeptT) = ⟨id, key, v, .slice a7 ln c7⟩ := by
                simp only [hrl, hkid, hkey]
              rw [e, hrl, hvL] at hS9
              exact hS9
          have HFZ : Hid (∀ j, wd.frozen? ⟨g, j, none⟩ = false) := fun j => by
            have h1 := HRd.out.l
            rw [hvL] at h1
            rcases h1.2 with ⟨h2, _⟩ | ⟨g2, cap2, cur2, h2, _, h3, _⟩
            · cases h2
            · injection h2 with h2 _ _
              injection h2 with h2
              injection h2 with h2 _ _
              subst h2
              exact frozen_of h3
          have z2 := HFZ.out (i * 6 + 2)
          have z3 := HFZ.out (i * 6 + 3)
          have z4 := HFZ.out (i * 6 + 4)
          have z5 := HFZ.out (i * 6 + 5)
          generalize rt6.l[i] = pp at k2 k3 k4 k5
          clear d0 n0 HRd HXd HVd HD hwd HST6 HFD hcd hvL hrl hfi hkid hkey hil'
          go_wp2_with fail
          exact HFIN.out
end
end Go.Proofs.YtnplmembdfklcaaGreatDoor
