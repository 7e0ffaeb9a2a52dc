/-
  The reader of dependencies: a row of dependencies beside a box that turns. Helper text; the conditions are those typed.
  The reader of dependencies: a bracket. Helper text (printed by gen_depPE.py); the conditions are those typed.
  dep.Parse: its deferred closure, and the whole. Helper text; the conditions are those typed.
-/
import Derived.Test.YtjcefgjgjhdbpaaGreatDoorDepPC
import Derived.Deep.CutBlock
import Derived.Deep.CutRange
import Derived.Deep.LoopGhost
import Derived.Tactics2
import Derived.Defers
import Derived.Recover
namespace Go.Proofs.YtjcefgjgjhdbpaaGreatDoor
set_option linter.unusedVariables false
set_option linter.unusedSimpArgs false
open Go.RowKit Go.Maps

/-- The dependencies l lie in a row of our own, from L on; their lists in other blocks; none of it in D. -/
structure DRow (w : World) (L D : Nat) (v : Value) (l : List DepT) (xs : List Value) : Prop where
  row : w.ownsRow L 73 5 v l.length xs
  ne : v.ownBlock ≠ some D
  has : ∀ j d, l[j]? = some d → ∃ cs, DepC w (fun b => New L w b ∧ b ≠ D ∧ v.ownBlock ≠ some b) d cs ∧ ∀ r u, cs[r]? = some u → xs[j * 5 + r]? = some u
theorem DRow.keep {w w' : World} {L D : Nat} {v : Value} {l : List DepT} {xs : List Value} (h : DRow w L D v l xs) (hk : ∀ b, L ≤ b → b ≠ D → b < w.heap.size → w'.heap[b]? = w.heap[b]?) : DRow w' L D v l xs := by
  refine ⟨ownsRow_to h.row fun g hg => hk g (h.row.lt g hg).1 (fun e => h.ne (by rw [hg, e])) (h.row.lt g hg).2, h.ne, fun j d hj => ?_⟩
  obtain ⟨cs, h1, h2⟩ := h.has j d hj
  exact ⟨cs, h1.keep (fun b hb => ⟨⟨hb.1.1, hb.1.2.keep (hk b hb.1.1 hb.2.1 hb.1.2.lt)⟩, hb.2⟩) (fun b hb hl => hk b hb.1.1 hb.2.1 hl) (fun _ _ => trivial), h2⟩
theorem DRow.form {w : World} {L D : Nat} {v : Value} {l : List DepT} {xs : List Value} (h : DRow w L D v l xs) : ∃ a c, v = .slice a l.length c := ownsRow_slice h.row
/-- The first. -/
theorem DRow.one {w : World} {L D g : Nat} {d : DepT} {cs : List Value} (hg : L ≤ g) (hgD : g ≠ D) (hD : ∀ b, New L w b → b < g → b ≠ D) (hb : BoxN w g cs 73) (hd : DepC w (fun b => New L w b ∧ b < g) d cs) : DRow w L D (.slice (some ⟨g, 0, none⟩) 1 1) [d] cs := by
  have h5 := hd.len
  refine ⟨⟨by rw [h5]; rfl, .inr ⟨g, 1, cs.toArray, rfl, hg, hb, Nat.le_refl _, by decide, by simp [h5], ?_⟩⟩, fun e => hgD (Option.some.inj e), fun j d' hj => ?_⟩
  · rw [List.take_of_length_le (by simp [h5])]
  · cases j with
    | zero =>
      injection hj with hj
      subst hj
      refine ⟨cs, hd.keep (fun b hb => ⟨hb.1, hD b hb.1 hb.2, fun e => ?_⟩) (fun _ _ _ => rfl) (fun _ _ => trivial), fun r u hr => by rw [Nat.zero_mul, Nat.zero_add]; exact hr⟩
      have : g = b := Option.some.inj e
      have := hb.2
      omega
    | succ j => simp at hj
/-- One more. -/
theorem DRow.step {w wa w9 : World} {L D : Nat} {v : Value} {l : List DepT} {d : DepT} {xs cs : List Value} (h : DRow w L D v l xs) (hL : L ≤ w.heap.size) (hDl : D < w.heap.size) (hsz : w.heap.size ≤ wa.heap.size) (hbk : ∀ b, L ≤ b → b ≠ D → b < w.heap.size → wa.heap[b]? = w.heap[b]?) (hv : DepC wa (New w.heap.size wa) d cs) {g cap : Nat}
    (hown : w9.ownsRow L 73 5 (.slice (some ⟨g, 0, none⟩) (l.length + 1) cap) (l.length + 1) (xs ++ cs)) (hgrow : wa.grownBy w9 v.ownBlock) (hat : v.ownBlock = some g ∨ g = wa.heap.size) : DRow w9 L D (.slice (some ⟨g, 0, none⟩) (l.length + 1) cap) (l ++ [d]) (xs ++ cs) := by
  have hxl : xs.length = l.length * 5 := h.row.1
  have hgb : ∀ b, (Value.slice (some ⟨g, 0, none⟩) (l.length + 1) cap).ownBlock ≠ some b ↔ b ≠ g := fun b => by
    show some g ≠ some b ↔ b ≠ g
    constructor
    · intro h e; exact h (by rw [e])
    · intro h e; exact h (Option.some.inj e).symm
  have hgD : g ≠ D := fun e => by
    subst e
    rcases hat with h1 | h1
    · exact h.ne h1
    · omega
  refine ⟨by rw [List.length_append, List.length_singleton]; exact hown, (hgb D).2 (Ne.symm hgD), fun j d' hj => ?_⟩
  by_cases e : j < l.length
  · rw [List.getElem?_append_left e] at hj
    obtain ⟨c2, h1, h2⟩ := h.has j d' hj
    have hk : ∀ b, New L w b ∧ b ≠ D ∧ v.ownBlock ≠ some b → w9.heap[b]? = w.heap[b]? := fun b hb' =>
      (hgrow.block b (Nat.lt_of_lt_of_le hb'.1.2.lt hsz) (fun e => hb'.2.2 e.symm)).trans (hbk b hb'.1.1 hb'.2.1 hb'.1.2.lt)
    have hng : ∀ b, New L w b ∧ b ≠ D ∧ v.ownBlock ≠ some b → b ≠ g := fun b hb' e => by
      subst e
      rcases hat with h1 | h1
      · exact hb'.2.2 h1
      · have := hb'.1.2.lt
        omega
    refine ⟨c2, h1.keep (fun b hb' => ⟨⟨hb'.1.1, hb'.1.2.keep (hk b hb')⟩, hb'.2.1, (hgb b).2 (hng b hb')⟩) (fun b hb' _ => hk b hb') (fun _ _ => trivial), fun r u hr => ?_⟩
    have hr5 : r < 5 := by
      have := (List.getElem?_eq_some_iff.1 hr).1
      rwa [h1.len] at this
    rw [List.getElem?_append_left (by omega)]
    exact h2 r u hr
  · have hj1 : j = l.length := by
      have := (List.getElem?_eq_some_iff.1 hj).1
      rw [List.length_append, List.length_singleton] at this
      omega
    subst hj1
    rw [List.getElem?_append_right (Nat.le_refl _), Nat.sub_self] at hj
    injection hj with hj
    subst hj
    have hne : ∀ b, New w.heap.size wa b → v.ownBlock ≠ some b ∧ b ≠ g := fun b hb' => by
      refine ⟨fun e => ?_, fun e => ?_⟩
      · have := (h.row.lt b e).2
        have := hb'.1
        omega
      · subst e
        rcases hat with h1 | h1
        · have := (h.row.lt b h1).2
          have := hb'.1
          omega
        · have := hb'.2.lt
          omega
    refine ⟨cs, hv.keep (fun b hb' => ⟨⟨by have := hb'.1; omega, hb'.2.keep (hgrow.block b hb'.2.lt (fun e => (hne b hb').1 e.symm))⟩, by have := hb'.1; omega, (hgb b).2 (hne b hb').2⟩) (fun b hb' hl => hgrow.block b hl (fun e => (hne b hb').1 e.symm)) (fun _ _ => trivial), fun r u hr => ?_⟩
    rw [List.getElem?_append_right (by omega), hxl, show l.length * 5 + r - l.length * 5 = r by omega]
    exact hr
/-- All of them. -/
theorem DRow.deps {w : World} {L D : Nat} {v : Value} {l : List DepT} {xs : List Value} (h : DRow w L D v l xs) (hn : l.length * 72 ≤ 140737488355328) : DepsV w (fun b => New L w b ∧ b ≠ D) l.length (fun i => l[i]) v := by
  rcases h.row.2 with ⟨e, h0⟩ | ⟨g, cap, cur, e, hg, hat, hcap, _, hsz, htake⟩
  · exact ⟨none, 0, by rw [e, h0], hn, fun h => absurd h0 h⟩
  · refine ⟨_, cap, e, hn, fun h0 => ⟨g, 0, rfl, ⟨⟨hg, _, _, hat⟩, fun e2 => h.ne (by rw [e, e2]; rfl)⟩, fun j => ?_⟩⟩
    obtain ⟨cs, h1, h2⟩ := h.has j.val l[j] (List.getElem?_eq_getElem j.isLt)
    refine ⟨cs, h1.keep (fun b hb => ⟨hb.1, hb.2.1⟩) (fun _ _ _ => rfl) (fun _ _ => trivial), fun r u hr => ?_⟩
    refine cell_of hat ?_
    have h5 := h2 r u hr
    have hlt := (List.getElem?_eq_some_iff.1 h5).1
    rw [h.row.1] at hlt
    rw [← htake, List.getElem?_take_of_lt hlt] at h5
    rw [Nat.zero_add, ← Array.getElem?_toList]
    exact h5
/-- What is known while a node is read. -/
structure NodeAt (w wx : World) (R D L : Nat) (kd : Int) (v : Value) (l : List DepT) (q : List Wd) (xs : List Value) : Prop where
  mv : Moves R w wx
  rst : RSt wx R q
  dbox : BoxN wx D [.int .i64 kd, .string ⟨#[]⟩, .int .i64 0, .string ⟨#[]⟩, v] 73
  obox : BoxN wx w.heap.size [.int .i64 0, .string ⟨#[]⟩, .int .i64 0, .string ⟨#[]⟩, .slice none 0 0] 73
  row : DRow wx L D v l xs
  lo : R < w.heap.size
  lL : w.heap.size < L
  lD : L ≤ D
theorem NodeAt.call {w wx wy : World} {R D L : Nat} {kd : Int} {v : Value} {l : List DepT} {q q' : List Wd} {xs : List Value} (h : NodeAt w wx R D L kd v l q xs) (hm : Moves R wx wy) (hr : RSt wy R q') : NodeAt w wy R D L kd v l q' xs := by
  have h1 := h.lo
  have h2 := h.lL
  have h3 := h.lD
  exact ⟨h.mv.trans hm, hr, h.dbox.to (hm.block D h.dbox.lt (by omega)), h.obox.to (hm.block _ h.obox.lt (by omega)), h.row.keep fun b hb _ hl => hm.block b hl (by omega), h1, h2, h3⟩
theorem NodeAt.below {w wx wy : World} {R D L : Nat} {kd : Int} {v : Value} {l : List DepT} {q : List Wd} {xs : List Value} (h : NodeAt w wx R D L kd v l q xs) (hb : Below wx.heap.size wx wy) : NodeAt w wy R D L kd v l q xs := h.call (.of_below hb) (h.rst.below hb)
/-- Another cell in D. -/
theorem NodeAt.kind {w wx : World} {R D L : Nat} {kd : Int} {v : Value} {l : List DepT} {q : List Wd} {xs : List Value} (h : NodeAt w wx R D L kd v l q xs) (k2 : Int) : NodeAt w (wx.setCell ⟨D, 0, none⟩ (.int .i64 k2)) R D L k2 v l q xs := by
  have h1 := h.lo
  have h2 := h.lL
  have h3 := h.lD
  exact ⟨h.mv.leave (Moves.set D wx 0 _) (by omega), h.rst.moves (set_other _ (by omega)), h.dbox.set 0 _, h.obox.to (set_other _ (by omega)), h.row.keep fun b hb hne hl => set_other _ hne, h1, h2, h3⟩
end Go.Proofs.YtjcefgjgjhdbpaaGreatDoor
namespace Go.Proofs.YtjcefgjgjhdbpaaGreatDoor
set_option linter.unusedVariables false
set_option linter.unusedSimpArgs false
open Go.RowKit Go.Maps

theorem info63 : (Tryz.prog.info? 73).map (fun i => (i.zero, i.size, i.bytes)) = some (some (.agg #[.int .i64 0, .string ⟨#[]⟩, .int .i64 0, .string ⟨#[]⟩, .slice none 0 0]), 5, 72) := by kernel_rfl
theorem NodeAt.more {w wx w2 w3 w4 : World} {R D L : Nat} {kd : Int} {v : Value} {l : List DepT} {d : DepT} {q q2 : List Wd} {xs cs : List Value} (h : NodeAt w wx R D L kd v l q xs) (hm : Moves R wx w2) (hr : RSt w2 R q2) (hd : DepC w2 (New wx.heap.size w2) d cs) (hb3 : Below w2.heap.size w2 w3) {g cap : Nat}
    (hown : w4.ownsRow L 73 5 (.slice (some ⟨g, 0, none⟩) (l.length + 1) cap) (l.length + 1) (xs ++ cs)) (hgrow : w3.grownBy w4 v.ownBlock) (hat : v.ownBlock = some g ∨ g = w3.heap.size) :
    NodeAt w (w4.setCell ⟨D, 4, none⟩ (.slice (some ⟨g, 0, none⟩) (l.length + 1) cap)) R D L kd (.slice (some ⟨g, 0, none⟩) (l.length + 1) cap) (l ++ [d]) q2 (xs ++ cs) := by
  have h1 := h.lo
  have h2 := h.lL
  have h3 := h.lD
  have hDl := h.dbox.lt
  have hOl := h.obox.lt
  have hsz : wx.heap.size ≤ w3.heap.size := Nat.le_trans hm.size hb3.size
  have hown_lo : ∀ b, v.ownBlock = some b → L ≤ b := fun b hb => (h.row.row.lt b hb).1
  have hb : ∀ b, b < wx.heap.size → b ≠ R → w3.heap[b]? = wx.heap[b]? := fun b hb hne => (hb3.block b (Nat.lt_of_lt_of_le hb hm.size)).trans (hm.block b hb hne)
  have hb4 : ∀ b, b < wx.heap.size → b ≠ R → v.ownBlock ≠ some b → w4.heap[b]? = wx.heap[b]? := fun b hbl hne ho => (hgrow.block b (Nat.lt_of_lt_of_le hbl hsz) (fun e => ho e.symm)).trans (hb b hbl hne)
  have hR2 : R < w2.heap.size := by obtain ⟨_, _, h5, _⟩ := hr; exact h5.lt
  have hR4 : w4.heap[R]? = w2.heap[R]? := (hgrow.block R (Nat.lt_of_lt_of_le hR2 hb3.size) (fun e => by have := hown_lo R e.symm; omega)).trans (hb3.block R hR2)
  have hD4 : w4.heap[D]? = wx.heap[D]? := hb4 D hDl (by omega) h.row.ne
  have hO4 : w4.heap[w.heap.size]? = wx.heap[w.heap.size]? := hb4 _ hOl (by omega) (fun e => by have := hown_lo _ e; omega)
  have hmv4 : Moves R w w4 := ⟨hgrow.os.trans (hb3.os.trans (hm.os.trans h.mv.os)), hgrow.tape.trans (hb3.tape.trans (hm.tape.trans h.mv.tape)), hgrow.output.trans (hb3.output.trans (hm.output.trans h.mv.output)), Nat.le_trans h.mv.size (Nat.le_trans hsz hgrow.size), fun b hbl hne => (hb4 b (Nat.lt_of_lt_of_le hbl h.mv.size) hne (fun e => by have := hown_lo b e; omega)).trans (h.mv.block b hbl hne)⟩
  have hrow := h.row.step (by omega) hDl hsz (fun b hb1 hne hbl => hb b hbl (by omega)) ((hd.new hb3).keep (fun b hb => hb) (fun _ _ _ => rfl) (fun _ _ => trivial)) hown hgrow hat
  exact ⟨hmv4.leave (Moves.set D w4 4 _) (by omega), (hr.moves hR4).moves (set_other _ (by omega)), (h.dbox.to hD4).set 4 _, (h.obox.to hO4).to (set_other _ (by omega)), hrow.keep fun b hb1 hne hbl => set_other _ hne, h1, h2, h3⟩
theorem hd_ne {ws : List Wd} (h : hd ws ≠ []) : ws.tail.length + 1 = ws.length := by
  cases ws with
  | nil => exact absurd rfl h
  | cons a l => simp
/-- How two words compare. -/
theorem eqW {a b : ByteArray} {x y : Wd} (ha : bs a = x) (hb : bs b = y) : (a.toList == b.toList) = decide (x = y) := by
  rw [bs_toList, bs_toList, ha, hb]
  by_cases h : x = y <;> simp [h]
theorem eqL {a : ByteArray} {x : Wd} (y : Wd) (ha : bs a = x) : (a.toList == y) = decide (x = y) := by
  rw [bs_toList, ha]
  by_cases h : x = y <;> simp [h]
theorem kindWf {k : Nat} (h : k ≤ 6) : (Lit.int .i64 (k : Int)).wf = true := by
  simp [Lit.wf, IntKind.min, IntKind.max, IntKind.bits, IntKind.signed]
  omega
set_option maxHeartbeats 8000000 in
set_option maxRecDepth 100000 in
theorem one_node {m : Nat} (ih : ∀ (ws : List Wd) (w : World) (R : Nat), RSt w R ws → ws.length < m → ws.length ≤ 1099511627776 → Calls Tryz.prog 90 #[.pointer (some ⟨R, 0, none⟩)] w (OneP R w (rdOne m ws))) {w : World} {R : Nat} {ws : List Wd} (h : RSt w R ws) (hlm : ws.length < m + 1) (hlb : ws.length ≤ 1099511627776) (h40 : hd ws = [40]) : Calls Tryz.prog 90 #[.pointer (some ⟨R, 0, none⟩)] w (OneP R w (rdOne (m + 1) ws)) := by
  have htl := hd_ne (ws := ws) (by rw [h40]; decide)
  have IH := Lib.hid ih
  obtain ⟨w0, e0⟩ : ∃ w0, w.alloc (.cells #[.int .i64 0, .string ⟨#[]⟩, .int .i64 0, .string ⟨#[]⟩, .slice none 0 0] 73) = w0 := ⟨_, rfl⟩
  have HB0 : Hid (Below w.heap.size w w0 ∧ BoxN w0 w.heap.size [.int .i64 0, .string ⟨#[]⟩, .int .i64 0, .string ⟨#[]⟩, .slice none 0 0] 73) := by
    rw [← e0]
    exact ⟨below1 _ _, boxN_alloc _ _ _⟩
  obtain ⟨t, u, hb, hu, husz⟩ := h.word
  have HRlt : Hid (R < w.heap.size) := Lib.hid hb.lt
  have HT := Lib.hid (take_c (h.below HB0.out.1))
  have hu2 := mkB_of hu
  rw [← hu2] at HT
  have hz : (u.toList == [40]) = true := by
    rw [bs_toList, hu, h40]
    rfl
  obtain ⟨POST, hPOST⟩ : ∃ P, OneP R w (rdOne (m + 1) ws) = P := ⟨_, rfl⟩
  rw [hPOST]
  obtain ⟨RES, hRES⟩ : ∃ r, rdOne (m + 1) ws = r := ⟨_, rfl⟩
  rw [hRES] at hPOST
  have HPO := Lib.hid hPOST
  have hres := hRES
  rw [rdOne, if_neg (fun e => e h40)] at hres
  have HRES := Lib.hid hres
  have HNO : Hid (RES = none → ∀ w', Moves R w w' → POST (.panicked oddD) w') := Lib.hid fun hn w' hm => by
    rw [← HPO.out, hn]
    exact ⟨rfl, hm⟩
  clear hPOST hRES hres h hb hu hu2 husz h40 ih
  go_enter Tryz.func90, Tryz.ntmps90
  go_wp2_with fail
  refine HT.out.mono ?_
  rintro e w1 ⟨rfl, h1, h2⟩
  have HR1 := Lib.hid h1
  have HM1 : Hid (Moves R w0 w1) := Lib.hid h2
  have HC := Lib.hid (IH.out ws.tail w1 R h1 (by omega) (by omega))
  clear h1 h2 HT
  cases hq : rdOne m ws.tail with
  | none =>
    have hr0 := HRES.out
    rw [hq] at hr0 HC
    have HRN : Hid (RES = none) := Lib.hid hr0.symm
    clear hr0 hq
    go_wp2_with fail
    refine HC.out.mono ?_
    rintro e w2 ⟨rfl, hm⟩
    exact ⟨rfl, HNO.out HRN.out _ (((Moves.of_below HB0.out.1).trans HM1.out).trans hm)⟩
  | some x =>
    obtain ⟨d, r⟩ := x
    have hr0 := HRES.out
    rw [hq] at hr0 HC
    simp only at hr0
    have HRR := Lib.hid hr0
    have hsuf := rdOne_suf m ws.tail d r hq
    have hrl : r.length + 2 ≤ ws.length := by have := hsuf.2; omega
    clear hr0 hq HRES hsuf
    go_upto_region 11 with (go_at_call 90; refine HC.out.mono ?_; rintro e w2 ⟨⟨k', nm', op', ev', a', n', c', rfl, hdc⟩, hrs, hmv⟩; have HDC := Lib.hid hdc; have HRS := Lib.hid hrs; have HMV := Lib.hid hmv; clear hdc hrs hmv)
    obtain ⟨w3, e3⟩ : ∃ w3, w2.alloc (.cells #[.int .i64 k', .string nm', .int .i64 op', .string ev', .slice a' n' c'] 73) = w3 := ⟨_, rfl⟩
    have HB3 : Hid (Below w2.heap.size w2 w3 ∧ BoxN w3 w2.heap.size [.int .i64 k', .string nm', .int .i64 op', .string ev', .slice a' n' c'] 73) := by
      rw [← e3]
      exact ⟨below1 _ _, boxN_alloc _ _ _⟩
    have e3s : w2.heap.size + 1 = w3.heap.size := by rw [← e3]; simp
    try rw [e3]
    try rw [e3s]
    obtain ⟨w4, e4⟩ : ∃ w4, w3.alloc (.cells #[.int .i64 0, .string ⟨#[]⟩, .int .i64 0, .string ⟨#[]⟩, .slice (some ⟨w2.heap.size, 0, none⟩) 1 1] 73) = w4 := ⟨_, rfl⟩
    have HB4 : Hid (Below w3.heap.size w3 w4 ∧ BoxN w4 w3.heap.size [.int .i64 0, .string ⟨#[]⟩, .int .i64 0, .string ⟨#[]⟩, .slice (some ⟨w2.heap.size, 0, none⟩) 1 1] 73) := by
      rw [← e4]
      exact ⟨below1 _ _, boxN_alloc _ _ _⟩
    try rw [e4]
    obtain ⟨D, hD⟩ : ∃ D, w3.heap.size = D := ⟨_, rfl⟩
    obtain ⟨L, hL⟩ : ∃ L, w1.heap.size = L := ⟨_, rfl⟩
    have HNA : Hid (NodeAt w w4 R D L 0 (.slice (some ⟨w2.heap.size, 0, none⟩) 1 1) [d] r [.int .i64 k', .string nm', .int .i64 op', .string ev', .slice a' n' c']) := Lib.hid (by
      have q1 := HRlt.out
      have q2 := HB0.out.2.lt
      have q3 := HM1.out.size
      have q4 := HMV.out.size
      have hM2 : Moves R w0 w2 := HM1.out.trans HMV.out
      have hM4 : Moves R w w4 := (((Moves.of_below HB0.out.1).trans hM2).trans (.of_below HB3.out.1)).trans (.of_below HB4.out.1)
      have hd4 := HB4.out.2
      rw [hD] at hd4
      refine ⟨hM4, (HRS.out.below HB3.out.1).below HB4.out.1, hd4, ((HB0.out.2.to (hM2.block _ q2 (by omega))).below HB3.out.1).below HB4.out.1, ?_, q1, by omega, by omega⟩
      have hx : DepC w4 (fun b => New L w4 b ∧ b < w2.heap.size) d [.int .i64 k', .string nm', .int .i64 op', .string ev', .slice a' n' c'] := by
        refine HDC.out.keep (fun b hb => ?_) (fun b hb hl => ?_) (fun _ _ => trivial)
        · rw [hL] at hb
          exact ⟨(hb.below HB3.out.1).below HB4.out.1, hb.2.lt⟩
        · exact (HB4.out.1.block b (by omega)).trans (HB3.out.1.block b hl)
      exact DRow.one (by omega) (by omega) (fun b _ hl => by omega) (HB3.out.2.below HB4.out.1) hx)
    rw [hD]
    clear e3 e4 e3s HB3 HB4 hD hL HDC HRS HMV HM1 HR1 HC HB0
    obtain ⟨t1, u1, hb1, hu1, hs1⟩ := HNA.out.rst.word
    have c1 := hb1.cell (j := 1) rfl
    have HU1 := Lib.hid hu1
    clear hb1 hs1
    by_cases hk0 : hd r = []
    · have hE1 : u1.toList.isEmpty = true := by rw [bs_toList, hu1, hk0]; rfl
      have hE2 : (u1.toList == []) = true := by rw [bs_toList, hu1, hk0]; rfl
      have HRN : Hid (RES = none) := Lib.hid (by
        have h1 := HRR.out
        rw [if_pos (by rw [hk0]; decide)] at h1
        exact h1.symm)
      clear hk0 hu1
      go_wp2_with fail
      refine (need_no w4).mono ?_
      rintro e w5 ⟨rfl, hw⟩
      subst hw
      exact ⟨rfl, HNO.out HRN.out _ HNA.out.mv⟩
    · have hE1 : u1.toList.isEmpty = false := by
        rw [bs_toList, hu1]
        cases e : hd r with
        | nil => exact absurd e hk0
        | cons a l => rfl
      have hE2 : (u1.toList == []) = false := by
        rw [bs_toList, hu1]
        simpa using hk0
      have hki := kind_idx hk0
      rw [← mkB_of hu1] at hki
      obtain ⟨q, hqq⟩ : ∃ q, Lib.idxOfS wordsL u1 = q := ⟨_, rfl⟩
      rw [hqq] at hki
      have HQ := Lib.hid hqq
      obtain ⟨k, hk⟩ : ∃ k, hd r = k := ⟨_, rfl⟩
      rw [hk] at HRR HU1 hk0 hki
      have HK := Lib.hid hk
      have HK0 := Lib.hid hk0
      clear hu1 hqq hk hk0
      go_wp2_with fail
      refine (need_yes w4).mono ?_
      rintro e w5 ⟨rfl, hw⟩
      subst hw
      clear hE1 hE2
      go_wp2_with fail
      refine (words_c w4).mono ?_
      rintro e w5 ⟨rfl, hw5⟩
      have HI := idxS_c wordsL u1 w4 7 rfl (by decide)
      rw [← hw5, HQ.out] at HI
      have HI := Lib.hid HI
      have HN5 := Lib.hid (HNA.out.below (by rw [hw5]; exact below1 _ _) : NodeAt w w5 R D L 0 (.slice (some ⟨w2.heap.size, 0, none⟩) 1 1) [d] r [.int .i64 k', .string nm', .int .i64 op', .string ev', .slice a' n' c'])
      clear hw5 c1 HNA
      have x0 := HN5.out.dbox.cell (j := 0) rfl
      have g0 : w5.frozen? ⟨D, 0, none⟩ = false := frozen_of HN5.out.dbox
      go_upto_region 14 with (go_at_call 130; refine HI.out.mono ?_; rintro e w55 ⟨rfl, hw6⟩; subst hw6)
      obtain ⟨w6, e6⟩ : ∃ w6, w55.setCell ⟨D, 0, none⟩ (.int .i64 q) = w6 := ⟨_, rfl⟩
      have HN6 : Hid (NodeAt w w6 R D L q (.slice (some ⟨w2.heap.size, 0, none⟩) 1 1) [d] r [.int .i64 k', .string nm', .int .i64 op', .string ev', .slice a' n' c']) := Lib.hid (by
        rw [← e6]
        exact HN5.out.kind q)
      rw [e6]
      clear e6 x0 g0 HN5 HI HQ
      have x0 := HN6.out.dbox.cell (j := 0) rfl
      rcases hki with ⟨h0, hq0⟩ | ⟨h0, hq1, hq6⟩
      · have hng : ¬ 0 < q := by omega
        have HRN : Hid (RES = none) := Lib.hid (by
          have h1 := HRR.out
          rw [if_pos h0] at h1
          exact h1.symm)
        clear h0 hq0
        go_wp2_with fail
        refine (need_no w6).mono ?_
        rintro e w7 ⟨rfl, hw⟩
        subst hw
        exact ⟨rfl, HNO.out HRN.out _ HN6.out.mv⟩
      · subst hq1
        have hg : 0 < kindOf k := by omega
        obtain ⟨kd, hkd⟩ : ∃ kd, kindOf k = kd := ⟨_, rfl⟩
        rw [hkd] at hg hq6 HN6 x0
        have HRM : Hid ((match rdMore (rdOne m) k (m + 1) [d] r with | none => none | some (l, q) => rdElse (rdOne m) k l q) = RES) := Lib.hid (by
          have h1 := HRR.out
          rw [if_neg h0] at h1
          exact h1)
        have HKD := Lib.hid hkd
        obtain ⟨MORE, hmore⟩ : ∃ o, rdMore (rdOne m) k (m + 1) [d] r = o := ⟨_, rfl⟩
        rw [hmore] at HRM
        have HMORE := Lib.hid hmore
        clear hmore hkd h0 HRR
        rw [HKD.out]
        go_wp2_with fail
        refine (need_yes w6).mono ?_
        rintro e w7 ⟨rfl, hw⟩
        subst hw
        go_wp2_with fail
        obtain ⟨i63, hi63, hz630, hz631, hz632⟩ := info_parts info63
        go_loopg [52] ws.length (fun gk v52 wr => ∃ (l : List DepT) (q : List Wd) (va : Option Addr) (vc : Nat) (xs : List Value) (f : Nat), q.length ≤ gk ∧ q.length < f ∧ l.length + q.length ≤ ws.length ∧ 1 ≤ l.length ∧ Hid (rdMore (rdOne m) k f l q = MORE ∧ NodeAt w wr R D L kd (.slice va l.length vc) l q xs))
        case atStart => exact ⟨[d], r, _, _, _, m + 1, by omega, by omega, by simp; omega, by simp, HMORE.out, HN6.out⟩
        case round =>
          clear HN6 HMORE x0
          obtain ⟨gJ, rfl⟩ : ∃ x : Nat, x = gk := ⟨_, rfl⟩
          obtain ⟨l, q, va, vc, xs, f, hgk, hf, hlen, hl1, HT⟩ := hrel
          obtain ⟨wa, rfl⟩ : ∃ x : World, x = wr := ⟨_, rfl⟩
          obtain ⟨f', rfl⟩ : ∃ f', f = f' + 1 := ⟨f - 1, by omega⟩
          obtain ⟨t2, u2, hb2, hu2, _⟩ := HT.out.2.rst.word
          have c1 := hb2.cell (j := 1) rfl
          have hmo := HT.out.1
          rw [rdMore] at hmo
          have HNA := Lib.hid HT.out.2
          have x4 := HNA.out.dbox.cell (j := 4) rfl
          clear hb2 HT
          by_cases hdk : hd q = k
          · have he : (u2.toList == u1.toList) = true := by rw [eqW hu2 HU1.out]; exact decide_eq_true hdk
            rw [if_pos hdk] at hmo
            have htq := hd_ne (ws := q) (by rw [hdk]; exact HK0.out)
            clear hdk hu2
            by_cases hbad : l.length ≠ 1 ∧ (k = ifW ∨ k = woW)
            · rw [if_pos hbad] at hmo
              have HRN : Hid (RES = none) := Lib.hid (by
                have h1 := HRM.out
                rw [← hmo] at h1
                exact h1.symm)
              have hln : ((l.length : Int) == 1) = false := beq_eq_false_iff_ne.2 (by omega)
              obtain ⟨_, hb⟩ := hbad
              have hkk : ((u1.toList == [105, 102]) = true) ∨ ((u1.toList == [105, 102]) = false ∧ (u1.toList == [119, 105, 116, 104, 111, 117, 116]) = true) := by
                rcases hb with hb | hb
                · exact .inl (by rw [eqL [105, 102] HU1.out]; exact decide_eq_true hb)
                · refine .inr ⟨?_, ?_⟩
                  · rw [eqL [105, 102] HU1.out, hb]
                    decide
                  · rw [eqL [119, 105, 116, 104, 111, 117, 116] HU1.out]
                    exact decide_eq_true hb
              clear hmo hb
              rcases hkk with hk1 | ⟨hk1, hk2⟩
              all_goals
                go_wp2_with fail
                refine (need_no wa).mono ?_
                rintro e wb ⟨rfl, hw⟩
                subst hw
                exact ⟨rfl, HNO.out HRN.out _ HNA.out.mv⟩
            · rw [if_neg hbad] at hmo
              have HMO := Lib.hid hmo
              have HNX := Lib.hid (next_r HNA.out.rst)
              have hkk : (((l.length : Int) == 1) = true) ∨ (((l.length : Int) == 1) = false ∧ (u1.toList == [105, 102]) = false ∧ (u1.toList == [119, 105, 116, 104, 111, 117, 116]) = false) := by
                by_cases h1 : l.length = 1
                · exact .inl (by rw [h1]; rfl)
                · refine .inr ⟨beq_eq_false_iff_ne.2 (by omega), ?_, ?_⟩
                  · rw [eqL [105, 102] HU1.out]
                    exact decide_eq_false (fun e => hbad ⟨h1, .inl e⟩)
                  · rw [eqL [119, 105, 116, 104, 111, 117, 116] HU1.out]
                    exact decide_eq_false (fun e => hbad ⟨h1, .inr e⟩)
              clear hmo hbad
              rcases hkk with hk1 | ⟨hk1, hk2, hk3⟩
              all_goals
                go_wp2_with fail
                refine (need_yes wa).mono ?_
                rintro e wb ⟨rfl, hw⟩
                subst hw
                go_wp2_with fail
                refine HNX.out.mono ?_
                rintro e wb ⟨rfl, hrb, hmb⟩
                have HNB := Lib.hid (HNA.out.call hmb hrb)
                clear hrb hmb
                cases hq2 : rdOne m q.tail with
                | none =>
                  have HRN : Hid (RES = none) := Lib.hid (by
                    have h1 := HMO.out
                    rw [hq2] at h1
                    have h2 := HRM.out
                    rw [← h1] at h2
                    exact h2.symm
                )
                  have HCI := Lib.hid (fun (W : World) (hr : RSt W R q.tail) => by
                    have h1 := IH.out q.tail W R hr (by omega) (by omega)
                    rw [hq2] at h1
                    exact h1)
                  clear hq2
                  go_upto_region 18 with fail
                  refine wp_region_ord (fun W => W.cell? ⟨D, 4, none⟩ = some (.slice va l.length vc)) 7 [(true, 0), (true, 1), (true, 2), (false, 3), (false, 4), (false, 5), (false, 6), (false, 7)] (by kernel_rfl) (by kernel_rfl) (fun _ _ d _ _ h => by cases d <;> exact h) (HNB.out.dbox.cell (j := 4) rfl) ?_
                  intro wd hwd hS
                  simp only [ordOps, List.map_cons, List.map_nil, Array.getD_eq_getD_getElem?, List.getElem?_toArray, List.getElem?_cons_succ, List.getElem?_cons_zero, Option.getD_some]
                  iterate 3 (refine wpOrd_q rfl _ (fun w' hS' K hK => (by have x1 := hS'; clear hS'; go_simp; exact hK)) (fun K hK => ?_); go_simp; refine hK _ ?_; clear hK K)
                  have HBd : Hid (Below wb.heap.size wb wd) := Lib.hid (by rw [hwd.out]; exact below_dr1 (Below.refl _ _))
                  have HNd := Lib.hid (HNB.out.below HBd.out)
                  clear hS hwd
                  refine wpOrd_l rfl (fun K hK => ?_)
                  go_simp
                  refine (HCI.out wd HNd.out.rst).mono ?_
                  rintro e wn ⟨rfl, hm⟩
                  exact ⟨rfl, HNO.out HRN.out _ (HNd.out.mv.trans hm)⟩
                | some y =>
                  obtain ⟨d2, q2⟩ := y
                  have hsf := (rdOne_suf m q.tail d2 q2 hq2).2
                  have HQ2 := Lib.hid hq2
                  have HCI := Lib.hid (fun (W : World) (hr : RSt W R q.tail) => by
                    have h1 := IH.out q.tail W R hr (by omega) (by omega)
                    rw [hq2] at h1
                    exact h1)
                  clear hq2
                  go_upto_region 18 with fail
                  refine wp_region_ord (fun W => W.cell? ⟨D, 4, none⟩ = some (.slice va l.length vc)) 7 [(true, 0), (true, 1), (true, 2), (false, 3), (false, 4), (false, 5), (false, 6), (false, 7)] (by kernel_rfl) (by kernel_rfl) (fun _ _ d _ _ h => by cases d <;> exact h) (HNB.out.dbox.cell (j := 4) rfl) ?_
                  intro wd hwd hS
                  simp only [ordOps, List.map_cons, List.map_nil, Array.getD_eq_getD_getElem?, List.getElem?_toArray, List.getElem?_cons_succ, List.getElem?_cons_zero, Option.getD_some]
                  iterate 3 (refine wpOrd_q rfl _ (fun w' hS' K hK => (by have x1 := hS'; clear hS'; go_simp; exact hK)) (fun K hK => ?_); go_simp; refine hK _ ?_; clear hK K)
                  have HBd : Hid (Below wb.heap.size wb wd) := Lib.hid (by rw [hwd.out]; exact below_dr1 (Below.refl _ _))
                  have HNd := Lib.hid (HNB.out.below HBd.out)
                  clear hS hwd
                  refine wpOrd_l rfl (fun K hK => ?_)
                  go_simp
                  refine (HCI.out wd HNd.out.rst).mono ?_
                  rintro e wn ⟨⟨ky, ny, oy, ey, ay, py, cy, rfl, hdc⟩, hrs, hm⟩
                  have HDCn := Lib.hid hdc
                  have HRSn := Lib.hid hrs
                  have HMn := Lib.hid hm
                  have HDS : Hid (D < wd.heap.size ∧ D ≠ R) := Lib.hid ⟨HNd.out.dbox.lt, by have h1 := HNd.out.lo; have h2 := HNd.out.lL; have h3 := HNd.out.lD; omega⟩
                  have HSn : Hid (wn.cell? ⟨D, 4, none⟩ = some (.slice va l.length vc)) := Lib.hid ((HNd.out.dbox.to (HMn.out.block D HDS.out.1 HDS.out.2)).cell (j := 4) rfl)
                  clear hdc hrs hm
                  go_simp
                  refine hK _ _ ⟨fun _ => HSn.out, ?_⟩
                  clear hK K
                  obtain ⟨wp, ep⟩ : ∃ wp, wn.alloc (.cells #[.int .i64 ky, .string ny, .int .i64 oy, .string ey, .slice ay py cy] 73) = wp := ⟨_, rfl⟩
                  have HBp : Hid (Below wn.heap.size wn wp ∧ BoxN wp wn.heap.size [.int .i64 ky, .string ny, .int .i64 oy, .string ey, .slice ay py cy] 73) := by
                    rw [← ep]
                    exact ⟨below1 _ _, boxN_alloc _ _ _⟩
                  have HSp : Hid (wp.cell? ⟨D, 4, none⟩ = some (.slice va l.length vc)) := Lib.hid (cell_tr HBp.out.1 HSn.out)
                  refine wpOrd_l rfl (fun K hK => ?_)
                  go_simp
                  refine hK _ _ ⟨fun _ => HSp.out, ?_⟩
                  clear hK K ep
                  have HRp : Hid (wp.ownsRow L 73 5 (.slice va l.length vc) l.length xs) := Lib.hid (ownsRow_to HNd.out.row.row fun g hg => by
                    have h1 := (HNd.out.row.row.lt g hg).1
                    have h2 := (HNd.out.row.row.lt g hg).2
                    have h3 := HNd.out.lo
                    have h4 := HNd.out.lL
                    exact (HBp.out.1.block g (Nat.lt_of_lt_of_le h2 HMn.out.size)).trans (HMn.out.block g h2 (by omega)))
                  have hLp : L ≤ wp.heap.size := by
                    have h1 := HNd.out.lD
                    have h2 := HDS.out.1
                    have h3 := HMn.out.size
                    have h4 := HBp.out.1.size
                    omega
                  have HDW : Hid (D < wp.heap.size) := Lib.hid (by have h2 := HDS.out.1; have h3 := HMn.out.size; have h4 := HBp.out.1.size; omega)
                  refine wpOrd_l rfl (fun K hK => ?_)
                  refine wp_append_lies _ (.tmp 74) (.tmp 77) 33 rfl L 73 i63 _ 5 72 Tryz.underlying33 hi63 hz630 hz631 hz632 rfl (by decide) (.slice va l.length vc) l.length xs rfl HRp.out ⟨wn.heap.size, 0, none⟩ 1 1 [.int .i64 ky, .string ny, .int .i64 oy, .string ey, .slice ay py cy] rfl rfl (World.news_of_block (cs := #[.int .i64 ky, .string ny, .int .i64 oy, .string ey, .slice ay py cy]) (t := 73) (fr := (0, 0)) HBp.out.2) (by intro u hu; simp only [List.mem_cons, List.not_mem_nil, or_false] at hu; rcases hu with rfl | rfl | rfl | rfl | rfl <;> rfl) (by decide) (by unfold maxLen; omega) (by omega) hLp _ rfl ?_
                  intro g9 c9 wq hown9 hgrow9 hat9 hlt9
                  have HNq := Lib.hid (HNd.out.more HMn.out HRSn.out HDCn.out HBp.out.1 hown9 hgrow9 hat9)
                  have HSq : Hid (wq.heap[D]? = wp.heap[D]?) := Lib.hid (hgrow9.block D HDW.out (fun e => HNd.out.row.ne e.symm))
                  have HDBp : Hid (BoxN wp D [.int .i64 kd, .string ⟨#[]⟩, .int .i64 0, .string ⟨#[]⟩, .slice va l.length vc] 73) := Lib.hid ((HNd.out.dbox.to (HMn.out.block D HDS.out.1 HDS.out.2)).below HBp.out.1)
                  have HDBq := Lib.hid (HDBp.out.to HSq.out)
                  clear hown9 hgrow9 hat9 hlt9
                  refine hK _ _ ⟨fun _ => HDBq.out.cell (j := 4) rfl, ?_⟩
                  clear hK K
                  refine wpOrd_l rfl (fun K hK => ?_)
                  go_simp
                  refine hK _ _ ⟨fun _ => HDBq.out.cell (j := 4) rfl, ?_⟩
                  clear hK K
                  have y4 := HDBq.out.cell (j := 4) rfl
                  have f4 : wq.frozen? ⟨D, 4, none⟩ = false := frozen_of HDBq.out
                  refine wpOrd_l rfl (fun K hK => ?_)
                  go_simp
                  refine hK _ _ ⟨fun h => absurd rfl h, ?_⟩
                  clear hK K
                  refine wpOrd_nil ?_
                  obtain ⟨wz, ez⟩ : ∃ wz, wq.setCell ⟨D, 4, none⟩ (.slice (some ⟨g9, 0, none⟩) (l.length + 1) c9) = wz := ⟨_, rfl⟩
                  rw [ez] at HNq
                  try rw [ez]
                  clear y4 f4 ez HDBq HDBp HSq HDW HRp HSp HSn HBp HDS HDCn HRSn HMn HNd HBd
                  go_wp2_with fail
                  go_roundg (gJ - 1)
                  case measure => omega
                  case rel =>
                    refine ⟨l ++ [d2], q2, some ⟨g9, 0, none⟩, c9, xs ++ [.int .i64 ky, .string ny, .int .i64 oy, .string ey, .slice ay py cy], f', by omega, by omega, by rw [List.length_append, List.length_singleton]; omega, by rw [List.length_append, List.length_singleton]; omega, ?_, ?_⟩
                    · have h1 := HMO.out
                      rw [HQ2.out] at h1
                      exact h1
                    · rw [List.length_append, List.length_singleton]
                      exact HNq.out
          · have he : (u2.toList == u1.toList) = false := by rw [eqW hu2 HU1.out]; exact decide_eq_false hdk
            rw [if_neg hdk] at hmo
            have HRE : Hid (rdElse (rdOne m) k l q = RES) := Lib.hid (by
              have h1 := HRM.out
              rw [← hmo] at h1
              exact h1)
            clear hmo hdk
            by_cases hel : k = ifW ∧ hd q = elseW
            · have hk1 : (u1.toList == [105, 102]) = true := by rw [eqL [105, 102] HU1.out]; exact decide_eq_true hel.1
              have hk2 : (u2.toList == [101, 108, 115, 101]) = true := by rw [eqL [101, 108, 115, 101] hu2]; exact decide_eq_true hel.2
              have htq := hd_ne (ws := q) (by rw [hel.2]; decide)
              have HREL := Lib.hid (by
                have h1 := HRE.out
                unfold rdElse at h1
                rw [if_pos hel] at h1
                exact h1 : (match rdOne m q.tail with | none => none | some (d, r) => rdEnd k (l ++ [d]) r) = RES)
              have HNX := Lib.hid (next_r HNA.out.rst)
              clear hel hu2
              go_wp2_with fail
              refine HNX.out.mono ?_
              rintro e wb ⟨rfl, hrb, hmb⟩
              have HNB := Lib.hid (HNA.out.call hmb hrb)
              clear hrb hmb
              cases hq2 : rdOne m q.tail with
              | none =>
                have HRN : Hid (RES = none) := Lib.hid (by
                  have h1 := HREL.out
                  rw [hq2] at h1
                  exact h1.symm
              )
                have HCI := Lib.hid (fun (W : World) (hr : RSt W R q.tail) => by
                  have h1 := IH.out q.tail W R hr (by omega) (by omega)
                  rw [hq2] at h1
                  exact h1)
                clear hq2
                go_upto_region 21 with fail
                refine wp_region_ord (fun W => W.cell? ⟨D, 4, none⟩ = some (.slice va l.length vc)) 7 [(true, 0), (true, 1), (true, 2), (false, 3), (false, 4), (false, 5), (false, 6), (false, 7)] (by kernel_rfl) (by kernel_rfl) (fun _ _ d _ _ h => by cases d <;> exact h) (HNB.out.dbox.cell (j := 4) rfl) ?_
                intro wd hwd hS
                simp only [ordOps, List.map_cons, List.map_nil, Array.getD_eq_getD_getElem?, List.getElem?_toArray, List.getElem?_cons_succ, List.getElem?_cons_zero, Option.getD_some]
                iterate 3 (refine wpOrd_q rfl _ (fun w' hS' K hK => (by have x1 := hS'; clear hS'; go_simp; exact hK)) (fun K hK => ?_); go_simp; refine hK _ ?_; clear hK K)
                have HBd : Hid (Below wb.heap.size wb wd) := Lib.hid (by rw [hwd.out]; exact below_dr1 (Below.refl _ _))
                have HNd := Lib.hid (HNB.out.below HBd.out)
                clear hS hwd
                refine wpOrd_l rfl (fun K hK => ?_)
                go_simp
                refine (HCI.out wd HNd.out.rst).mono ?_
                rintro e wn ⟨rfl, hm⟩
                exact ⟨rfl, HNO.out HRN.out _ (HNd.out.mv.trans hm)⟩
              | some y =>
                obtain ⟨d2, q2⟩ := y
                have hsf := (rdOne_suf m q.tail d2 q2 hq2).2
                have HQ2 := Lib.hid hq2
                have HCI := Lib.hid (fun (W : World) (hr : RSt W R q.tail) => by
                  have h1 := IH.out q.tail W R hr (by omega) (by omega)
                  rw [hq2] at h1
                  exact h1)
                clear hq2
                go_upto_region 21 with fail
                refine wp_region_ord (fun W => W.cell? ⟨D, 4, none⟩ = some (.slice va l.length vc)) 7 [(true, 0), (true, 1), (true, 2), (false, 3), (false, 4), (false, 5), (false, 6), (false, 7)] (by kernel_rfl) (by kernel_rfl) (fun _ _ d _ _ h => by cases d <;> exact h) (HNB.out.dbox.cell (j := 4) rfl) ?_
                intro wd hwd hS
                simp only [ordOps, List.map_cons, List.map_nil, Array.getD_eq_getD_getElem?, List.getElem?_toArray, List.getElem?_cons_succ, List.getElem?_cons_zero, Option.getD_some]
                iterate 3 (refine wpOrd_q rfl _ (fun w' hS' K hK => (by have x1 := hS'; clear hS'; go_simp; exact hK)) (fun K hK => ?_); go_simp; refine hK _ ?_; clear hK K)
                have HBd : Hid (Below wb.heap.size wb wd) := Lib.hid (by rw [hwd.out]; exact below_dr1 (Below.refl _ _))
                have HNd := Lib.hid (HNB.out.below HBd.out)
                clear hS hwd
                refine wpOrd_l rfl (fun K hK => ?_)
                go_simp
                refine (HCI.out wd HNd.out.rst).mono ?_
                rintro e wn ⟨⟨ky, ny, oy, ey, ay, py, cy, rfl, hdc⟩, hrs, hm⟩
                have HDCn := Lib.hid hdc
                have HRSn := Lib.hid hrs
                have HMn := Lib.hid hm
                have HDS : Hid (D < wd.heap.size ∧ D ≠ R) := Lib.hid ⟨HNd.out.dbox.lt, by have h1 := HNd.out.lo; have h2 := HNd.out.lL; have h3 := HNd.out.lD; omega⟩
                have HSn : Hid (wn.cell? ⟨D, 4, none⟩ = some (.slice va l.length vc)) := Lib.hid ((HNd.out.dbox.to (HMn.out.block D HDS.out.1 HDS.out.2)).cell (j := 4) rfl)
                clear hdc hrs hm
                go_simp
                refine hK _ _ ⟨fun _ => HSn.out, ?_⟩
                clear hK K
                obtain ⟨wp, ep⟩ : ∃ wp, wn.alloc (.cells #[.int .i64 ky, .string ny, .int .i64 oy, .string ey, .slice ay py cy] 73) = wp := ⟨_, rfl⟩
                have HBp : Hid (Below wn.heap.size wn wp ∧ BoxN wp wn.heap.size [.int .i64 ky, .string ny, .int .i64 oy, .string ey, .slice ay py cy] 73) := by
                  rw [← ep]
                  exact ⟨below1 _ _, boxN_alloc _ _ _⟩
                have HSp : Hid (wp.cell? ⟨D, 4, none⟩ = some (.slice va l.length vc)) := Lib.hid (cell_tr HBp.out.1 HSn.out)
                refine wpOrd_l rfl (fun K hK => ?_)
                go_simp
                refine hK _ _ ⟨fun _ => HSp.out, ?_⟩
                clear hK K ep
                have HRp : Hid (wp.ownsRow L 73 5 (.slice va l.length vc) l.length xs) := Lib.hid (ownsRow_to HNd.out.row.row fun g hg => by
                  have h1 := (HNd.out.row.row.lt g hg).1
                  have h2 := (HNd.out.row.row.lt g hg).2
                  have h3 := HNd.out.lo
                  have h4 := HNd.out.lL
                  exact (HBp.out.1.block g (Nat.lt_of_lt_of_le h2 HMn.out.size)).trans (HMn.out.block g h2 (by omega)))
                have hLp : L ≤ wp.heap.size := by
                  have h1 := HNd.out.lD
                  have h2 := HDS.out.1
                  have h3 := HMn.out.size
                  have h4 := HBp.out.1.size
                  omega
                have HDW : Hid (D < wp.heap.size) := Lib.hid (by have h2 := HDS.out.1; have h3 := HMn.out.size; have h4 := HBp.out.1.size; omega)
                refine wpOrd_l rfl (fun K hK => ?_)
                refine wp_append_lies _ (.tmp 92) (.tmp 95) 33 rfl L 73 i63 _ 5 72 Tryz.underlying33 hi63 hz630 hz631 hz632 rfl (by decide) (.slice va l.length vc) l.length xs rfl HRp.out ⟨wn.heap.size, 0, none⟩ 1 1 [.int .i64 ky, .string ny, .int .i64 oy, .string ey, .slice ay py cy] rfl rfl (World.news_of_block (cs := #[.int .i64 ky, .string ny, .int .i64 oy, .string ey, .slice ay py cy]) (t := 73) (fr := (0, 0)) HBp.out.2) (by intro u hu; simp only [List.mem_cons, List.not_mem_nil, or_false] at hu; rcases hu with rfl | rfl | rfl | rfl | rfl <;> rfl) (by decide) (by unfold maxLen; omega) (by omega) hLp _ rfl ?_
                intro g9 c9 wq hown9 hgrow9 hat9 hlt9
                have HNq := Lib.hid (HNd.out.more HMn.out HRSn.out HDCn.out HBp.out.1 hown9 hgrow9 hat9)
                have HSq : Hid (wq.heap[D]? = wp.heap[D]?) := Lib.hid (hgrow9.block D HDW.out (fun e => HNd.out.row.ne e.symm))
                have HDBp : Hid (BoxN wp D [.int .i64 kd, .string ⟨#[]⟩, .int .i64 0, .string ⟨#[]⟩, .slice va l.length vc] 73) := Lib.hid ((HNd.out.dbox.to (HMn.out.block D HDS.out.1 HDS.out.2)).below HBp.out.1)
                have HDBq := Lib.hid (HDBp.out.to HSq.out)
                clear hown9 hgrow9 hat9 hlt9
                refine hK _ _ ⟨fun _ => HDBq.out.cell (j := 4) rfl, ?_⟩
                clear hK K
                refine wpOrd_l rfl (fun K hK => ?_)
                go_simp
                refine hK _ _ ⟨fun _ => HDBq.out.cell (j := 4) rfl, ?_⟩
                clear hK K
                have y4 := HDBq.out.cell (j := 4) rfl
                have f4 : wq.frozen? ⟨D, 4, none⟩ = false := frozen_of HDBq.out
                refine wpOrd_l rfl (fun K hK => ?_)
                go_simp
                refine hK _ _ ⟨fun h => absurd rfl h, ?_⟩
                clear hK K
                refine wpOrd_nil ?_
                obtain ⟨wz, ez⟩ : ∃ wz, wq.setCell ⟨D, 4, none⟩ (.slice (some ⟨g9, 0, none⟩) (l.length + 1) c9) = wz := ⟨_, rfl⟩
                rw [ez] at HNq
                try rw [ez]
                clear y4 f4 ez HDBq HDBp HSq HDW HRp HSp HSn HBp HDS HDCn HRSn HMn HNd HBd
                have HREN : Hid (rdEnd k (l ++ [d2]) q2 = RES) := Lib.hid (by
                  have h1 := HREL.out
                  rw [HQ2.out] at h1
                  exact h1)
                have hle : (l ++ [d2]).length = l.length + 1 := by rw [List.length_append, List.length_singleton]
                obtain ⟨l2, hl2⟩ : ∃ l2, l ++ [d2] = l2 := ⟨_, rfl⟩
                rw [hl2] at hle HREN HNq
                rw [← hle] at HNq ⊢
                have hl2b : l2.length ≤ 1099511627776 := by omega
                clear hl2 hle
                obtain ⟨t3, u3, hb3, hu3, hs3⟩ := HNq.out.rst.word
                have HT3 := Lib.hid (take_c HNq.out.rst)
                rw [← mkB_of hu3] at HT3
                by_cases h41 : hd q2 = [41]
                · have h4b : (u3.toList == [41]) = true := by rw [eqL [41] hu3]; exact decide_eq_true h41
                  have HRF : Hid (RES = some (nodeT kd l2, q2.tail)) := Lib.hid (by
                    have h1 := HREN.out
                    unfold rdEnd at h1
                    rw [if_pos h41, HKD.out] at h1
                    exact h1.symm)
                  clear hb3 hu3 hs3 h41
                  go_wp2_with fail
                  refine HT3.out.mono ?_
                  rintro e wt ⟨rfl, hr3, hm3⟩
                  have HN3 := Lib.hid (HNq.out.call hm3 hr3)
                  clear hr3 hm3
                  go_wp2_with fail
                  refine (need_yes wt).mono ?_
                  rintro e wu ⟨rfl, hw⟩
                  subst hw
                  have x0 := HN3.out.dbox.cell (j := 0) rfl
                  have x1 := HN3.out.dbox.cell (j := 1) rfl
                  have x2 := HN3.out.dbox.cell (j := 2) rfl
                  have x3 := HN3.out.dbox.cell (j := 3) rfl
                  have x4 := HN3.out.dbox.cell (j := 4) rfl
                  have z0 := HN3.out.obox.cell (j := 0) rfl
                  have z1 := HN3.out.obox.cell (j := 1) rfl
                  have z2 := HN3.out.obox.cell (j := 2) rfl
                  have z3 := HN3.out.obox.cell (j := 3) rfl
                  have z4 := HN3.out.obox.cell (j := 4) rfl
                  have g0 : wt.frozen? ⟨w.heap.size, 0, none⟩ = false := frozen_of HN3.out.obox
                  have g1 : wt.frozen? ⟨w.heap.size, 1, none⟩ = false := frozen_of HN3.out.obox
                  have g2 : wt.frozen? ⟨w.heap.size, 2, none⟩ = false := frozen_of HN3.out.obox
                  have g3 : wt.frozen? ⟨w.heap.size, 3, none⟩ = false := frozen_of HN3.out.obox
                  have g4 : wt.frozen? ⟨w.heap.size, 4, none⟩ = false := frozen_of HN3.out.obox
                  obtain ⟨w9, e9⟩ : ∃ w9, (((((wt.setCell ⟨w.heap.size, 0, none⟩ (.int .i64 (kd : Int))).setCell ⟨w.heap.size, 1, none⟩ (.string ⟨#[]⟩)).setCell ⟨w.heap.size, 2, none⟩ (.int .i64 0)).setCell ⟨w.heap.size, 3, none⟩ (.string ⟨#[]⟩)).setCell ⟨w.heap.size, 4, none⟩ (.slice (some ⟨g9, 0, none⟩) l2.length c9)) = w9 := ⟨_, rfl⟩
                  have HB9 : Hid (BoxN w9 w.heap.size [.int .i64 (kd : Int), .string ⟨#[]⟩, .int .i64 0, .string ⟨#[]⟩, .slice (some ⟨g9, 0, none⟩) l2.length c9] 73 ∧ Moves w.heap.size wt w9) := Lib.hid (by
                    rw [← e9]
                    exact ⟨fill5 HN3.out.obox _ _ _ _ _, ((((Moves.set _ _ _ _).trans (Moves.set _ _ _ _)).trans (Moves.set _ _ _ _)).trans (Moves.set _ _ _ _)).trans (Moves.set _ _ _ _)⟩)
                  have y0 := HB9.out.1.cell (j := 0) rfl
                  have y1 := HB9.out.1.cell (j := 1) rfl
                  have y2 := HB9.out.1.cell (j := 2) rfl
                  have y3 := HB9.out.1.cell (j := 3) rfl
                  have y4 := HB9.out.1.cell (j := 4) rfl
                  have HF : Hid (POST (.returned (.agg #[.int .i64 (kd : Int), .string ⟨#[]⟩, .int .i64 0, .string ⟨#[]⟩, .slice (some ⟨g9, 0, none⟩) l2.length c9])) w9) := Lib.hid (by
                    have q1 := HN3.out.lo
                    have q2 := HN3.out.lL
                    have q3 := HN3.out.lD
                    have hsame : ∀ b, L ≤ b → b < wt.heap.size → w9.heap[b]? = wt.heap[b]? := fun b hb hl => HB9.out.2.block b hl (by omega)
                    rw [← HPO.out, HRF.out]
                    refine ⟨⟨_, _, _, _, _, _, _, rfl, ?_⟩, HN3.out.rst.moves (HB9.out.2.block R (by obtain ⟨_, _, h5, _⟩ := HN3.out.rst; exact h5.lt) (by omega)), HN3.out.mv.leave HB9.out.2 (Nat.le_refl _)⟩
                    refine depC_iff.2 ⟨_, rfl, kindWf hq6, by decide, by decide, ?_⟩
                    exact (HN3.out.row.deps (by omega)).keep (fun b hb => ⟨by have := hb.1.1; omega, hb.1.2.keep (hsame b hb.1.1 hb.1.2.lt)⟩) (fun b hb hl => hsame b hb.1.1 hl))
                  go_wp2_with fail
                  refine bodyPost_ret (v := .agg #[.int .i64 (kd : Int), .string ⟨#[]⟩, .int .i64 0, .string ⟨#[]⟩, .slice (some ⟨g9, 0, none⟩) l2.length c9]) (by simp [results, Tryz.results90, go_sem, y0, y1, y2, y3, y4]) rfl ?_
                  exact HF.out
                · have h4b : (u3.toList == [41]) = false := by rw [eqL [41] hu3]; exact decide_eq_false h41
                  have HRN : Hid (RES = none) := Lib.hid (by
                    have h1 := HREN.out
                    unfold rdEnd at h1
                    rw [if_neg h41] at h1
                    exact h1.symm)
                  clear hb3 hu3 hs3 h41
                  go_wp2_with fail
                  refine HT3.out.mono ?_
                  rintro e wt ⟨rfl, hr3, hm3⟩
                  have HN3 := Lib.hid (HNq.out.call hm3 hr3)
                  clear hr3 hm3
                  go_wp2_with fail
                  refine (need_no wt).mono ?_
                  rintro e wu ⟨rfl, hw⟩
                  subst hw
                  exact ⟨rfl, HNO.out HRN.out _ HN3.out.mv⟩
            · have HREN : Hid (rdEnd k l q = RES) := Lib.hid (by
                have h1 := HRE.out
                unfold rdElse at h1
                rw [if_neg hel] at h1
                exact h1)
              have hl2b : l.length ≤ 1099511627776 := by omega
              have hkk : ((u1.toList == [105, 102]) = false) ∨ ((u1.toList == [105, 102]) = true ∧ (u2.toList == [101, 108, 115, 101]) = false) := by
                by_cases h1 : k = ifW
                · refine .inr ⟨by rw [eqL [105, 102] HU1.out]; exact decide_eq_true h1, ?_⟩
                  rw [eqL [101, 108, 115, 101] hu2]
                  exact decide_eq_false (fun e => hel ⟨h1, e⟩)
                · exact .inl (by rw [eqL [105, 102] HU1.out]; exact decide_eq_false h1)
              clear hel hu2
              rcases hkk with hk1 | ⟨hk1, hk2⟩
              all_goals
                obtain ⟨t3, u3, hb3, hu3, hs3⟩ := HNA.out.rst.word
                have HT3 := Lib.hid (take_c HNA.out.rst)
                rw [← mkB_of hu3] at HT3
                by_cases h41 : hd q = [41]
                · have h4b : (u3.toList == [41]) = true := by rw [eqL [41] hu3]; exact decide_eq_true h41
                  have HRF : Hid (RES = some (nodeT kd l, q.tail)) := Lib.hid (by
                    have h1 := HREN.out
                    unfold rdEnd at h1
                    rw [if_pos h41, HKD.out] at h1
                    exact h1.symm)
                  clear hb3 hu3 hs3 h41
                  go_wp2_with fail
                  refine HT3.out.mono ?_
                  rintro e wt ⟨rfl, hr3, hm3⟩
                  have HN3 := Lib.hid (HNA.out.call hm3 hr3)
                  clear hr3 hm3
                  go_wp2_with fail
                  refine (need_yes wt).mono ?_
                  rintro e wu ⟨rfl, hw⟩
                  subst hw
                  have x0 := HN3.out.dbox.cell (j := 0) rfl
                  have x1 := HN3.out.dbox.cell (j := 1) rfl
                  have x2 := HN3.out.dbox.cell (j := 2) rfl
                  have x3 := HN3.out.dbox.cell (j := 3) rfl
                  have x4 := HN3.out.dbox.cell (j := 4) rfl
                  have z0 := HN3.out.obox.cell (j := 0) rfl
                  have z1 := HN3.out.obox.cell (j := 1) rfl
                  have z2 := HN3.out.obox.cell (j := 2) rfl
                  have z3 := HN3.out.obox.cell (j := 3) rfl
                  have z4 := HN3.out.obox.cell (j := 4) rfl
                  have g0 : wt.frozen? ⟨w.heap.size, 0, none⟩ = false := frozen_of HN3.out.obox
                  have g1 : wt.frozen? ⟨w.heap.size, 1, none⟩ = false := frozen_of HN3.out.obox
                  have g2 : wt.frozen? ⟨w.heap.size, 2, none⟩ = false := frozen_of HN3.out.obox
                  have g3 : wt.frozen? ⟨w.heap.size, 3, none⟩ = false := frozen_of HN3.out.obox
                  have g4 : wt.frozen? ⟨w.heap.size, 4, none⟩ = false := frozen_of HN3.out.obox
                  obtain ⟨w9, e9⟩ : ∃ w9, (((((wt.setCell ⟨w.heap.size, 0, none⟩ (.int .i64 (kd : Int))).setCell ⟨w.heap.size, 1, none⟩ (.string ⟨#[]⟩)).setCell ⟨w.heap.size, 2, none⟩ (.int .i64 0)).setCell ⟨w.heap.size, 3, none⟩ (.string ⟨#[]⟩)).setCell ⟨w.heap.size, 4, none⟩ (.slice va l.length vc)) = w9 := ⟨_, rfl⟩
                  have HB9 : Hid (BoxN w9 w.heap.size [.int .i64 (kd : Int), .string ⟨#[]⟩, .int .i64 0, .string ⟨#[]⟩, .slice va l.length vc] 73 ∧ Moves w.heap.size wt w9) := Lib.hid (by
                    rw [← e9]
                    exact ⟨fill5 HN3.out.obox _ _ _ _ _, ((((Moves.set _ _ _ _).trans (Moves.set _ _ _ _)).trans (Moves.set _ _ _ _)).trans (Moves.set _ _ _ _)).trans (Moves.set _ _ _ _)⟩)
                  have y0 := HB9.out.1.cell (j := 0) rfl
                  have y1 := HB9.out.1.cell (j := 1) rfl
                  have y2 := HB9.out.1.cell (j := 2) rfl
                  have y3 := HB9.out.1.cell (j := 3) rfl
                  have y4 := HB9.out.1.cell (j := 4) rfl
                  have HF : Hid (POST (.returned (.agg #[.int .i64 (kd : Int), .string ⟨#[]⟩, .int .i64 0, .string ⟨#[]⟩, .slice va l.length vc])) w9) := Lib.hid (by
                    have q1 := HN3.out.lo
                    have q2 := HN3.out.lL
                    have q3 := HN3.out.lD
                    have hsame : ∀ b, L ≤ b → b < wt.heap.size → w9.heap[b]? = wt.heap[b]? := fun b hb hl => HB9.out.2.block b hl (by omega)
                    rw [← HPO.out, HRF.out]
                    refine ⟨⟨_, _, _, _, _, _, _, rfl, ?_⟩, HN3.out.rst.moves (HB9.out.2.block R (by obtain ⟨_, _, h5, _⟩ := HN3.out.rst; exact h5.lt) (by omega)), HN3.out.mv.leave HB9.out.2 (Nat.le_refl _)⟩
                    refine depC_iff.2 ⟨_, rfl, kindWf hq6, by decide, by decide, ?_⟩
                    exact (HN3.out.row.deps (by omega)).keep (fun b hb => ⟨by have := hb.1.1; omega, hb.1.2.keep (hsame b hb.1.1 hb.1.2.lt)⟩) (fun b hb hl => hsame b hb.1.1 hl))
                  go_wp2_with fail
                  refine bodyPost_ret (v := .agg #[.int .i64 (kd : Int), .string ⟨#[]⟩, .int .i64 0, .string ⟨#[]⟩, .slice va l.length vc]) (by simp [results, Tryz.results90, go_sem, y0, y1, y2, y3, y4]) rfl ?_
                  exact HF.out
                · have h4b : (u3.toList == [41]) = false := by rw [eqL [41] hu3]; exact decide_eq_false h41
                  have HRN : Hid (RES = none) := Lib.hid (by
                    have h1 := HREN.out
                    unfold rdEnd at h1
                    rw [if_neg h41] at h1
                    exact h1.symm)
                  clear hb3 hu3 hs3 h41
                  go_wp2_with fail
                  refine HT3.out.mono ?_
                  rintro e wt ⟨rfl, hr3, hm3⟩
                  have HN3 := Lib.hid (HNA.out.call hm3 hr3)
                  clear hr3 hm3
                  go_wp2_with fail
                  refine (need_no wt).mono ?_
                  rintro e wu ⟨rfl, hw⟩
                  subst hw
                  exact ⟨rfl, HNO.out HRN.out _ HN3.out.mv⟩
end Go.Proofs.YtjcefgjgjhdbpaaGreatDoor
namespace Go.Proofs.YtjcefgjgjhdbpaaGreatDoor
set_option linter.unusedVariables false
set_option linter.unusedSimpArgs false
open Go.RowKit Go.Maps

theorem one_c : ∀ (n : Nat) (ws : List Wd) (w : World) (R : Nat), RSt w R ws → ws.length < n → ws.length ≤ 1099511627776 → Calls Tryz.prog 90 #[.pointer (some ⟨R, 0, none⟩)] w (OneP R w (rdOne n ws))
  | 0, _, _, _, _, h, _ => absurd h (Nat.not_lt_zero _)
  | n + 1, ws, w, R, hr, hl, hb => by
    by_cases h40 : hd ws = [40]
    · exact one_node (one_c n) hr hl hb h40
    · have h1 := one_leaf hr h40
      rw [rdOne, if_pos h40]
      exact h1
theorem ta_yes (W : World) : (Instr.typeAssert (.iface 112 (.agg #[])) 20 112 true).run Tryz.prog W = .ok (.tuple #[.agg #[], .bool true]) W := by kernel_rfl
theorem ta_no (W : World) : (Instr.typeAssert .nilIface 20 112 true).run Tryz.prog W = .ok (.tuple #[.agg #[], .bool false]) W := by kernel_rfl
theorem frz {w : World} {g o : Nat} {cs : List Value} {ty : TypeId} (h : BoxN w g cs ty) : w.frozen? ⟨g, o, none⟩ = false := frozen_of h
def zc5 : List Value := [.int .i64 0, .string ⟨#[]⟩, .int .i64 0, .string ⟨#[]⟩, .slice none 0 0]
set_option maxHeartbeats 1000000 in
set_option maxRecDepth 100000 in
theorem catch_odd (w : World) (B D E : Nat) (x0 x1 x2 x3 x4 y : Value) (hD : BoxN w D [x0, x1, x2, x3, x4] 73) (hE : BoxN w E [y] 24) (hBD : B ≤ D) (hDE : D < E) :
    CallsD Tryz.prog 88 #[.pointer (some ⟨D, 0, none⟩), .pointer (some ⟨E, 0, none⟩)] (.panicking oddD) w fun e u' w' =>
      e = .returned (.tuple #[]) ∧ u' = .panicking [{ v := .iface 112 (.agg #[]), recovered := true }] ∧ BoxN w' D zc5 73 ∧ BoxN w' E [.int .i64 50] 24 ∧ Below B w w' := by
  have hta := ta_yes
  refine callsD_of_wpS Tryz.func88 rfl fun c₀ cs hu => ?_
  apply wpS_seq
  apply wpS_region
  simp [wpOpsS, go_sem, recoverD, hu, oddD, Tryz.ntmps88, Exit.thenS, Array.replicate_succ]
  refine wpS_of_wp ?_
  obtain ⟨w1, e1⟩ : ∃ w1, w.alloc (.cells #[] 112) = w1 := ⟨_, rfl⟩
  have hlt := hE.lt
  have hB1 : Below w.heap.size w w1 := by rw [← e1]; exact below1 _ _
  have hD1 := hD.below hB1
  have hE1 := hE.below hB1
  have c0 := hD1.cell (j := 0) rfl
  have c1 := hD1.cell (j := 1) rfl
  have c2 := hD1.cell (j := 2) rfl
  have c3 := hD1.cell (j := 3) rfl
  have c4 := hD1.cell (j := 4) rfl
  have f0 : w1.frozen? ⟨D, 0, none⟩ = false := frz hD1
  have f1 : w1.frozen? ⟨D, 1, none⟩ = false := frz hD1
  have f2 : w1.frozen? ⟨D, 2, none⟩ = false := frz hD1
  have f3 : w1.frozen? ⟨D, 3, none⟩ = false := frz hD1
  have f4 : w1.frozen? ⟨D, 4, none⟩ = false := frz hD1
  obtain ⟨w2, e2⟩ : ∃ w2, (((((w1.setCell ⟨D, 0, none⟩ (.int .i64 0)).setCell ⟨D, 1, none⟩ (.string ⟨#[]⟩)).setCell ⟨D, 2, none⟩ (.int .i64 0)).setCell ⟨D, 3, none⟩ (.string ⟨#[]⟩)).setCell ⟨D, 4, none⟩ (.slice none 0 0)) = w2 := ⟨_, rfl⟩
  have hD2 : BoxN w2 D zc5 73 := by rw [← e2]; exact fill5 hD1 _ _ _ _ _
  have hE2 : BoxN w2 E [y] 24 := by
    rw [← e2]
    exact hE1.to (fill5_other (by omega) _ _ _ _ _)
  have hB2 : Below B w w2 := by
    rw [← e2]
    exact (hB1.mono (by omega)).trans (fill5_below hBD _ _ _ _ _)
  have d0 := hE2.cell (j := 0) rfl
  have g0 : w2.frozen? ⟨E, 0, none⟩ = false := frz hE2
  go_wp2_with fail
  have r1 := hD2.to (set_other (w := w2) (g := E) (o := 0) (.int .i64 50) (by omega : D ≠ E))
  have r2 := hE2.set 0 (.int .i64 50)
  have r3 : Below B w (w2.setCell ⟨E, 0, none⟩ (.int .i64 50)) := below_sc hB2 (by omega) _ _
  exact ⟨rfl, _, rfl, _, results_none rfl _ _ _, rfl, rfl, r1, r2, r3⟩
set_option maxRecDepth 100000 in
theorem catch_none (w : World) (p q : Addr) :
    CallsD Tryz.prog 88 #[.pointer (some p), .pointer (some q)] .returning w fun e u' w' =>
      e = .returned (.tuple #[]) ∧ u' = .returning ∧ Below w.heap.size w w' := by
  have hta := ta_no
  refine callsD_of_wpS Tryz.func88 rfl fun c₀ cs hu => ?_
  apply wpS_seq
  apply wpS_region
  simp [wpOpsS, go_sem, recoverD, hu, Tryz.ntmps88, Exit.thenS, Array.replicate_succ]
  refine wpS_of_wp ?_
  have hB1 : Below w.heap.size w (w.alloc (.cells #[] 112)) := below1 _ _
  go_wp2_with fail
  exact ⟨rfl, .returning, by rw [← hu], _, results_none rfl _ _ _, rfl, rfl, hB1⟩
/-- What Parse answers. -/
def ParseP (w : World) (x : DepT × Int) (e : Ending) (w' : World) : Prop :=
  (∃ k nm op ev a n c, e = .returned (.tuple #[.agg #[.int .i64 k, .string nm, .int .i64 op, .string ev, .slice a n c], .int .i64 x.2]) ∧ DepC w' (New w.heap.size w') x.1 [.int .i64 k, .string nm, .int .i64 op, .string ev, .slice a n c]) ∧ Below w.heap.size w w'
theorem zero_v (w : World) (S : Nat → Prop) : DepC w S zeroT zc5 := ⟨none, 0, rfl, by decide, by decide, by decide, by decide, fun h => absurd rfl h⟩
theorem leaves_odd (w w' : World) (d : DepT × Int) (hd : d = (zeroT, 50)) (tm : Array Value) (D E : Nat) (h2 : tm[2]? = some (.pointer (some ⟨D, 0, none⟩))) (h3 : tm[3]? = some (.pointer (some ⟨E, 0, none⟩))) (x0 x1 x2 x3 x4 y : Value) (hD : BoxN w' D [x0, x1, x2, x3, x4] 73) (hE : BoxN w' E [y] 24) (hDD : w.heap.size ≤ D) (hDE : D < E) (hb : Below w.heap.size w w') :
    Leaves Tryz.prog Tryz.f54 tm (ParseP w d) [{ target := .fn (.func 88) #[.pointer (some ⟨D, 0, none⟩), .pointer (some ⟨E, 0, none⟩)], args := #[] }] (.panicking oddD) w' := by
  refine leaves_cons (f := 88) (args := #[.pointer (some ⟨D, 0, none⟩), .pointer (some ⟨E, 0, none⟩)]) (by simp) (by simp [go_sem]) ?_
  refine (catch_odd w' w.heap.size D E x0 x1 x2 x3 x4 y hD hE hDD hDE).mono ?_
  rintro e u' w2 ⟨rfl, rfl, k1, k2, k3⟩
  have c0 := k1.cell (j := 0) rfl
  have c1 := k1.cell (j := 1) rfl
  have c2 := k1.cell (j := 2) rfl
  have c3 := k1.cell (j := 3) rfl
  have c4 := k1.cell (j := 4) rfl
  have c5 := k2.cell (j := 0) rfl
  subst hd
  simp [Leaves, settle, results, go_sem, h2, h3, c0, c1, c2, c3, c4, c5]
  exact ⟨⟨_, _, _, _, _, _, _, rfl, zero_v _ _⟩, hb.trans k3⟩
theorem leaves_ok (w w' : World) (d : DepT × Int) (tm : Array Value) (D E : Nat) (h2 : tm[2]? = some (.pointer (some ⟨D, 0, none⟩))) (h3 : tm[3]? = some (.pointer (some ⟨E, 0, none⟩))) (x0 x1 x2 x3 x4 y : Value) (hD : BoxN w' D [x0, x1, x2, x3, x4] 73) (hE : BoxN w' E [y] 24)
    (hR : ∀ w2, Below w'.heap.size w' w2 → ParseP w d (.returned (.tuple #[.agg #[x0, x1, x2, x3, x4], y])) w2) :
    Leaves Tryz.prog Tryz.f54 tm (ParseP w d) [{ target := .fn (.func 88) #[.pointer (some ⟨D, 0, none⟩), .pointer (some ⟨E, 0, none⟩)], args := #[] }] .returning w' := by
  refine leaves_cons (f := 88) (args := #[.pointer (some ⟨D, 0, none⟩), .pointer (some ⟨E, 0, none⟩)]) (by simp) (by simp [go_sem]) ?_
  refine (catch_none w' _ _).mono ?_
  rintro e u' w2 ⟨rfl, rfl, k3⟩
  have c0 := (hD.below k3).cell (j := 0) rfl
  have c1 := (hD.below k3).cell (j := 1) rfl
  have c2 := (hD.below k3).cell (j := 2) rfl
  have c3 := (hD.below k3).cell (j := 3) rfl
  have c4 := (hD.below k3).cell (j := 4) rfl
  have c5 := (hE.below k3).cell (j := 0) rfl
  simp [Leaves, settle, results, go_sem, h2, h3, c0, c1, c2, c3, c4, c5]
  exact hR w2 k3
set_option maxHeartbeats 4000000 in
set_option maxRecDepth 100000 in
/-- dep.Parse. -/
theorem depParse_c (s : ByteArray) (hs : s.size ≤ 1099511627776) (w : World) : Calls Tryz.prog 54 #[.string s] w (ParseP w (depParse s)) := by
  have hmf : ∀ (fn : Fn) (first cap : Array Value) (w : World), (Instr.makeFunc fn first cap).run Tryz.prog w = .ok (.func fn first cap) w := fun _ _ _ _ => rfl
  obtain ⟨X, hX⟩ : ∃ X, depParse s = X := ⟨_, rfl⟩
  rw [hX]
  unfold depParse at hX
  have HX := Lib.hid hX
  have hwl : (wordsB (bs s)).length ≤ 1099511627776 := by
    have := wordsB_len _ (bs s) (Nat.le_refl _)
    rw [bs_length] at this
    omega
  have HNE := Lib.hid (wordsB_ne (bs s))
  obtain ⟨ws, hws⟩ : ∃ ws, wordsB (bs s) = ws := ⟨_, rfl⟩
  rw [hws] at HX hwl HNE
  have HWS := Lib.hid hws
  clear hX hws
  go_enter_defers Tryz.func54, Tryz.ntmps54
  obtain ⟨D, hD⟩ : ∃ D, w.heap.size = D := ⟨_, rfl⟩
  go_upto_region 3 with fail
  obtain ⟨w2, e2⟩ : ∃ w2, (w.alloc (.cells #[.int .i64 0, .string ⟨#[]⟩, .int .i64 0, .string ⟨#[]⟩, .slice none 0 0] 73)).alloc (.cells #[.int .i64 0] 24) = w2 := ⟨_, rfl⟩
  have hb2 : Below w.heap.size w w2 := by rw [← e2]; exact below2 _ _ _
  have hsz2 : w2.heap.size = D + 2 := by rw [← e2, ← hD]; simp
  have hD2 : BoxN w2 D zc5 73 := by
    rw [← e2, ← hD]
    exact (boxN_alloc w zc5 73).below (below1 _ _)
  have hE2 : BoxN w2 (D + 1) [.int .i64 0] 24 := by
    rw [← e2, ← hD]
    have h1 := boxN_alloc (w.alloc (.cells #[.int .i64 0, .string ⟨#[]⟩, .int .i64 0, .string ⟨#[]⟩, .slice none 0 0] 73)) [.int .i64 0] 24
    rw [World.size_alloc] at h1
    exact h1
  rw [e2]
  obtain ⟨w3, e3⟩ : ∃ w3, w2.alloc (.cells #[.string s, .string ⟨#[]⟩] 116) = w3 := ⟨_, rfl⟩
  have hR3 : BoxN w3 (D + 2) [.string s, .string ⟨#[]⟩] 116 := by
    rw [← e3, ← hsz2]
    exact boxN_alloc _ _ _
  have hb3 : Below w2.heap.size w2 w3 := by rw [← e3]; exact below1 _ _
  have HS3 : Hid (w3.heap.size = D + 3) := Lib.hid (by rw [← e3]; simp [hsz2])
  have HD3 : Hid (BoxN w3 D zc5 73 ∧ BoxN w3 (D + 1) [.int .i64 0] 24) := Lib.hid ⟨hD2.below hb3, hE2.below hb3⟩
  have HB3 : Hid (Below w.heap.size w w3) := Lib.hid (below_tr hb2 hb3)
  have HN3 := Lib.hid (next_c w3 (D + 2) s ⟨#[]⟩ (by unfold maxLen; omega) hR3)
  rw [HWS.out] at HN3
  have HDD := Lib.hid hD
  try rw [e3]
  try rw [hsz2]
  clear e2 e3 hD2 hE2 hR3 hb2 hb3
  go_wp2_with fail
  refine HN3.out.mono ?_
  rintro e w4 ⟨rfl, h1, h2⟩
  have HR4 := Lib.hid h1
  have HM4 := Lib.hid h2
  clear h1 h2 HN3
  have HO := Lib.hid (one_c (ws.length + 1) ws w4 (D + 2) HR4.out (by omega) hwl)
  have HKEEP : Hid (∀ W : World, Moves (D + 2) w3 W → (BoxN W D zc5 73 ∧ BoxN W (D + 1) [.int .i64 0] 24) ∧ Below w.heap.size w W ∧ D + 3 ≤ W.heap.size) := Lib.hid fun W hm => by
    have h3 := HS3.out
    refine ⟨⟨HD3.out.1.to (hm.block D (by omega) (by omega)), HD3.out.2.to (hm.block (D + 1) (by omega) (by omega))⟩, HB3.out.trans (hm.below (by have := HDD.out; omega) (by have := HDD.out; omega)), by have := hm.size; omega⟩
  cases ho : rdOne (ws.length + 1) ws with
  | none =>
    rw [ho] at HO HX
    have HX := Lib.hid HX.out.symm
    clear ho
    go_wp2_with fail
    refine HO.out.mono ?_
    rintro e w5 ⟨rfl, hm⟩
    obtain ⟨⟨k1, k2⟩, k3, k4⟩ := HKEEP.out w5 (HM4.out.trans hm)
    exact leaves_odd w w5 X HX.out _ D (D + 1) rfl rfl _ _ _ _ _ _ k1 k2 (by rw [HDD.out]; exact Nat.le_refl _) (by omega) k3
  | some x =>
    obtain ⟨d, r⟩ := x
    rw [ho] at HO HX
    have hsf := rdOne_suf _ _ _ _ ho
    have HRN : Hid (∀ w ∈ r, w ≠ []) := Lib.hid fun w hw => HNE.out w (hsf.1.subset hw)
    clear ho hsf
    go_upto_region 5 with (go_at_call 90; refine HO.out.mono ?_; rintro e w5 ⟨⟨k', nm', op', ev', a', n', c', rfl, hdc⟩, hrs, hm⟩; have HDC := Lib.hid hdc; have HRS := Lib.hid hrs; have HM5 := Lib.hid (HM4.out.trans hm); clear hdc hrs hm)
    obtain ⟨w6, e6⟩ : ∃ w6, w5.alloc (.cells #[.int .i64 k', .string nm', .int .i64 op', .string ev', .slice a' n' c'] 73) = w6 := ⟨_, rfl⟩
    have HB6 : Hid (Below w5.heap.size w5 w6 ∧ BoxN w6 w5.heap.size [.int .i64 k', .string nm', .int .i64 op', .string ev', .slice a' n' c'] 73) := by
      rw [← e6]
      exact ⟨below1 _ _, boxN_alloc _ _ _⟩
    rw [e6]
    have HM6 : Hid (Moves (D + 2) w3 w6) := Lib.hid (HM5.out.trans (.of_below HB6.out.1))
    have HR6 : Hid (RSt w6 (D + 2) r) := Lib.hid (HRS.out.below HB6.out.1)
    have HDC6 : Hid (DepC w6 (New (D + 3) w6) d [.int .i64 k', .string nm', .int .i64 op', .string ev', .slice a' n' c']) := Lib.hid (HDC.out.keep (fun b hb => ⟨by have := hb.1; have := HM4.out.size; have := HS3.out; omega, (hb.below HB6.out.1).2⟩) (fun b hb hl => HB6.out.1.block b hl) (fun _ _ => trivial))
    obtain ⟨t1, u1, hb1, hu1, hs1⟩ := HR6.out.word
    have c1 := hb1.cell (j := 1) rfl
    clear e6 HRS HDC hb1 hs1 HO
    by_cases hr0 : r = []
    · have hE1 : u1.toList.isEmpty = true := by rw [bs_toList, hu1, hr0]; rfl
      have hE2 : (u1.toList == []) = true := by rw [bs_toList, hu1, hr0]; rfl
      have HX2 : Hid (X = if depCheck d ≠ 0 then (zeroT, depCheck d) else (d, 0)) := Lib.hid (by
        have h1 := HX.out
        rw [hr0] at h1
        simp only [ne_eq, not_true_eq_false, if_false] at h1
        exact h1.symm)
      have HCH := Lib.hid (depCheck_c d _ _ w6 HDC6.out (fun b hb => hb.2.lt))
      clear hr0 hu1 HX
      go_wp2_with fail
      refine (need_yes w6).mono ?_
      rintro e w7 ⟨rfl, hw⟩
      subst hw
      have x0 := HB6.out.2.cell (j := 0) rfl
      have x1 := HB6.out.2.cell (j := 1) rfl
      have x2 := HB6.out.2.cell (j := 2) rfl
      have x3 := HB6.out.2.cell (j := 3) rfl
      have x4 := HB6.out.2.cell (j := 4) rfl
      go_wp2_with fail
      refine HCH.out.mono ?_
      rintro e w8 ⟨rfl, hb8⟩
      have HB8 := Lib.hid hb8
      have HM8 : Hid (Moves (D + 2) w3 w8) := Lib.hid (HM6.out.trans (.of_below HB8.out))
      obtain ⟨⟨k1, k2⟩, k3, k4⟩ := HKEEP.out w8 HM8.out
      have HK1 := Lib.hid k1
      have HK2 := Lib.hid k2
      have HK3 := Lib.hid k3
      have HK4 := Lib.hid k4
      have HDC8 : Hid (DepC w8 (New (D + 3) w8) d [.int .i64 k', .string nm', .int .i64 op', .string ev', .slice a' n' c']) := Lib.hid (HDC6.out.new HB8.out)
      have HB68 := Lib.hid (HB6.out.2.below HB8.out)
      clear x0 x1 x2 x3 x4 c1 k1 k2 k3 k4 hE1 hE2 HCH
      obtain ⟨er, her⟩ : ∃ er, depCheck d = er := ⟨_, rfl⟩
      rw [her] at HX2
      have d0 := HK1.out.cell (j := 0) rfl
      have d1 := HK1.out.cell (j := 1) rfl
      have d2 := HK1.out.cell (j := 2) rfl
      have d3 := HK1.out.cell (j := 3) rfl
      have d4 := HK1.out.cell (j := 4) rfl
      have g0 : w8.frozen? ⟨D, 0, none⟩ = false := frz HK1.out
      have g1 : w8.frozen? ⟨D, 1, none⟩ = false := frz HK1.out
      have g2 : w8.frozen? ⟨D, 2, none⟩ = false := frz HK1.out
      have g3 : w8.frozen? ⟨D, 3, none⟩ = false := frz HK1.out
      have g4 : w8.frozen? ⟨D, 4, none⟩ = false := frz HK1.out
      rw [her]
      clear her
      by_cases h0 : er = 0
      · have h0b : (er == 0) = true := by rw [h0]; rfl
        have HX3 : Hid (X = (d, 0)) := Lib.hid (by rw [HX2.out, if_neg (by rw [h0]; simp)])
        have x0 := HB68.out.cell (j := 0) rfl
        have x1 := HB68.out.cell (j := 1) rfl
        have x2 := HB68.out.cell (j := 2) rfl
        have x3 := HB68.out.cell (j := 3) rfl
        have x4 := HB68.out.cell (j := 4) rfl
        obtain ⟨w9, e9⟩ : ∃ w9, (((((w8.setCell ⟨D, 0, none⟩ (.int .i64 k')).setCell ⟨D, 1, none⟩ (.string nm')).setCell ⟨D, 2, none⟩ (.int .i64 op')).setCell ⟨D, 3, none⟩ (.string ev')).setCell ⟨D, 4, none⟩ (.slice a' n' c')) = w9 := ⟨_, rfl⟩
        have HD9 : Hid (BoxN w9 D [.int .i64 k', .string nm', .int .i64 op', .string ev', .slice a' n' c'] 73 ∧ BoxN w9 (D + 1) [.int .i64 0] 24 ∧ Moves D w8 w9) := Lib.hid (by
          rw [← e9]
          exact ⟨fill5 HK1.out _ _ _ _ _, HK2.out.to (fill5_other (by omega) _ _ _ _ _), ((((Moves.set _ _ _ _).trans (Moves.set _ _ _ _)).trans (Moves.set _ _ _ _)).trans (Moves.set _ _ _ _)).trans (Moves.set _ _ _ _)⟩)
        have q0 := HD9.out.2.1.cell (j := 0) rfl
        have q1 : w9.frozen? ⟨D + 1, 0, none⟩ = false := frz HD9.out.2.1
        have HD10 : Hid (BoxN (w9.setCell ⟨D + 1, 0, none⟩ (.int .i64 0)) D [.int .i64 k', .string nm', .int .i64 op', .string ev', .slice a' n' c'] 73 ∧ BoxN (w9.setCell ⟨D + 1, 0, none⟩ (.int .i64 0)) (D + 1) [.int .i64 0] 24) := Lib.hid ⟨HD9.out.1.to (set_other _ (by omega)), HD9.out.2.1.set 0 _⟩
        have HFIN : Hid (∀ w2, Below (w9.setCell ⟨D + 1, 0, none⟩ (.int .i64 0)).heap.size (w9.setCell ⟨D + 1, 0, none⟩ (.int .i64 0)) w2 → ParseP w X (.returned (.tuple #[.agg #[.int .i64 k', .string nm', .int .i64 op', .string ev', .slice a' n' c'], .int .i64 0])) w2) := Lib.hid fun w2 hw2 => by
          rw [HX3.out]
          have hsm : ∀ b, D + 3 ≤ b → b < w8.heap.size → w2.heap[b]? = w8.heap[b]? := fun b hb hl => by
            rw [hw2.block b (by rw [set_size]; exact Nat.lt_of_lt_of_le hl HD9.out.2.2.size), set_other _ (by omega)]
            exact HD9.out.2.2.block b hl (by omega)
          refine ⟨⟨_, _, _, _, _, _, _, rfl, HDC8.out.keep (fun b hb => ⟨by have := hb.1; have := HDD.out; omega, hb.2.keep (hsm b hb.1 hb.2.lt)⟩) (fun b hb hl => hsm b hb.1 hl) (fun _ _ => trivial)⟩, ?_⟩
          refine (HK3.out.trans (HD9.out.2.2.below (by have := HDD.out; omega) (by have := HDD.out; have := HK4.out; omega))).trans ?_
          exact (below_sc (Below.refl _ _) (by have := HDD.out; omega) _ _).trans (hw2.mono (by rw [set_size]; have := HDD.out; have := HK4.out; have := HD9.out.2.2.size; omega))
        clear h0
        go_wp2_with fail
        exact leaves_ok w _ X _ D (D + 1) rfl rfl _ _ _ _ _ _ HD10.out.1 HD10.out.2 HFIN.out
      · have h0b : (er == 0) = false := beq_eq_false_iff_ne.2 h0
        have HX3 : Hid (X = (zeroT, er)) := Lib.hid (by rw [HX2.out, if_pos h0])
        obtain ⟨w9, e9⟩ : ∃ w9, (((((w8.setCell ⟨D, 0, none⟩ (.int .i64 0)).setCell ⟨D, 1, none⟩ (.string ⟨#[]⟩)).setCell ⟨D, 2, none⟩ (.int .i64 0)).setCell ⟨D, 3, none⟩ (.string ⟨#[]⟩)).setCell ⟨D, 4, none⟩ (.slice none 0 0)) = w9 := ⟨_, rfl⟩
        have HD9 : Hid (BoxN w9 D zc5 73 ∧ BoxN w9 (D + 1) [.int .i64 0] 24 ∧ Moves D w8 w9) := Lib.hid (by
          rw [← e9]
          exact ⟨fill5 HK1.out _ _ _ _ _, HK2.out.to (fill5_other (by omega) _ _ _ _ _), ((((Moves.set _ _ _ _).trans (Moves.set _ _ _ _)).trans (Moves.set _ _ _ _)).trans (Moves.set _ _ _ _)).trans (Moves.set _ _ _ _)⟩)
        have q0 := HD9.out.2.1.cell (j := 0) rfl
        have q1 : w9.frozen? ⟨D + 1, 0, none⟩ = false := frz HD9.out.2.1
        have HD10 : Hid (BoxN (w9.setCell ⟨D + 1, 0, none⟩ (.int .i64 er)) D zc5 73 ∧ BoxN (w9.setCell ⟨D + 1, 0, none⟩ (.int .i64 er)) (D + 1) [.int .i64 er] 24) := Lib.hid ⟨HD9.out.1.to (set_other _ (by omega)), HD9.out.2.1.set 0 _⟩
        have HFIN : Hid (∀ w2, Below (w9.setCell ⟨D + 1, 0, none⟩ (.int .i64 er)).heap.size (w9.setCell ⟨D + 1, 0, none⟩ (.int .i64 er)) w2 → ParseP w X (.returned (.tuple #[.agg #[.int .i64 0, .string ⟨#[]⟩, .int .i64 0, .string ⟨#[]⟩, .slice none 0 0], .int .i64 er])) w2) := Lib.hid fun w2 hw2 => by
          rw [HX3.out]
          refine ⟨⟨_, _, _, _, _, _, _, rfl, zero_v _ _⟩, ?_⟩
          refine (HK3.out.trans (HD9.out.2.2.below (by have := HDD.out; omega) (by have := HDD.out; have := HK4.out; omega))).trans ?_
          exact (below_sc (Below.refl _ _) (by have := HDD.out; omega) _ _).trans (hw2.mono (by rw [set_size]; have := HDD.out; have := HK4.out; have := HD9.out.2.2.size; omega))
        clear h0
        go_wp2_with fail
        exact leaves_ok w _ X _ D (D + 1) rfl rfl _ _ _ _ _ _ HD10.out.1 HD10.out.2 HFIN.out
    · have hE1 : u1.toList.isEmpty = false := by
        rw [bs_toList, hu1]
        cases e : r with
        | nil => exact absurd e hr0
        | cons a l =>
          have := HRN.out a (by rw [e]; simp)
          cases a with
          | nil => exact absurd rfl this
          | cons => rfl
      have hE2 : (u1.toList == []) = false := by
        rw [bs_toList, hu1]
        cases e : r with
        | nil => exact absurd e hr0
        | cons a l =>
          have := HRN.out a (by rw [e]; simp)
          have h2 : hd (a :: l) = a := rfl
          rw [h2]
          simpa using this
      have HX2 : Hid (X = (zeroT, 50)) := Lib.hid (by
        have h1 := HX.out
        simp only [ne_eq, hr0, not_false_eq_true, if_true] at h1
        exact h1.symm)
      clear hr0 hu1 HX
      go_wp2_with fail
      refine (need_no w6).mono ?_
      rintro e w7 ⟨rfl, hw⟩
      subst hw
      obtain ⟨⟨k1, k2⟩, k3, k4⟩ := HKEEP.out w6 HM6.out
      exact leaves_odd w w6 X HX2.out _ D (D + 1) rfl rfl _ _ _ _ _ _ k1 k2 (by rw [HDD.out]; exact Nat.le_refl _) (by omega) k3
end Go.Proofs.YtjcefgjgjhdbpaaGreatDoor
