/-
  A dependency, as the document reads it: a name. Helper text (printed by gen_rfC.py); the conditions are those typed.
  A dependency, as the document reads it: a bracket. Helper text (printed by gen_rfD.py); the conditions are those typed.
  A dependency's text, as the document reads it. Helper text; the conditions are those typed.
-/
import Derived.Test.YtjcefgjgjhdbpaaGreatDoorRfB
import Derived.Test.YtjcefgjgjhdbpaaGreatDoorDepPF
import Derived.Test.YtjcefgjgjhdbpaaGreatDoorRDepC
import Derived.Deep.CutBlock
import Derived.Deep.CutRange
import Derived.Deep.LoopGhost
namespace Go.Proofs.YtjcefgjgjhdbpaaGreatDoor
set_option linter.unusedVariables false
set_option linter.unusedSimpArgs false
open Go.RowKit Go.Maps

/-- What reading a dependency at a word answers. -/
def RdPst (w : World) (ws : List Wd) (o : Option (DepT × List Wd)) (e : Ending) (w' : World) : Prop :=
  Below w.heap.size w w' ∧ match o with
  | some (d, r) => ∃ k nm op ev a n c, ∃ m : Nat, e = .returned (.tuple #[.agg #[.int .i64 k, .string nm, .int .i64 op, .string ev, .slice a n c], .int .i64 (m : Int)]) ∧ DepC w' (New w.heap.size w') d [.int .i64 k, .string nm, .int .i64 op, .string ev, .slice a n c] ∧ ws.drop m = r ∧ m ≤ ws.length + 3 ∧ (ws.length < m → depCheck d ≠ 0)
  | none => e = .returned (.tuple #[.agg #[.int .i64 0, .string ⟨#[]⟩, .int .i64 0, .string ⟨#[]⟩, .slice none 0 0], .int .i64 (-1)])
theorem box5 {w : World} {b : Nat} {x0 x1 x2 x3 x4 : Value} {ty : TypeId} (h : BoxN w b [x0, x1, x2, x3, x4] ty) : w.cell? ⟨b, 0, none⟩ = some x0 ∧ w.cell? ⟨b, 1, none⟩ = some x1 ∧ w.cell? ⟨b, 2, none⟩ = some x2 ∧ w.cell? ⟨b, 3, none⟩ = some x3 ∧ w.cell? ⟨b, 4, none⟩ = some x4 ∧ w.frozen? ⟨b, 0, none⟩ = false ∧ w.frozen? ⟨b, 1, none⟩ = false ∧ w.frozen? ⟨b, 2, none⟩ = false ∧ w.frozen? ⟨b, 3, none⟩ = false ∧ w.frozen? ⟨b, 4, none⟩ = false :=
  ⟨h.cell (j := 0) rfl, h.cell (j := 1) rfl, h.cell (j := 2) rfl, h.cell (j := 3) rfl, h.cell (j := 4) rfl, frozen_of h, frozen_of h, frozen_of h, frozen_of h, frozen_of h⟩
theorem bneq {a b : Wd} (h : (a == b) = false) : (a != b) = true := by rw [bne, h]; rfl
theorem beqt {a b : Wd} (h : (a == b) = true) : (a != b) = false := by rw [bne, h]; rfl
theorem sign_op (x : Wd) : signR (mkB x) = (opOf x : Int) := by
  have e : (mkB x).toList = x := by rw [bs_toList]; rfl
  unfold signR opOf
  rw [e]
  simp only [beq_iff_eq]
  split <;> try rfl
  split <;> try rfl
  split <;> try rfl
  split <;> try rfl
  split <;> try rfl
  split <;> try rfl
  split <;> rfl
theorem leaf_bad (x : Wd) {op : Nat} (h : op ≠ 0) : depCheck (leafT x op []) ≠ 0 := by
  have hp : (parse (bs (mkB []))).isSome = false := by kernel_rfl
  have hf : formB (leafT x op []) = false := by
    unfold leafT
    rw [formB, if_pos rfl, hp]
    have h0 : decide ((op : Int) = 0) = false := decide_eq_false (by omega)
    rw [h0]
    simp
  unfold depCheck
  rw [if_pos hf]
  decide
theorem op_nil : opOf [] = 0 := rfl
theorem hd_len {ws : List Wd} {n : Nat} (h : hd (ws.drop n) ≠ []) : n < ws.length := by
  rcases Nat.lt_or_ge n ws.length with h1 | h1
  · exact h1
  · rw [List.drop_eq_nil_of_le h1] at h
    exact absurd rfl h
theorem tail_drop1 (ws : List Wd) (n : Nat) : (ws.drop n).tail = ws.drop (n + 1) := by rw [List.tail_drop]
theorem hd_mem {ws : List Wd} {n : Nat} {N : Nat} (hx : ∀ x ∈ ws, x.length ≤ N) : (mkB (hd (ws.drop n))).size ≤ N := by
  show (hd (ws.drop n)).length ≤ N
  cases h : ws.drop n with
  | nil => exact Nat.zero_le _
  | cons a l => exact hx a (List.mem_of_mem_drop (by rw [h]; exact List.mem_cons_self))
theorem wrapC {n k : Nat} (h : n ≤ 1099511627790) (hk : k ≤ 10) : IntKind.i64.wrap ((n : Int) + (k : Int)) = ((n + k : Nat) : Int) := by
  rw [IntKind.wrap_i64]
  omega
theorem wrap2 {n : Nat} (h : n ≤ 1099511627790) : IntKind.i64.wrap ((n : Int) + 2) = ((n + 2 : Nat) : Int) := wrapC h (k := 2) (by decide)
theorem wrap3 {n : Nat} (h : n ≤ 1099511627790) : IntKind.i64.wrap ((n : Int) + 3) = ((n + 3 : Nat) : Int) := wrapC h (k := 3) (by decide)
theorem wrap1 {n : Nat} (h : n ≤ 1099511627790) : IntKind.i64.wrap ((n : Int) + 1) = ((n + 1 : Nat) : Int) := wrapC h (k := 1) (by decide)
set_option maxHeartbeats 4000000 in
set_option maxRecDepth 100000 in
theorem read_leaf (ws : List Wd) (a : Option Addr) (c n deep L : Nat) (hn : n ≤ 1099511627780) (hx : ∀ x ∈ ws, x.length ≤ 1099511627776) (w : World) (hrow : w.ownsRow L 9 1 (.slice a ws.length c) ws.length (strsL ws)) (h40 : hd (ws.drop n) ≠ [40]) :
    Calls Tryz.prog 132 #[.slice a ws.length c, .int .i64 (n : Int), .int .i64 (deep : Int)] w (RdPst w ws (rdLeaf (ws.drop n))) := by
  obtain ⟨w0, e0⟩ : ∃ w0, w.alloc (.cells #[.int .i64 0, .string ⟨#[]⟩, .int .i64 0, .string ⟨#[]⟩, .slice none 0 0] 73) = w0 := ⟨_, rfl⟩
  have HB0 : Hid (Below w.heap.size w w0 ∧ BoxN w0 w.heap.size [.int .i64 0, .string ⟨#[]⟩, .int .i64 0, .string ⟨#[]⟩, .slice none 0 0] 73) := by
    rw [← e0]
    exact ⟨below1 _ _, boxN_alloc _ _ _⟩
  have hr0 := ownsRow_below hrow HB0.out.1
  have HA0 := Lib.hid (at_c ws a c n (by omega) w0 hr0)
  have HA1 := Lib.hid (at_c ws a c (n + 1) (by omega) w0 hr0)
  have HA2 := Lib.hid (at_c ws a c (n + 2) (by omega) w0 hr0)
  obtain ⟨POST, hPOST⟩ : ∃ P, RdPst w ws (rdLeaf (ws.drop n)) = P := ⟨_, rfl⟩
  rw [hPOST]
  have hm : 1099511627776 ≤ maxLen := by decide
  have h60 : 60 ≤ maxLen := by decide
  have hev := hd_mem (n := n + 2) hx
  have ht1 := tail_drop1 ws n
  have ht2 : (ws.drop n).tail.tail = ws.drop (n + 2) := by rw [tail_drop1, List.tail_drop]
  have ht3 : (ws.drop n).tail.tail.tail = ws.drop (n + 3) := by rw [ht2, List.tail_drop]
  obtain ⟨x, hxe⟩ : ∃ x, hd (ws.drop n) = x := ⟨_, rfl⟩
  obtain ⟨y, hye⟩ : ∃ y, hd (ws.drop (n + 1)) = y := ⟨_, rfl⟩
  obtain ⟨v, hve⟩ : ∃ v, hd (ws.drop (n + 2)) = v := ⟨_, rfl⟩
  rw [hxe] at HA0 h40
  rw [hye] at HA1
  rw [hve] at HA2 hev
  have HNO : Hid (nameB (mkB x) = false → ∀ w', Below w.heap.size w w' → POST (.returned (.tuple #[.agg #[.int .i64 0, .string ⟨#[]⟩, .int .i64 0, .string ⟨#[]⟩, .slice none 0 0], .int .i64 (-1)])) w') := Lib.hid fun hn w' hb => by
    rw [← hPOST]
    unfold rdLeaf
    rw [hxe, if_pos hn]
    exact ⟨hb, rfl⟩
  have HLT : Hid (nameB (mkB x) = true → n < ws.length ∧ (mkB x).size ≤ maxLen) := Lib.hid fun h => by
    refine ⟨hd_len (fun e => ?_), ?_⟩
    · rw [hxe] at e
      subst e
      rw [show nameB (mkB []) = false from nameB_nil] at h
      cases h
    · unfold nameB at h
      simp only [Bool.and_eq_true, decide_eq_true_eq] at h
      omega
  have HY0 : Hid (nameB (mkB x) = true → opOf y = 0 → ∀ w', Below w.heap.size w w' → POST (.returned (.tuple #[.agg #[.int .i64 1, .string (mkB x), .int .i64 0, .string ⟨#[]⟩, .slice none 0 0], .int .i64 ((n + 1 : Nat) : Int)])) w') := Lib.hid fun hn ho w' hb => by
    have hl := HLT.out hn
    rw [← hPOST]
    unfold rdLeaf
    rw [hxe, if_neg (by rw [hn]; simp), ht1, hye, if_pos ho]
    exact ⟨hb, _, _, _, _, _, _, _, n + 1, rfl, leaf_v _ _ (bs_mkB x) hl.2 0 (v := ⟨#[]⟩) rfl (by decide), rfl, by omega, fun h => absurd h (by omega)⟩
  have HY1 : Hid (nameB (mkB x) = true → opOf y ≠ 0 → ∀ w', Below w.heap.size w w' → POST (.returned (.tuple #[.agg #[.int .i64 1, .string (mkB x), .int .i64 (opOf y : Int), .string (mkB v), .slice none 0 0], .int .i64 ((n + 3 : Nat) : Int)])) w') := Lib.hid fun hn ho w' hb => by
    have hl := HLT.out hn
    rw [← hPOST]
    unfold rdLeaf
    rw [hxe, if_neg (by rw [hn]; simp), ht3, ht2, ht1, hye, hve, if_neg ho]
    refine ⟨hb, _, _, _, _, _, _, _, n + 3, rfl, leaf_v _ _ (bs_mkB x) hl.2 _ (bs_mkB v) (by omega), rfl, by omega, fun h => ?_⟩
    have h2 : ws.drop (n + 2) = [] := List.drop_eq_nil_of_le (by omega)
    rw [h2] at hve
    have hve : [] = v := hve
    rw [← hve]
    exact leaf_bad x ho
  have hz : ((mkB x).toList == [40]) = false := by
    rw [bs_toList, bs_mkB]
    simpa using h40
  have hz2 := bneq hz
  have q1 := wrap1 (n := n) (by omega)
  have q2 := wrap2 (n := n) (by omega)
  have q3 := wrap3 (n := n) (by omega)
  have HN := Lib.hid (rname_c (mkB x) w0)
  have HSG := Lib.hid (sign_c (mkB y) w0)
  rw [sign_op] at HSG
  generalize mkB x = u at *
  generalize mkB v = u2 at *
  generalize mkB y = u1 at *
  generalize opOf y = op at *
  clear hPOST hr0 hrow hxe hye hve ht1 ht2 ht3 hev hx h40 hm h60
  obtain ⟨nb, hnb⟩ : ∃ b, nameB u = b := ⟨_, rfl⟩
  rw [hnb] at HN HNO HY0 HY1
  clear hnb HLT
  go_enter Tryz.func132, Tryz.ntmps132
  cases nb with
  | false =>
    go_upto_region 5 with (first
      | (go_at_call 142; refine HA0.out.mono ?_; rintro e wq ⟨rfl, hw⟩; subst hw)
      | (go_at_call 75; refine HN.out.mono ?_; rintro e wq ⟨rfl, hw⟩; subst hw))
    have HBXr := Lib.hid (HB0.out.2)
    have HBLr := Lib.hid (HB0.out.1)
    obtain ⟨z0, z1, z2, z3, z4, g0, g1, g2, g3, g4⟩ := box5 HBXr.out
    obtain ⟨wE, eE⟩ : ∃ wE, (((((w0.setCell ⟨w.heap.size, 0, none⟩ (.int .i64 0)).setCell ⟨w.heap.size, 1, none⟩ (.string ⟨#[]⟩)).setCell ⟨w.heap.size, 2, none⟩ (.int .i64 0)).setCell ⟨w.heap.size, 3, none⟩ (.string ⟨#[]⟩)).setCell ⟨w.heap.size, 4, none⟩ (.slice none 0 0)) = wE := ⟨_, rfl⟩
    have HE : Hid (BoxN wE w.heap.size [.int .i64 0, .string ⟨#[]⟩, .int .i64 0, .string ⟨#[]⟩, .slice none 0 0] 73 ∧ Below w.heap.size w wE ∧ ∀ b, b ≠ w.heap.size → wE.heap[b]? = w0.heap[b]?) := Lib.hid (by
      rw [← eE]
      exact ⟨fill5 HBXr.out _ _ _ _ _, HBLr.out.trans (fill5_below (Nat.le_refl _) _ _ _ _ _), fun b hb => fill5_other hb _ _ _ _ _⟩)
    obtain ⟨y0, y1, y2, y3, y4, _⟩ := box5 HE.out.1
    have HF : Hid (POST (.returned (.tuple #[.agg #[.int .i64 0, .string ⟨#[]⟩, .int .i64 0, .string ⟨#[]⟩, .slice none 0 0], .int .i64 (-1)])) wE) := Lib.hid (HNO.out (by first | rfl | trivial) _ HE.out.2.1)
    go_wp2_with fail
    refine bodyPost_ret (v := .tuple #[.agg #[.int .i64 0, .string ⟨#[]⟩, .int .i64 0, .string ⟨#[]⟩, .slice none 0 0], .int .i64 (-1)]) (by simp [results, Tryz.results132, go_sem, y0, y1, y2, y3, y4]) rfl ?_
    exact HF.out
  | true =>
    clear HNO
    by_cases ho : op = 0
    · subst ho
      have HY := Lib.hid (HY0.out (by first | rfl | trivial) (by first | rfl | trivial))
      clear HY0 HY1
      go_upto_region 6 with (first
        | (go_at_call 142; refine HA0.out.mono ?_; rintro e wq ⟨rfl, hw⟩; subst hw)
        | (go_at_call 75; refine HN.out.mono ?_; rintro e wq ⟨rfl, hw⟩; subst hw))
      clear HA0 HN
      go_upto_region 8 with (first
        | (go_at_call 142; refine HA1.out.mono ?_; rintro e wq ⟨rfl, hw⟩; subst hw)
        | (go_at_call 113; refine HSG.out.mono ?_; rintro e wq ⟨rfl, hw⟩; subst hw))
      have HBXr := Lib.hid (HB0.out.2)
      have HBLr := Lib.hid (HB0.out.1)
      obtain ⟨z0, z1, z2, z3, z4, g0, g1, g2, g3, g4⟩ := box5 HBXr.out
      obtain ⟨wE, eE⟩ : ∃ wE, (((((w0.setCell ⟨w.heap.size, 0, none⟩ (.int .i64 1)).setCell ⟨w.heap.size, 1, none⟩ (.string u)).setCell ⟨w.heap.size, 2, none⟩ (.int .i64 0)).setCell ⟨w.heap.size, 3, none⟩ (.string ⟨#[]⟩)).setCell ⟨w.heap.size, 4, none⟩ (.slice none 0 0)) = wE := ⟨_, rfl⟩
      have HE : Hid (BoxN wE w.heap.size [.int .i64 1, .string u, .int .i64 0, .string ⟨#[]⟩, .slice none 0 0] 73 ∧ Below w.heap.size w wE ∧ ∀ b, b ≠ w.heap.size → wE.heap[b]? = w0.heap[b]?) := Lib.hid (by
        rw [← eE]
        exact ⟨fill5 HBXr.out _ _ _ _ _, HBLr.out.trans (fill5_below (Nat.le_refl _) _ _ _ _ _), fun b hb => fill5_other hb _ _ _ _ _⟩)
      obtain ⟨y0, y1, y2, y3, y4, _⟩ := box5 HE.out.1
      have HF : Hid (POST (.returned (.tuple #[.agg #[.int .i64 1, .string u, .int .i64 0, .string ⟨#[]⟩, .slice none 0 0], .int .i64 ((n + 1 : Nat) : Int)])) wE) := Lib.hid (HY.out _ HE.out.2.1)
      go_wp2_with fail
      refine bodyPost_ret (v := .tuple #[.agg #[.int .i64 1, .string u, .int .i64 0, .string ⟨#[]⟩, .slice none 0 0], .int .i64 ((n + 1 : Nat) : Int)]) (by simp [results, Tryz.results132, go_sem, y0, y1, y2, y3, y4]) rfl ?_
      exact HF.out
    · have ho1 : ((op : Int) == 0) = false := beq_eq_false_iff_ne.2 (by omega)
      have HY := Lib.hid (HY1.out (by first | rfl | trivial) ho)
      clear HY0 HY1
      go_upto_region 6 with (first
        | (go_at_call 142; refine HA0.out.mono ?_; rintro e wq ⟨rfl, hw⟩; subst hw)
        | (go_at_call 75; refine HN.out.mono ?_; rintro e wq ⟨rfl, hw⟩; subst hw))
      clear HA0 HN
      go_upto_region 9 with (first
        | (go_at_call 142; refine HA1.out.mono ?_; rintro e wq ⟨rfl, hw⟩; subst hw)
        | (go_at_call 113; refine HSG.out.mono ?_; rintro e wq ⟨rfl, hw⟩; subst hw))
      have HBXr := Lib.hid (HB0.out.2)
      have HBLr := Lib.hid (HB0.out.1)
      obtain ⟨z0, z1, z2, z3, z4, g0, g1, g2, g3, g4⟩ := box5 HBXr.out
      obtain ⟨wE, eE⟩ : ∃ wE, (((((w0.setCell ⟨w.heap.size, 0, none⟩ (.int .i64 1)).setCell ⟨w.heap.size, 1, none⟩ (.string u)).setCell ⟨w.heap.size, 2, none⟩ (.int .i64 (op : Int))).setCell ⟨w.heap.size, 3, none⟩ (.string u2)).setCell ⟨w.heap.size, 4, none⟩ (.slice none 0 0)) = wE := ⟨_, rfl⟩
      have HE : Hid (BoxN wE w.heap.size [.int .i64 1, .string u, .int .i64 (op : Int), .string u2, .slice none 0 0] 73 ∧ Below w.heap.size w wE ∧ ∀ b, b ≠ w.heap.size → wE.heap[b]? = w0.heap[b]?) := Lib.hid (by
        rw [← eE]
        exact ⟨fill5 HBXr.out _ _ _ _ _, HBLr.out.trans (fill5_below (Nat.le_refl _) _ _ _ _ _), fun b hb => fill5_other hb _ _ _ _ _⟩)
      obtain ⟨y0, y1, y2, y3, y4, _⟩ := box5 HE.out.1
      have HF : Hid (POST (.returned (.tuple #[.agg #[.int .i64 1, .string u, .int .i64 (op : Int), .string u2, .slice none 0 0], .int .i64 ((n + 3 : Nat) : Int)])) wE) := Lib.hid (HY.out _ HE.out.2.1)
      go_wp2_with (go_at_call 142; refine HA2.out.mono ?_; rintro e wq ⟨rfl, hw⟩; subst hw)
      refine bodyPost_ret (v := .tuple #[.agg #[.int .i64 1, .string u, .int .i64 (op : Int), .string u2, .slice none 0 0], .int .i64 ((n + 3 : Nat) : Int)]) (by simp [results, Tryz.results132, go_sem, y0, y1, y2, y3, y4]) rfl ?_
      exact HF.out
end Go.Proofs.YtjcefgjgjhdbpaaGreatDoor
namespace Go.Proofs.YtjcefgjgjhdbpaaGreatDoor
set_option linter.unusedVariables false
set_option linter.unusedSimpArgs false
open Go.RowKit Go.Maps

/-- What is known while a node is read. -/
structure NodeR (w wx : World) (D L : Nat) (kd : Int) (v : Value) (l : List DepT) (xs : List Value) : Prop where
  mv : Below w.heap.size w wx
  dbox : BoxN wx D [.int .i64 kd, .string ⟨#[]⟩, .int .i64 0, .string ⟨#[]⟩, v] 73
  obox : BoxN wx w.heap.size [.int .i64 0, .string ⟨#[]⟩, .int .i64 0, .string ⟨#[]⟩, .slice none 0 0] 73
  row : DRow wx L D v l xs
  lL : w.heap.size < L
  lD : L ≤ D
theorem NodeR.below {w wx wy : World} {D L : Nat} {kd : Int} {v : Value} {l : List DepT} {xs : List Value} (h : NodeR w wx D L kd v l xs) (hb : Below wx.heap.size wx wy) : NodeR w wy D L kd v l xs :=
  ⟨below_tr h.mv hb, h.dbox.below hb, h.obox.below hb, h.row.keep fun b _ _ hl => hb.block b hl, h.lL, h.lD⟩
theorem NodeR.kind {w wx : World} {D L : Nat} {kd : Int} {v : Value} {l : List DepT} {xs : List Value} (h : NodeR w wx D L kd v l xs) (k2 : Int) : NodeR w (wx.setCell ⟨D, 0, none⟩ (.int .i64 k2)) D L k2 v l xs := by
  have h2 := h.lL
  have h3 := h.lD
  exact ⟨below_sc h.mv (by omega) _ _, h.dbox.set 0 _, h.obox.to (set_other _ (by omega)), h.row.keep fun b hb hne hl => set_other _ hne, h2, h3⟩
theorem NodeR.more {w wx w3 w4 : World} {D L : Nat} {kd : Int} {v : Value} {l : List DepT} {d : DepT} {xs cs : List Value} (h : NodeR w wx D L kd v l xs) (hd : DepC w3 (New wx.heap.size w3) d cs) (hb3 : Below wx.heap.size wx w3) {g cap : Nat}
    (hown : w4.ownsRow L 73 5 (.slice (some ⟨g, 0, none⟩) (l.length + 1) cap) (l.length + 1) (xs ++ cs)) (hgrow : w3.grownBy w4 v.ownBlock) (hat : v.ownBlock = some g ∨ g = w3.heap.size) :
    NodeR w (w4.setCell ⟨D, 4, none⟩ (.slice (some ⟨g, 0, none⟩) (l.length + 1) cap)) D L kd (.slice (some ⟨g, 0, none⟩) (l.length + 1) cap) (l ++ [d]) (xs ++ cs) := by
  have h2 := h.lL
  have h3 := h.lD
  have hDl := h.dbox.lt
  have hOl := h.obox.lt
  have hsz : wx.heap.size ≤ w3.heap.size := hb3.size
  have hown_lo : ∀ b, v.ownBlock = some b → L ≤ b := fun b hb => (h.row.row.lt b hb).1
  have hb4 : ∀ b, b < wx.heap.size → v.ownBlock ≠ some b → w4.heap[b]? = wx.heap[b]? := fun b hbl ho => (hgrow.block b (Nat.lt_of_lt_of_le hbl hsz) (fun e => ho e.symm)).trans (hb3.block b hbl)
  have hD4 : w4.heap[D]? = wx.heap[D]? := hb4 D hDl h.row.ne
  have hO4 : w4.heap[w.heap.size]? = wx.heap[w.heap.size]? := hb4 _ hOl (fun e => by have := hown_lo _ e; omega)
  have hmv4 : Below w.heap.size w w4 := ⟨hgrow.os.trans (hb3.os.trans h.mv.os), hgrow.tape.trans (hb3.tape.trans h.mv.tape), hgrow.output.trans (hb3.output.trans h.mv.output), Nat.le_trans h.mv.size (Nat.le_trans hsz hgrow.size), fun b hbl => (hb4 b (Nat.lt_of_lt_of_le hbl h.mv.size) (fun e => by have := hown_lo b e; omega)).trans (h.mv.block b hbl)⟩
  have hrow := h.row.step (by omega) hDl hsz (fun b hb1 hne hbl => hb3.block b hbl) hd hown hgrow hat
  exact ⟨below_sc hmv4 (by omega) _ _, (h.dbox.to hD4).set 4 _, (h.obox.to hO4).to (set_other _ (by omega)), hrow.keep fun b hb1 hne hbl => set_other _ hne, h2, h3⟩
theorem kind_ways (x : Wd) : (kindOf x = 0 ∧ (x == [97, 110, 100]) = false ∧ (x == [111, 114]) = false ∧ (x == [105, 102]) = false ∧ (x == [119, 105, 116, 104]) = false ∧ (x == [119, 105, 116, 104, 111, 117, 116]) = false) ∨
    (kindOf x = 2 ∧ (x == [97, 110, 100]) = true) ∨ (kindOf x = 3 ∧ (x == [97, 110, 100]) = false ∧ (x == [111, 114]) = true) ∨ (kindOf x = 4 ∧ (x == [97, 110, 100]) = false ∧ (x == [111, 114]) = false ∧ (x == [105, 102]) = true) ∨
    (kindOf x = 5 ∧ (x == [97, 110, 100]) = false ∧ (x == [111, 114]) = false ∧ (x == [105, 102]) = false ∧ (x == [119, 105, 116, 104]) = true) ∨ (kindOf x = 6 ∧ (x == [97, 110, 100]) = false ∧ (x == [111, 114]) = false ∧ (x == [105, 102]) = false ∧ (x == [119, 105, 116, 104]) = false ∧ (x == [119, 105, 116, 104, 111, 117, 116]) = true) := by
  unfold kindOf andW orW ifW withW woW
  simp only [beq_iff_eq, beq_eq_false_iff_ne, ne_eq]
  by_cases h1 : x = [97, 110, 100]
  · exact .inr (.inl ⟨if_pos h1, h1⟩)
  · rw [if_neg h1]
    by_cases h2 : x = [111, 114]
    · exact .inr (.inr (.inl ⟨if_pos h2, h1, h2⟩))
    · rw [if_neg h2]
      by_cases h3 : x = [105, 102]
      · exact .inr (.inr (.inr (.inl ⟨if_pos h3, h1, h2, h3⟩)))
      · rw [if_neg h3]
        by_cases h4 : x = [119, 105, 116, 104]
        · exact .inr (.inr (.inr (.inr (.inl ⟨if_pos h4, h1, h2, h3, h4⟩))))
        · rw [if_neg h4]
          by_cases h5 : x = [119, 105, 116, 104, 111, 117, 116]
          · exact .inr (.inr (.inr (.inr (.inr ⟨if_pos h5, h1, h2, h3, h4, h5⟩))))
          · exact .inl ⟨if_neg h5, h1, h2, h3, h4, h5⟩
theorem kind_nil {x : Wd} (h : kindOf x ≠ 0) : x ≠ [] := fun e => h (by rw [e]; rfl)
theorem info73 : (Tryz.prog.info? 73).map (fun i => (i.zero, i.size, i.bytes)) = some (some (.agg #[.int .i64 0, .string ⟨#[]⟩, .int .i64 0, .string ⟨#[]⟩, .slice none 0 0]), 5, 72) := by kernel_rfl
set_option maxHeartbeats 16000000 in
set_option maxRecDepth 100000 in
theorem read_node {m : Nat} (ws : List Wd) (ih : ∀ (w : World) (a : Option Addr) (c n deep L : Nat), w.ownsRow L 9 1 (.slice a ws.length c) ws.length (strsL ws) → (ws.drop n).length < m → (ws.drop n).length ≤ deep → n ≤ ws.length + 3 → deep ≤ 1099511627776 → Calls Tryz.prog 132 #[.slice a ws.length c, .int .i64 (n : Int), .int .i64 (deep : Int)] w (RdPst w ws (rdOne m (ws.drop n))))
    (w : World) (a : Option Addr) (c n deep L0 : Nat) (hrow : w.ownsRow L0 9 1 (.slice a ws.length c) ws.length (strsL ws)) (hlm : (ws.drop n).length < m + 1) (hdp : (ws.drop n).length ≤ deep) (hn3 : n ≤ ws.length + 3) (hdb : deep ≤ 1099511627776) (hwl : ws.length ≤ 1099511627776) (h40 : hd (ws.drop n) = [40]) :
    Calls Tryz.prog 132 #[.slice a ws.length c, .int .i64 (n : Int), .int .i64 (deep : Int)] w (RdPst w ws (rdOne (m + 1) (ws.drop n))) := by
  have htl := hd_ne (ws := ws.drop n) (by rw [h40]; decide)
  have hnl := hd_len (ws := ws) (n := n) (by rw [h40]; decide)
  have IH := Lib.hid ih
  have HROW := Lib.hid hrow
  obtain ⟨w0, e0⟩ : ∃ w0, w.alloc (.cells #[.int .i64 0, .string ⟨#[]⟩, .int .i64 0, .string ⟨#[]⟩, .slice none 0 0] 73) = w0 := ⟨_, rfl⟩
  have HB0 : Hid (Below w.heap.size w w0 ∧ BoxN w0 w.heap.size [.int .i64 0, .string ⟨#[]⟩, .int .i64 0, .string ⟨#[]⟩, .slice none 0 0] 73 ∧ w0.heap.size = w.heap.size + 1) := by
    rw [← e0]
    exact ⟨below1 _ _, boxN_alloc _ _ _, by simp⟩
  have HA0 := Lib.hid (at_c ws a c n (by omega) w0 (ownsRow_below hrow HB0.out.1))
  rw [h40] at HA0
  obtain ⟨POST, hPOST⟩ : ∃ P, RdPst w ws (rdOne (m + 1) (ws.drop n)) = P := ⟨_, rfl⟩
  rw [hPOST]
  obtain ⟨RES, hRES⟩ : ∃ r, rdOne (m + 1) (ws.drop n) = r := ⟨_, rfl⟩
  rw [hRES] at hPOST
  have HPO := Lib.hid hPOST
  have hres := hRES
  rw [rdOne, if_neg (fun e => e h40), tail_drop1] at hres
  have HNO : Hid (RES = none → ∀ w', Below w.heap.size w w' → POST (.returned (.tuple #[.agg #[.int .i64 0, .string ⟨#[]⟩, .int .i64 0, .string ⟨#[]⟩, .slice none 0 0], .int .i64 (-1)])) w') := Lib.hid fun hn w' hb => by
    rw [← HPO.out, hn]
    exact ⟨hb, rfl⟩
  have q1 := wrap1 (n := n) (by omega)
  have hdp1 : ¬ (deep : Int) ≤ 0 := by omega
  have hdw : IntKind.i64.wrap ((deep : Int) - 1) = ((deep - 1 : Nat) : Int) := by rw [IntKind.wrap_i64]; omega
  obtain ⟨i73, hi73, hz730, hz731, hz732⟩ := info_parts info73
  have h40b : ((mkB [40]).toList == [40]) = true := by rw [bs_toList, bs_mkB]; rfl
  have h40c := beqt h40b
  generalize mkB [40] = u at HA0 h40b h40c
  clear hPOST hRES ih hrow h40
  have HQ0 : Hid ((ws.drop (n + 1)).length + 1 = (ws.drop n).length) := Lib.hid (by rw [← tail_drop1]; exact htl)
  have htl := HQ0.out
  generalize hq0 : (ws.drop n).length = Q0 at hlm hdp htl
  clear hq0
  go_enter Tryz.func132, Tryz.ntmps132
  cases hq1 : rdOne m (ws.drop (n + 1)) with
  | none =>
    have HRN : Hid (RES = none) := Lib.hid (by
      rw [hq1] at hres
      exact hres.symm)
    have HCI := Lib.hid (IH.out w0 a c (n + 1) (deep - 1) L0 (ownsRow_below HROW.out HB0.out.1) (by omega) (by omega) (by omega) (by omega))
    rw [hq1] at HCI
    clear hq1 hres
    go_upto_region 14 with (first
      | (go_at_call 142; refine HA0.out.mono ?_; rintro e wq ⟨rfl, hw⟩; subst hw)
      | (go_at_call 132; refine HCI.out.mono ?_; rintro e wn ⟨hbn, rfl⟩; have HBn := Lib.hid hbn; clear hbn))
    obtain ⟨wm, em⟩ : ∃ wm, wn.alloc (.cells #[.int .i64 0, .string ⟨#[]⟩, .int .i64 0, .string ⟨#[]⟩, .slice none 0 0] 73) = wm := ⟨_, rfl⟩
    have HNm : Hid (Below w.heap.size w wm ∧ BoxN wm w.heap.size [.int .i64 0, .string ⟨#[]⟩, .int .i64 0, .string ⟨#[]⟩, .slice none 0 0] 73) := Lib.hid (by
      have h1 : Below wn.heap.size wn wm := by rw [← em]; exact below1 _ _
      exact ⟨below_tr (below_tr HB0.out.1 HBn.out) h1, (HB0.out.2.1.below HBn.out).below h1⟩)
    try rw [em]
    have HBXr := Lib.hid (HNm.out.2)
    have HBLr := Lib.hid (HNm.out.1)
    obtain ⟨z0, z1, z2, z3, z4, g0, g1, g2, g3, g4⟩ := box5 HBXr.out
    obtain ⟨wE, eE⟩ : ∃ wE, (((((wm.setCell ⟨w.heap.size, 0, none⟩ (.int .i64 0)).setCell ⟨w.heap.size, 1, none⟩ (.string ⟨#[]⟩)).setCell ⟨w.heap.size, 2, none⟩ (.int .i64 0)).setCell ⟨w.heap.size, 3, none⟩ (.string ⟨#[]⟩)).setCell ⟨w.heap.size, 4, none⟩ (.slice none 0 0)) = wE := ⟨_, rfl⟩
    have HE : Hid (BoxN wE w.heap.size [.int .i64 0, .string ⟨#[]⟩, .int .i64 0, .string ⟨#[]⟩, .slice none 0 0] 73 ∧ Below w.heap.size w wE ∧ ∀ b, b ≠ w.heap.size → wE.heap[b]? = wm.heap[b]?) := Lib.hid (by
      rw [← eE]
      exact ⟨fill5 HBXr.out _ _ _ _ _, HBLr.out.trans (fill5_below (Nat.le_refl _) _ _ _ _ _), fun b hb => fill5_other hb _ _ _ _ _⟩)
    obtain ⟨y0, y1, y2, y3, y4, _⟩ := box5 HE.out.1
    have HF : Hid (POST (.returned (.tuple #[.agg #[.int .i64 0, .string ⟨#[]⟩, .int .i64 0, .string ⟨#[]⟩, .slice none 0 0], .int .i64 (-1)])) wE) := Lib.hid (HNO.out HRN.out _ HE.out.2.1)
    go_wp2_with fail
    refine bodyPost_ret (v := .tuple #[.agg #[.int .i64 0, .string ⟨#[]⟩, .int .i64 0, .string ⟨#[]⟩, .slice none 0 0], .int .i64 (-1)]) (by simp [results, Tryz.results132, go_sem, y0, y1, y2, y3, y4]) rfl ?_
    exact HF.out
  | some y1 =>
    obtain ⟨d, r⟩ := y1
    have hsf1 := (rdOne_suf m (ws.drop (n + 1)) d r hq1).2
    rw [hq1] at hres
    have HRES : Hid ((if kindOf (hd r) = 0 then none else match rdMore (rdOne m) (hd r) (m + 1) [d] r with | none => none | some (l, q) => rdElse (rdOne m) (hd r) l q) = RES) := Lib.hid hres
    have HCI := Lib.hid (IH.out w0 a c (n + 1) (deep - 1) L0 (ownsRow_below HROW.out HB0.out.1) (by omega) (by omega) (by omega) (by omega))
    rw [hq1] at HCI
    clear hq1 hres
    go_upto_region 15 with (first
      | (go_at_call 142; refine HA0.out.mono ?_; rintro e wq ⟨rfl, hw⟩; subst hw)
      | (go_at_call 132; refine HCI.out.mono ?_; rintro e w2 ⟨hbn, k', nm', op', ev', a', n', c', m1, rfl, hdc, hdr, hml, hov⟩; have HBn := Lib.hid hbn; have HDC := Lib.hid hdc; have HDR := Lib.hid hdr; have hm10 : ¬ (m1 : Int) < 0 := (by omega); clear hbn hdc hdr hov))
    obtain ⟨w3, e3⟩ : ∃ w3, w2.alloc (.cells #[.int .i64 k', .string nm', .int .i64 op', .string ev', .slice a' n' c'] 73) = w3 := ⟨_, rfl⟩
    have HB3 : Hid (Below w2.heap.size w2 w3 ∧ BoxN w3 w2.heap.size [.int .i64 k', .string nm', .int .i64 op', .string ev', .slice a' n' c'] 73 ∧ w3.heap.size = w2.heap.size + 1) := by
      rw [← e3]
      exact ⟨below1 _ _, boxN_alloc _ _ _, by simp⟩
    try rw [e3]
    obtain ⟨x0, x1, x2, x3, x4, _⟩ := box5 HB3.out.2.1
    go_upto_region 16 with fail
    obtain ⟨w4, e4⟩ : ∃ w4, w3.alloc (.cells #[.int .i64 k', .string nm', .int .i64 op', .string ev', .slice a' n' c'] 73) = w4 := ⟨_, rfl⟩
    have HB4 : Hid (Below w3.heap.size w3 w4 ∧ BoxN w4 w3.heap.size [.int .i64 k', .string nm', .int .i64 op', .string ev', .slice a' n' c'] 73 ∧ w4.heap.size = w3.heap.size + 1) := by
      rw [← e4]
      exact ⟨below1 _ _, boxN_alloc _ _ _, by simp⟩
    try rw [e4]
    have e4s : w3.heap.size + 1 = w4.heap.size := HB4.out.2.2.symm
    try rw [e4s]
    obtain ⟨w5, e5⟩ : ∃ w5, w4.alloc (.cells #[.int .i64 0, .string ⟨#[]⟩, .int .i64 0, .string ⟨#[]⟩, .slice (some ⟨w3.heap.size, 0, none⟩) 1 1] 73) = w5 := ⟨_, rfl⟩
    have HB5 : Hid (Below w4.heap.size w4 w5 ∧ BoxN w5 w4.heap.size [.int .i64 0, .string ⟨#[]⟩, .int .i64 0, .string ⟨#[]⟩, .slice (some ⟨w3.heap.size, 0, none⟩) 1 1] 73) := by
      rw [← e5]
      exact ⟨below1 _ _, boxN_alloc _ _ _⟩
    try rw [e5]
    obtain ⟨D, hD⟩ : ∃ D, w4.heap.size = D := ⟨_, rfl⟩
    obtain ⟨L, hL⟩ : ∃ L, w0.heap.size = L := ⟨_, rfl⟩
    have HNA : Hid (NodeR w w5 D L 0 (.slice (some ⟨w3.heap.size, 0, none⟩) 1 1) [d] [.int .i64 k', .string nm', .int .i64 op', .string ev', .slice a' n' c']) := Lib.hid (by
      have q1 := HB0.out.2.2
      have q2 := HBn.out.size
      have q3 := HB3.out.2.2
      have q4 := HB4.out.2.2
      have hd5 := HB5.out.2
      rw [hD] at hd5
      refine ⟨below_tr (below_tr (below_tr (below_tr HB0.out.1 HBn.out) HB3.out.1) HB4.out.1) HB5.out.1, hd5, (((HB0.out.2.1.below HBn.out).below HB3.out.1).below HB4.out.1).below HB5.out.1, ?_, by omega, by omega⟩
      have hxx : DepC w5 (fun b => New L w5 b ∧ b < w3.heap.size) d [.int .i64 k', .string nm', .int .i64 op', .string ev', .slice a' n' c'] := by
        refine HDC.out.keep (fun b hb => ?_) (fun b hb hl => ?_) (fun _ _ => trivial)
        · rw [hL] at hb
          have := hb.2.lt
          exact ⟨((hb.below HB3.out.1).below HB4.out.1).below HB5.out.1, by omega⟩
        · exact ((HB5.out.1.block b (by omega)).trans (HB4.out.1.block b (by omega))).trans (HB3.out.1.block b hl)
      exact DRow.one (by omega) (by omega) (fun b _ hl => by omega) (HB4.out.2.1.below HB5.out.1) hxx)
    try rw [hD]
    clear x0 x1 x2 x3 x4 e3 e4 e4s e5 HB3 HB4 HB5 hD hL HDC HBn HB0 HA0
    have HA1 := Lib.hid (at_c ws a c m1 (by omega) w5 (ownsRow_below HROW.out HNA.out.mv))
    rw [HDR.out] at HA1
    obtain ⟨k, hk⟩ : ∃ k, hd r = k := ⟨_, rfl⟩
    rw [hk] at HRES HA1
    have HK := Lib.hid hk
    clear hk
    obtain ⟨ux1, hu1⟩ : ∃ ux1, mkB k = ux1 := ⟨_, rfl⟩
    have hb1 : bs ux1 = k := by rw [← hu1]; rfl
    rw [hu1] at HA1
    have HU1 := Lib.hid hb1
    have hways := kind_ways k
    rw [show k = ux1.toList by rw [bs_toList, hb1]] at hways
    have hkk : kindOf ux1.toList = kindOf k := by rw [bs_toList, hb1]
    rw [hkk] at hways
    clear hu1 hb1 hkk
    have d0 := HNA.out.dbox.cell (j := 0) rfl
    have g0 : w5.frozen? ⟨D, 0, none⟩ = false := frozen_of HNA.out.dbox
    go_upto_block 0 with (go_at_call 142; refine HA1.out.mono ?_; rintro e wq ⟨rfl, hw⟩; subst hw)
    go_cut [69] from 69 to 85 (fun _ wx => kindOf k ≠ 0 ∧ kindOf k ≤ 6 ∧ Hid (NodeR w wx D L (kindOf k : Int) (.slice (some ⟨w3.heap.size, 0, none⟩) 1 1) [d] [.int .i64 k', .string nm', .int .i64 op', .string ev', .slice a' n' c']))
    case first =>
      rcases hways with ⟨hk0, hk1, hk2, hk3, hk4, hk5⟩ | ⟨hk0, hk1⟩ | ⟨hk0, hk1, hk2⟩ | ⟨hk0, hk1, hk2, hk3⟩ | ⟨hk0, hk1, hk2, hk3, hk4⟩ | ⟨hk0, hk1, hk2, hk3, hk4, hk5⟩
      · have HRN : Hid (RES = none) := Lib.hid (by
          have h1 := HRES.out
          rw [if_pos hk0] at h1
          exact h1.symm)
        go_upto_region 18 with fail
        have HBXr := Lib.hid (HNA.out.obox)
        have HBLr := Lib.hid (HNA.out.mv)
        obtain ⟨z0, z1, z2, z3, z4, g0, g1, g2, g3, g4⟩ := box5 HBXr.out
        obtain ⟨wE, eE⟩ : ∃ wE, (((((w5.setCell ⟨w.heap.size, 0, none⟩ (.int .i64 0)).setCell ⟨w.heap.size, 1, none⟩ (.string ⟨#[]⟩)).setCell ⟨w.heap.size, 2, none⟩ (.int .i64 0)).setCell ⟨w.heap.size, 3, none⟩ (.string ⟨#[]⟩)).setCell ⟨w.heap.size, 4, none⟩ (.slice none 0 0)) = wE := ⟨_, rfl⟩
        have HE : Hid (BoxN wE w.heap.size [.int .i64 0, .string ⟨#[]⟩, .int .i64 0, .string ⟨#[]⟩, .slice none 0 0] 73 ∧ Below w.heap.size w wE ∧ ∀ b, b ≠ w.heap.size → wE.heap[b]? = w5.heap[b]?) := Lib.hid (by
          rw [← eE]
          exact ⟨fill5 HBXr.out _ _ _ _ _, HBLr.out.trans (fill5_below (Nat.le_refl _) _ _ _ _ _), fun b hb => fill5_other hb _ _ _ _ _⟩)
        obtain ⟨y0, y1, y2, y3, y4, _⟩ := box5 HE.out.1
        have HF : Hid (POST (.returned (.tuple #[.agg #[.int .i64 0, .string ⟨#[]⟩, .int .i64 0, .string ⟨#[]⟩, .slice none 0 0], .int .i64 (-1)])) wE) := Lib.hid (HNO.out HRN.out _ HE.out.2.1)
        go_wp2_with fail
        refine bodyPost_ret (v := .tuple #[.agg #[.int .i64 0, .string ⟨#[]⟩, .int .i64 0, .string ⟨#[]⟩, .slice none 0 0], .int .i64 (-1)]) (by simp [results, Tryz.results132, go_sem, y0, y1, y2, y3, y4]) rfl ?_
        exact HF.out
      all_goals
        go_wp2_with fail
        go_meet
        case rel =>
          rw [hk0]
          exact ⟨by decide, by decide, Lib.hid (HNA.out.kind _)⟩
    case rest =>
      obtain ⟨hk0, hq6, HN6⟩ := hcut
      clear HNA HA1 d0 g0 hways
      have HRM : Hid ((match rdMore (rdOne m) k (m + 1) [d] r with | none => none | some (l, q) => rdElse (rdOne m) k l q) = RES) := Lib.hid (by
        have h1 := HRES.out
        rw [if_neg hk0] at h1
        exact h1)
      have hkn := kind_nil hk0
      obtain ⟨kd, hkd⟩ : ∃ kd, kindOf k = kd := ⟨_, rfl⟩
      rw [hkd] at hq6 HN6
      have HKD := Lib.hid hkd
      have HKN := Lib.hid hkn
      obtain ⟨MORE, hmore⟩ : ∃ o, rdMore (rdOne m) k (m + 1) [d] r = o := ⟨_, rfl⟩
      rw [hmore] at HRM
      have HMORE := Lib.hid hmore
      clear hmore hkd hk0 hkn HRES
      go_wp2_with fail
      go_loopg [1] Q0 (fun gk v1 wr => ∃ (mm : Nat) (l : List DepT) (va : Option Addr) (vc : Nat) (xs : List Value) (f : Nat), v1 = .int .i64 (mm : Int) ∧ mm ≤ ws.length + 3 ∧ (ws.drop mm).length ≤ gk ∧ (ws.drop mm).length < f ∧ l.length + (ws.drop mm).length ≤ Q0 ∧ 1 ≤ l.length ∧ Hid (rdMore (rdOne m) k f l (ws.drop mm) = MORE ∧ NodeR w wr D L kd (.slice va l.length vc) l xs))
      case atStart => exact ⟨m1, [d], _, _, _, m + 1, rfl, hml, by rw [HDR.out]; omega, by rw [HDR.out]; omega, by rw [HDR.out]; simp; omega, by simp, by rw [HDR.out]; exact HMORE.out, HN6.out⟩
      case round =>
        clear HN6 HMORE
        obtain ⟨gJ, rfl⟩ : ∃ x : Nat, x = gk := ⟨_, rfl⟩
        obtain ⟨mm, l, va, vc, xs, f, rfl, hmm, hgk, hf, hlen, hl1, HT⟩ := hrel
        obtain ⟨wa, rfl⟩ : ∃ x : World, x = wr := ⟨_, rfl⟩
        obtain ⟨f', rfl⟩ : ∃ f', f = f' + 1 := ⟨f - 1, by omega⟩
        have hmo := HT.out.1
        rw [rdMore] at hmo
        have HNA := Lib.hid HT.out.2
        have x4 := HNA.out.dbox.cell (j := 4) rfl
        have HA2 := Lib.hid (at_c ws a c mm (by omega) wa (ownsRow_below HROW.out HNA.out.mv))
        have qm := wrap1 (n := mm) (by omega)
        obtain ⟨ux2, hu2e⟩ : ∃ ux2, mkB (hd (ws.drop mm)) = ux2 := ⟨_, rfl⟩
        have hu2 : bs ux2 = hd (ws.drop mm) := by rw [← hu2e]; rfl
        rw [hu2e] at HA2
        clear HT hu2e
        by_cases hdk : hd (ws.drop mm) = k
        · have he : (ux2.toList == ux1.toList) = true := by rw [eqW hu2 HU1.out]; exact decide_eq_true hdk
          rw [if_pos hdk] at hmo
          have htq := hd_ne (ws := ws.drop mm) (by rw [hdk]; exact HKN.out)
          have hnm := hd_len (ws := ws) (n := mm) (by rw [hdk]; exact HKN.out)
          clear hdk hu2
          by_cases hbad : l.length ≠ 1 ∧ (k = ifW ∨ k = woW)
          · rw [if_pos hbad] at hmo
            have HRN : Hid (RES = none) := Lib.hid (by
              have h1 := HRM.out
              rw [← hmo] at h1
              exact h1.symm)
            have hln : (1 : Int) < (l.length : Int) := by omega
            have hln2 : 1 < l.length := by omega
            obtain ⟨_, hb⟩ := hbad
            have hkk : ((ux1.toList == [105, 102]) = true) ∨ ((ux1.toList == [105, 102]) = false ∧ (ux1.toList == [119, 105, 116, 104, 111, 117, 116]) = true) := by
              rcases hb with hb | hb
              · exact .inl (by rw [eqL [105, 102] HU1.out]; exact decide_eq_true hb)
              · refine .inr ⟨?_, ?_⟩
                · rw [eqL [105, 102] HU1.out, hb]
                  decide
                · rw [eqL [119, 105, 116, 104, 111, 117, 116] HU1.out]
                  exact decide_eq_true hb
            clear hmo hb
            rcases hkk with hk1 | ⟨hk1, hk2⟩
            all_goals
              go_upto_region 31 with (go_at_call 142; refine HA2.out.mono ?_; rintro e wq ⟨rfl, hw⟩; subst hw)
              have HBXr := Lib.hid (HNA.out.obox)
              have HBLr := Lib.hid (HNA.out.mv)
              obtain ⟨z0, z1, z2, z3, z4, g0, g1, g2, g3, g4⟩ := box5 HBXr.out
              obtain ⟨wE, eE⟩ : ∃ wE, (((((wa.setCell ⟨w.heap.size, 0, none⟩ (.int .i64 0)).setCell ⟨w.heap.size, 1, none⟩ (.string ⟨#[]⟩)).setCell ⟨w.heap.size, 2, none⟩ (.int .i64 0)).setCell ⟨w.heap.size, 3, none⟩ (.string ⟨#[]⟩)).setCell ⟨w.heap.size, 4, none⟩ (.slice none 0 0)) = wE := ⟨_, rfl⟩
              have HE : Hid (BoxN wE w.heap.size [.int .i64 0, .string ⟨#[]⟩, .int .i64 0, .string ⟨#[]⟩, .slice none 0 0] 73 ∧ Below w.heap.size w wE ∧ ∀ b, b ≠ w.heap.size → wE.heap[b]? = wa.heap[b]?) := Lib.hid (by
                rw [← eE]
                exact ⟨fill5 HBXr.out _ _ _ _ _, HBLr.out.trans (fill5_below (Nat.le_refl _) _ _ _ _ _), fun b hb => fill5_other hb _ _ _ _ _⟩)
              obtain ⟨y0, y1, y2, y3, y4, _⟩ := box5 HE.out.1
              have HF : Hid (POST (.returned (.tuple #[.agg #[.int .i64 0, .string ⟨#[]⟩, .int .i64 0, .string ⟨#[]⟩, .slice none 0 0], .int .i64 (-1)])) wE) := Lib.hid (HNO.out HRN.out _ HE.out.2.1)
              go_wp2_with fail
              refine bodyPost_ret (v := .tuple #[.agg #[.int .i64 0, .string ⟨#[]⟩, .int .i64 0, .string ⟨#[]⟩, .slice none 0 0], .int .i64 (-1)]) (by simp [results, Tryz.results132, go_sem, y0, y1, y2, y3, y4]) rfl ?_
              exact HF.out
          · rw [if_neg hbad] at hmo
            have HMO := Lib.hid hmo
            have hkk : ((ux1.toList == [105, 102]) = true ∧ ¬ 1 < l.length ∧ ¬ (1 : Int) < (l.length : Int)) ∨ ((ux1.toList == [105, 102]) = false ∧ (ux1.toList == [119, 105, 116, 104, 111, 117, 116]) = true ∧ ¬ 1 < l.length ∧ ¬ (1 : Int) < (l.length : Int)) ∨ ((ux1.toList == [105, 102]) = false ∧ (ux1.toList == [119, 105, 116, 104, 111, 117, 116]) = false) := by
              rw [eqL [105, 102] HU1.out, eqL [119, 105, 116, 104, 111, 117, 116] HU1.out]
              by_cases h1 : k = ifW
              · have h2 : l.length = 1 := by
                  rcases Nat.decEq l.length 1 with h | h
                  · exact absurd ⟨h, .inl h1⟩ hbad
                  · exact h
                exact .inl ⟨decide_eq_true h1, by omega, by omega⟩
              · by_cases h3 : k = woW
                · have h2 : l.length = 1 := by
                    rcases Nat.decEq l.length 1 with h | h
                    · exact absurd ⟨h, .inr h3⟩ hbad
                    · exact h
                  exact .inr (.inl ⟨decide_eq_false h1, decide_eq_true h3, by omega, by omega⟩)
                · exact .inr (.inr ⟨decide_eq_false h1, decide_eq_false h3⟩)
            clear hmo hbad
            go_upto_region 30 with (go_at_call 142; refine HA2.out.mono ?_; rintro e wq ⟨rfl, hw⟩; subst hw)
            go_cut [102] from 91 to 102 (fun v102 wx => v102 = .bool false ∧ wx = wa)
            case first =>
              rcases hkk with ⟨hk1, hk2, hk3⟩ | ⟨hk1, hk2, hk3, hk4⟩ | ⟨hk1, hk2⟩
              all_goals
                go_wp2_with fail
                go_meet
                case rel => exact ⟨by first | rfl | exact congrArg Value.bool (decide_eq_false (by omega)), rfl⟩
            case rest =>
              obtain ⟨rfl, rfl⟩ := hcut
              clear hkk
              cases hq2 : rdOne m (ws.drop (mm + 1)) with
              | none =>
                have HRN : Hid (RES = none) := Lib.hid (by
                  have h1 := HMO.out
                  rw [tail_drop1, hq2] at h1
                  have h2 := HRM.out
                  rw [← h1] at h2
                  exact h2.symm
              )
                have HCI := Lib.hid (IH.out wc a c (mm + 1) (deep - 1) L0 (ownsRow_below HROW.out HNA.out.mv) (by rw [← tail_drop1]; omega) (by rw [← tail_drop1]; omega) (by omega) (by omega))
                rw [hq2] at HCI
                clear hq2
                go_upto_region 34 with (first | (go_at_call 142; refine HA2.out.mono ?_; rintro e wq ⟨rfl, hw⟩; subst hw) | (go_at_call 132; refine HCI.out.mono ?_; rintro e wn ⟨hbn, rfl⟩; have HBn := Lib.hid hbn; clear hbn))
                obtain ⟨wm, em⟩ : ∃ wm, wn.alloc (.cells #[.int .i64 0, .string ⟨#[]⟩, .int .i64 0, .string ⟨#[]⟩, .slice none 0 0] 73) = wm := ⟨_, rfl⟩
                have HNm := Lib.hid ((HNA.out.below HBn.out).below (by rw [← em]; exact below1 _ _ : Below wn.heap.size wn wm))
                try rw [em]
                have HBXr := Lib.hid (HNm.out.obox)
                have HBLr := Lib.hid (HNm.out.mv)
                obtain ⟨z0, z1, z2, z3, z4, g0, g1, g2, g3, g4⟩ := box5 HBXr.out
                obtain ⟨wE, eE⟩ : ∃ wE, (((((wm.setCell ⟨w.heap.size, 0, none⟩ (.int .i64 0)).setCell ⟨w.heap.size, 1, none⟩ (.string ⟨#[]⟩)).setCell ⟨w.heap.size, 2, none⟩ (.int .i64 0)).setCell ⟨w.heap.size, 3, none⟩ (.string ⟨#[]⟩)).setCell ⟨w.heap.size, 4, none⟩ (.slice none 0 0)) = wE := ⟨_, rfl⟩
                have HE : Hid (BoxN wE w.heap.size [.int .i64 0, .string ⟨#[]⟩, .int .i64 0, .string ⟨#[]⟩, .slice none 0 0] 73 ∧ Below w.heap.size w wE ∧ ∀ b, b ≠ w.heap.size → wE.heap[b]? = wm.heap[b]?) := Lib.hid (by
                  rw [← eE]
                  exact ⟨fill5 HBXr.out _ _ _ _ _, HBLr.out.trans (fill5_below (Nat.le_refl _) _ _ _ _ _), fun b hb => fill5_other hb _ _ _ _ _⟩)
                obtain ⟨y0, y1, y2, y3, y4, _⟩ := box5 HE.out.1
                have HF : Hid (POST (.returned (.tuple #[.agg #[.int .i64 0, .string ⟨#[]⟩, .int .i64 0, .string ⟨#[]⟩, .slice none 0 0], .int .i64 (-1)])) wE) := Lib.hid (HNO.out HRN.out _ HE.out.2.1)
                go_wp2_with fail
                refine bodyPost_ret (v := .tuple #[.agg #[.int .i64 0, .string ⟨#[]⟩, .int .i64 0, .string ⟨#[]⟩, .slice none 0 0], .int .i64 (-1)]) (by simp [results, Tryz.results132, go_sem, y0, y1, y2, y3, y4]) rfl ?_
                exact HF.out
              | some y =>
                obtain ⟨d2, q2⟩ := y
                have hsf := (rdOne_suf m (ws.drop (mm + 1)) d2 q2 hq2).2
                rw [← tail_drop1] at hsf
                have HQ2 := Lib.hid hq2
                have HCI := Lib.hid (IH.out wc a c (mm + 1) (deep - 1) L0 (ownsRow_below HROW.out HNA.out.mv) (by rw [← tail_drop1]; omega) (by rw [← tail_drop1]; omega) (by omega) (by omega))
                rw [hq2] at HCI
                clear hq2
                go_upto_region 35 with (first | (go_at_call 142; refine HA2.out.mono ?_; rintro e wq ⟨rfl, hw⟩; subst hw) | (go_at_call 132; refine HCI.out.mono ?_; rintro e wn ⟨hbn, ky, ny, oy, ey, ay, py, cy, mq, rfl, hdc, hdr, hml, hov⟩; have HBn := Lib.hid hbn; have HDCn := Lib.hid hdc; have HDRn := Lib.hid hdr; have HOVn := Lib.hid hov; have hmq0 : ¬ (mq : Int) < 0 := (by omega); clear hbn hdc hdr hov))
                obtain ⟨wm, em⟩ : ∃ wm, wn.alloc (.cells #[.int .i64 ky, .string ny, .int .i64 oy, .string ey, .slice ay py cy] 73) = wm := ⟨_, rfl⟩
                have HBm : Hid (Below wn.heap.size wn wm ∧ BoxN wm wn.heap.size [.int .i64 ky, .string ny, .int .i64 oy, .string ey, .slice ay py cy] 73) := by
                  rw [← em]
                  exact ⟨below1 _ _, boxN_alloc _ _ _⟩
                try rw [em]
                have HNm := Lib.hid ((HNA.out.below HBn.out).below HBm.out.1)
                obtain ⟨wp, ep⟩ : ∃ wp, wm.alloc (.cells #[.int .i64 ky, .string ny, .int .i64 oy, .string ey, .slice ay py cy] 73) = wp := ⟨_, rfl⟩
                have HBp : Hid (Below wm.heap.size wm wp ∧ BoxN wp wm.heap.size [.int .i64 ky, .string ny, .int .i64 oy, .string ey, .slice ay py cy] 73) := by
                  rw [← ep]
                  exact ⟨below1 _ _, boxN_alloc _ _ _⟩
                have HNp := Lib.hid (HNm.out.below HBp.out.1)
                obtain ⟨x0, x1, x2, x3, x4, _⟩ := box5 HBm.out.2
                have v4 := HNm.out.dbox.cell (j := 4) rfl
                have hLp : L ≤ wp.heap.size := by
                  have h1 := HNp.out.lD
                  have h2 := HNp.out.dbox.lt
                  omega
                go_upto_region 36 with (at_builtin; refine wpList_append_lies _ rfl (.tmp 117) (.tmp 119) 33 rfl L 73 i73 _ 5 72 Tryz.underlying33 hi73 hz730 hz731 hz732 rfl (by decide) (.slice va l.length vc) l.length xs rfl HNp.out.row.row ⟨wm.heap.size, 0, none⟩ 1 1 [.int .i64 ky, .string ny, .int .i64 oy, .string ey, .slice ay py cy] rfl rfl (World.news_of_block (cs := #[.int .i64 ky, .string ny, .int .i64 oy, .string ey, .slice ay py cy]) (t := 73) (fr := (0, 0)) HBp.out.2) (by intro u hu; simp only [List.mem_cons, List.not_mem_nil, or_false] at hu; rcases hu with rfl | rfl | rfl | rfl | rfl <;> rfl) (by omega) (by unfold maxLen; omega) (by omega) hLp wp.heap.size rfl ?_; intro g9 c9 wq hown9 hgrow9 hat9 hlt9; have y4 := (HNp.out.dbox.to (hgrow9.block D HNp.out.dbox.lt (fun e => HNp.out.row.ne e.symm))).cell (j := 4) rfl; have f4 : wq.frozen? ⟨D, 4, none⟩ = false := frozen_of (HNp.out.dbox.to (hgrow9.block D HNp.out.dbox.lt (fun e => HNp.out.row.ne e.symm))))
                obtain ⟨wz, ez⟩ : ∃ wz, wq.setCell ⟨D, 4, none⟩ (.slice (some ⟨g9, 0, none⟩) (l.length + 1) c9) = wz := ⟨_, rfl⟩
                have HNz : Hid (NodeR w wz D L kd (.slice (some ⟨g9, 0, none⟩) (l.length + 1) c9) (l ++ [d2]) (xs ++ [.int .i64 ky, .string ny, .int .i64 oy, .string ey, .slice ay py cy])) := Lib.hid (by
                  rw [← ez]
                  have hbb : Below wc.heap.size wc wp := below_tr (below_tr HBn.out HBm.out.1) HBp.out.1
                  exact HNA.out.more ((HDCn.out.new HBm.out.1).new HBp.out.1) hbb hown9 hgrow9 hat9)
                rw [ez]
                clear x0 x1 x2 x3 x4 v4 y4 f4 hown9 hgrow9 hat9 hlt9 ez ep em HBp HBm HNp HNm HDCn
                go_wp2_with fail
                go_roundg (gJ - 1)
                case measure => omega
                case rel =>
                  refine ⟨mq, l ++ [d2], some ⟨g9, 0, none⟩, c9, xs ++ [.int .i64 ky, .string ny, .int .i64 oy, .string ey, .slice ay py cy], f', rfl, by omega, by rw [HDRn.out]; omega, by rw [HDRn.out]; omega, by rw [HDRn.out, List.length_append, List.length_singleton]; omega, by rw [List.length_append, List.length_singleton]; omega, ?_, ?_⟩
                  · have h1 := HMO.out
                    rw [tail_drop1, HQ2.out] at h1
                    rw [HDRn.out]
                    exact h1
                  · rw [List.length_append, List.length_singleton]
                    exact HNz.out
        · have he : (ux2.toList == ux1.toList) = false := by rw [eqW hu2 HU1.out]; exact decide_eq_false hdk
          rw [if_neg hdk] at hmo
          have HRE : Hid (rdElse (rdOne m) k l (ws.drop mm) = RES) := Lib.hid (by
            have h1 := HRM.out
            rw [← hmo] at h1
            exact h1)
          clear hmo hdk
          by_cases hel : k = ifW ∧ hd (ws.drop mm) = elseW
          · have hk1 : (ux1.toList == [105, 102]) = true := by rw [eqL [105, 102] HU1.out]; exact decide_eq_true hel.1
            have hk2 : (ux2.toList == [101, 108, 115, 101]) = true := by rw [eqL [101, 108, 115, 101] hu2]; exact decide_eq_true hel.2
            have htq := hd_ne (ws := ws.drop mm) (by rw [hel.2]; decide)
            have hnm := hd_len (ws := ws) (n := mm) (by rw [hel.2]; decide)
            have HREL := Lib.hid (by
              have h1 := HRE.out
              unfold rdElse at h1
              rw [if_pos hel] at h1
              exact h1 : (match rdOne m (ws.drop mm).tail with | none => none | some (d, r) => rdEnd k (l ++ [d]) r) = RES)
            clear hel hu2 HRE
            cases hq2 : rdOne m (ws.drop (mm + 1)) with
            | none =>
              have HRN : Hid (RES = none) := Lib.hid (by
                have h1 := HREL.out
                rw [tail_drop1, hq2] at h1
                exact h1.symm
            )
              have HCI := Lib.hid (IH.out wa a c (mm + 1) (deep - 1) L0 (ownsRow_below HROW.out HNA.out.mv) (by rw [← tail_drop1]; omega) (by rw [← tail_drop1]; omega) (by omega) (by omega))
              rw [hq2] at HCI
              clear hq2
              go_upto_region 40 with (first | (go_at_call 142; refine HA2.out.mono ?_; rintro e wq ⟨rfl, hw⟩; subst hw) | (go_at_call 132; refine HCI.out.mono ?_; rintro e wn ⟨hbn, rfl⟩; have HBn := Lib.hid hbn; clear hbn))
              obtain ⟨wm, em⟩ : ∃ wm, wn.alloc (.cells #[.int .i64 0, .string ⟨#[]⟩, .int .i64 0, .string ⟨#[]⟩, .slice none 0 0] 73) = wm := ⟨_, rfl⟩
              have HNm := Lib.hid ((HNA.out.below HBn.out).below (by rw [← em]; exact below1 _ _ : Below wn.heap.size wn wm))
              try rw [em]
              have HBXr := Lib.hid (HNm.out.obox)
              have HBLr := Lib.hid (HNm.out.mv)
              obtain ⟨z0, z1, z2, z3, z4, g0, g1, g2, g3, g4⟩ := box5 HBXr.out
              obtain ⟨wE, eE⟩ : ∃ wE, (((((wm.setCell ⟨w.heap.size, 0, none⟩ (.int .i64 0)).setCell ⟨w.heap.size, 1, none⟩ (.string ⟨#[]⟩)).setCell ⟨w.heap.size, 2, none⟩ (.int .i64 0)).setCell ⟨w.heap.size, 3, none⟩ (.string ⟨#[]⟩)).setCell ⟨w.heap.size, 4, none⟩ (.slice none 0 0)) = wE := ⟨_, rfl⟩
              have HE : Hid (BoxN wE w.heap.size [.int .i64 0, .string ⟨#[]⟩, .int .i64 0, .string ⟨#[]⟩, .slice none 0 0] 73 ∧ Below w.heap.size w wE ∧ ∀ b, b ≠ w.heap.size → wE.heap[b]? = wm.heap[b]?) := Lib.hid (by
                rw [← eE]
                exact ⟨fill5 HBXr.out _ _ _ _ _, HBLr.out.trans (fill5_below (Nat.le_refl _) _ _ _ _ _), fun b hb => fill5_other hb _ _ _ _ _⟩)
              obtain ⟨y0, y1, y2, y3, y4, _⟩ := box5 HE.out.1
              have HF : Hid (POST (.returned (.tuple #[.agg #[.int .i64 0, .string ⟨#[]⟩, .int .i64 0, .string ⟨#[]⟩, .slice none 0 0], .int .i64 (-1)])) wE) := Lib.hid (HNO.out HRN.out _ HE.out.2.1)
              go_wp2_with fail
              refine bodyPost_ret (v := .tuple #[.agg #[.int .i64 0, .string ⟨#[]⟩, .int .i64 0, .string ⟨#[]⟩, .slice none 0 0], .int .i64 (-1)]) (by simp [results, Tryz.results132, go_sem, y0, y1, y2, y3, y4]) rfl ?_
              exact HF.out
            | some y =>
              obtain ⟨d2, q2⟩ := y
              have hsf := (rdOne_suf m (ws.drop (mm + 1)) d2 q2 hq2).2
              rw [← tail_drop1] at hsf
              have HQ2 := Lib.hid hq2
              have HCI := Lib.hid (IH.out wa a c (mm + 1) (deep - 1) L0 (ownsRow_below HROW.out HNA.out.mv) (by rw [← tail_drop1]; omega) (by rw [← tail_drop1]; omega) (by omega) (by omega))
              rw [hq2] at HCI
              clear hq2
              go_upto_region 41 with (first | (go_at_call 142; refine HA2.out.mono ?_; rintro e wq ⟨rfl, hw⟩; subst hw) | (go_at_call 132; refine HCI.out.mono ?_; rintro e wn ⟨hbn, ky, ny, oy, ey, ay, py, cy, mq, rfl, hdc, hdr, hml, hov⟩; have HBn := Lib.hid hbn; have HDCn := Lib.hid hdc; have HDRn := Lib.hid hdr; have HOVn := Lib.hid hov; have hmq0 : ¬ (mq : Int) < 0 := (by omega); clear hbn hdc hdr hov))
              obtain ⟨wm, em⟩ : ∃ wm, wn.alloc (.cells #[.int .i64 ky, .string ny, .int .i64 oy, .string ey, .slice ay py cy] 73) = wm := ⟨_, rfl⟩
              have HBm : Hid (Below wn.heap.size wn wm ∧ BoxN wm wn.heap.size [.int .i64 ky, .string ny, .int .i64 oy, .string ey, .slice ay py cy] 73) := by
                rw [← em]
                exact ⟨below1 _ _, boxN_alloc _ _ _⟩
              try rw [em]
              have HNm := Lib.hid ((HNA.out.below HBn.out).below HBm.out.1)
              obtain ⟨wp, ep⟩ : ∃ wp, wm.alloc (.cells #[.int .i64 ky, .string ny, .int .i64 oy, .string ey, .slice ay py cy] 73) = wp := ⟨_, rfl⟩
              have HBp : Hid (Below wm.heap.size wm wp ∧ BoxN wp wm.heap.size [.int .i64 ky, .string ny, .int .i64 oy, .string ey, .slice ay py cy] 73) := by
                rw [← ep]
                exact ⟨below1 _ _, boxN_alloc _ _ _⟩
              have HNp := Lib.hid (HNm.out.below HBp.out.1)
              obtain ⟨x0, x1, x2, x3, x4, _⟩ := box5 HBm.out.2
              have v4 := HNm.out.dbox.cell (j := 4) rfl
              have hLp : L ≤ wp.heap.size := by
                have h1 := HNp.out.lD
                have h2 := HNp.out.dbox.lt
                omega
              go_upto_region 42 with (at_builtin; refine wpList_append_lies _ rfl (.tmp 144) (.tmp 146) 33 rfl L 73 i73 _ 5 72 Tryz.underlying33 hi73 hz730 hz731 hz732 rfl (by decide) (.slice va l.length vc) l.length xs rfl HNp.out.row.row ⟨wm.heap.size, 0, none⟩ 1 1 [.int .i64 ky, .string ny, .int .i64 oy, .string ey, .slice ay py cy] rfl rfl (World.news_of_block (cs := #[.int .i64 ky, .string ny, .int .i64 oy, .string ey, .slice ay py cy]) (t := 73) (fr := (0, 0)) HBp.out.2) (by intro u hu; simp only [List.mem_cons, List.not_mem_nil, or_false] at hu; rcases hu with rfl | rfl | rfl | rfl | rfl <;> rfl) (by omega) (by unfold maxLen; omega) (by omega) hLp wp.heap.size rfl ?_; intro g9 c9 wq hown9 hgrow9 hat9 hlt9; have y4 := (HNp.out.dbox.to (hgrow9.block D HNp.out.dbox.lt (fun e => HNp.out.row.ne e.symm))).cell (j := 4) rfl; have f4 : wq.frozen? ⟨D, 4, none⟩ = false := frozen_of (HNp.out.dbox.to (hgrow9.block D HNp.out.dbox.lt (fun e => HNp.out.row.ne e.symm))))
              obtain ⟨wz, ez⟩ : ∃ wz, wq.setCell ⟨D, 4, none⟩ (.slice (some ⟨g9, 0, none⟩) (l.length + 1) c9) = wz := ⟨_, rfl⟩
              have HNz : Hid (NodeR w wz D L kd (.slice (some ⟨g9, 0, none⟩) (l.length + 1) c9) (l ++ [d2]) (xs ++ [.int .i64 ky, .string ny, .int .i64 oy, .string ey, .slice ay py cy])) := Lib.hid (by
                rw [← ez]
                have hbb : Below wa.heap.size wa wp := below_tr (below_tr HBn.out HBm.out.1) HBp.out.1
                exact HNA.out.more ((HDCn.out.new HBm.out.1).new HBp.out.1) hbb hown9 hgrow9 hat9)
              rw [ez]
              clear x0 x1 x2 x3 x4 v4 y4 f4 hown9 hgrow9 hat9 hlt9 ez ep em HBp HBm HNp HNm HDCn
              have HREN : Hid (rdEnd k (l ++ [d2]) (ws.drop mq) = RES) := Lib.hid (by
                have h1 := HREL.out
                rw [tail_drop1, HQ2.out] at h1
                rw [HDRn.out]
                exact h1)
              have hle : (l ++ [d2]).length = l.length + 1 := by rw [List.length_append, List.length_singleton]
              obtain ⟨l2, hl2⟩ : ∃ l2, l ++ [d2] = l2 := ⟨_, rfl⟩
              rw [hl2] at hle HREN HNz
              rw [← hle] at HNz ⊢
              have hl2b : l2.length ≤ 1099511627776 := by omega
              clear hl2 hle
              have HAE := Lib.hid (at_c ws a c mq (by omega) wz (ownsRow_below HROW.out HNz.out.mv))
              by_cases h41 : hd (ws.drop mq) = [41]
              · have h4b : ((mkB (hd (ws.drop mq))).toList == [41]) = true := by rw [bs_toList, bs_mkB, h41]; rfl
                have h4c := beqt h4b
                have hlt41 := hd_len (ws := ws) (n := mq) (by rw [h41]; decide)
                have qm := wrap1 (n := mq) (by omega)
                have HRF : Hid (RES = some (nodeT kd l2, ws.drop (mq + 1))) := Lib.hid (by
                  have h1 := HREN.out
                  unfold rdEnd at h1
                  rw [if_pos h41, HKD.out, tail_drop1] at h1
                  exact h1.symm)
                clear h41
                generalize mkB (hd (ws.drop mq)) = ux4 at HAE h4b h4c
                obtain ⟨x0, x1, x2, x3, x4, _⟩ := box5 HNz.out.dbox
                go_upto_region 45 with (go_at_call 142; refine HAE.out.mono ?_; rintro e wt ⟨rfl, hw⟩; subst hw)
                have HBXr := Lib.hid (HNz.out.obox)
                have HBLr := Lib.hid (HNz.out.mv)
                obtain ⟨z0, z1, z2, z3, z4, g0, g1, g2, g3, g4⟩ := box5 HBXr.out
                obtain ⟨wE, eE⟩ : ∃ wE, (((((wz.setCell ⟨w.heap.size, 0, none⟩ (.int .i64 (kd : Int))).setCell ⟨w.heap.size, 1, none⟩ (.string ⟨#[]⟩)).setCell ⟨w.heap.size, 2, none⟩ (.int .i64 0)).setCell ⟨w.heap.size, 3, none⟩ (.string ⟨#[]⟩)).setCell ⟨w.heap.size, 4, none⟩ (.slice (some ⟨g9, 0, none⟩) l2.length c9)) = wE := ⟨_, rfl⟩
                have HE : Hid (BoxN wE w.heap.size [.int .i64 (kd : Int), .string ⟨#[]⟩, .int .i64 0, .string ⟨#[]⟩, .slice (some ⟨g9, 0, none⟩) l2.length c9] 73 ∧ Below w.heap.size w wE ∧ ∀ b, b ≠ w.heap.size → wE.heap[b]? = wz.heap[b]?) := Lib.hid (by
                  rw [← eE]
                  exact ⟨fill5 HBXr.out _ _ _ _ _, HBLr.out.trans (fill5_below (Nat.le_refl _) _ _ _ _ _), fun b hb => fill5_other hb _ _ _ _ _⟩)
                obtain ⟨y0, y1, y2, y3, y4, _⟩ := box5 HE.out.1
                have HF : Hid (POST (.returned (.tuple #[.agg #[.int .i64 (kd : Int), .string ⟨#[]⟩, .int .i64 0, .string ⟨#[]⟩, .slice (some ⟨g9, 0, none⟩) l2.length c9], .int .i64 ((mq + 1 : Nat) : Int)])) wE) := Lib.hid (by
                  have q2 := HNz.out.lL
                  have q3 := HNz.out.lD
                  have hsame : ∀ b, L ≤ b → wE.heap[b]? = wz.heap[b]? := fun b hb => HE.out.2.2 b (by omega)
                  rw [← HPO.out, HRF.out]
                  refine ⟨HE.out.2.1, _, _, _, _, _, _, _, mq + 1, rfl, ?_, rfl, by omega, fun h => absurd h (by omega)⟩
                  refine depC_iff.2 ⟨_, rfl, kindWf hq6, by decide, by decide, ?_⟩
                  exact (HNz.out.row.deps (by omega)).keep (fun b hb => ⟨by have := hb.1.1; omega, hb.1.2.keep (hsame b hb.1.1)⟩) (fun b hb hl => hsame b hb.1.1))
                go_wp2_with fail
                refine bodyPost_ret (v := .tuple #[.agg #[.int .i64 (kd : Int), .string ⟨#[]⟩, .int .i64 0, .string ⟨#[]⟩, .slice (some ⟨g9, 0, none⟩) l2.length c9], .int .i64 ((mq + 1 : Nat) : Int)]) (by simp [results, Tryz.results132, go_sem, y0, y1, y2, y3, y4]) rfl ?_
                exact HF.out
              · have h4b : ((mkB (hd (ws.drop mq))).toList == [41]) = false := by rw [bs_toList, bs_mkB]; simpa using h41
                have h4c := bneq h4b
                have HRN : Hid (RES = none) := Lib.hid (by
                  have h1 := HREN.out
                  unfold rdEnd at h1
                  rw [if_neg h41] at h1
                  exact h1.symm)
                clear h41
                generalize mkB (hd (ws.drop mq)) = ux4 at HAE h4b h4c
                go_upto_region 44 with (go_at_call 142; refine HAE.out.mono ?_; rintro e wt ⟨rfl, hw⟩; subst hw)
                have HBXr := Lib.hid (HNz.out.obox)
                have HBLr := Lib.hid (HNz.out.mv)
                obtain ⟨z0, z1, z2, z3, z4, g0, g1, g2, g3, g4⟩ := box5 HBXr.out
                obtain ⟨wE, eE⟩ : ∃ wE, (((((wz.setCell ⟨w.heap.size, 0, none⟩ (.int .i64 0)).setCell ⟨w.heap.size, 1, none⟩ (.string ⟨#[]⟩)).setCell ⟨w.heap.size, 2, none⟩ (.int .i64 0)).setCell ⟨w.heap.size, 3, none⟩ (.string ⟨#[]⟩)).setCell ⟨w.heap.size, 4, none⟩ (.slice none 0 0)) = wE := ⟨_, rfl⟩
                have HE : Hid (BoxN wE w.heap.size [.int .i64 0, .string ⟨#[]⟩, .int .i64 0, .string ⟨#[]⟩, .slice none 0 0] 73 ∧ Below w.heap.size w wE ∧ ∀ b, b ≠ w.heap.size → wE.heap[b]? = wz.heap[b]?) := Lib.hid (by
                  rw [← eE]
                  exact ⟨fill5 HBXr.out _ _ _ _ _, HBLr.out.trans (fill5_below (Nat.le_refl _) _ _ _ _ _), fun b hb => fill5_other hb _ _ _ _ _⟩)
                obtain ⟨y0, y1, y2, y3, y4, _⟩ := box5 HE.out.1
                have HF : Hid (POST (.returned (.tuple #[.agg #[.int .i64 0, .string ⟨#[]⟩, .int .i64 0, .string ⟨#[]⟩, .slice none 0 0], .int .i64 (-1)])) wE) := Lib.hid (HNO.out HRN.out _ HE.out.2.1)
                go_wp2_with fail
                refine bodyPost_ret (v := .tuple #[.agg #[.int .i64 0, .string ⟨#[]⟩, .int .i64 0, .string ⟨#[]⟩, .slice none 0 0], .int .i64 (-1)]) (by simp [results, Tryz.results132, go_sem, y0, y1, y2, y3, y4]) rfl ?_
                exact HF.out
          · have HREN : Hid (rdEnd k l (ws.drop mm) = RES) := Lib.hid (by
              have h1 := HRE.out
              unfold rdElse at h1
              rw [if_neg hel] at h1
              exact h1)
            have hl2b : l.length ≤ 1099511627776 := by omega
            have hkk : ((ux1.toList == [105, 102]) = false) ∨ ((ux1.toList == [105, 102]) = true ∧ (ux2.toList == [101, 108, 115, 101]) = false) := by
              by_cases h1 : k = ifW
              · refine .inr ⟨by rw [eqL [105, 102] HU1.out]; exact decide_eq_true h1, ?_⟩
                rw [eqL [101, 108, 115, 101] hu2]
                exact decide_eq_false (fun e => hel ⟨h1, e⟩)
              · exact .inl (by rw [eqL [105, 102] HU1.out]; exact decide_eq_false h1)
            clear hel hu2 HRE
            rcases hkk with hk1 | ⟨hk1, hk2⟩
            all_goals
              go_upto_region 43 with (go_at_call 142; refine HA2.out.mono ?_; rintro e wq ⟨rfl, hw⟩; subst hw)
              have HAE := Lib.hid (at_c ws a c mm (by omega) wa (ownsRow_below HROW.out HNA.out.mv))
              by_cases h41 : hd (ws.drop mm) = [41]
              · have h4b : ((mkB (hd (ws.drop mm))).toList == [41]) = true := by rw [bs_toList, bs_mkB, h41]; rfl
                have h4c := beqt h4b
                have hlt41 := hd_len (ws := ws) (n := mm) (by rw [h41]; decide)
                have qm := wrap1 (n := mm) (by omega)
                have HRF : Hid (RES = some (nodeT kd l, ws.drop (mm + 1))) := Lib.hid (by
                  have h1 := HREN.out
                  unfold rdEnd at h1
                  rw [if_pos h41, HKD.out, tail_drop1] at h1
                  exact h1.symm)
                clear h41
                generalize mkB (hd (ws.drop mm)) = ux4 at HAE h4b h4c
                obtain ⟨x0, x1, x2, x3, x4, _⟩ := box5 HNA.out.dbox
                go_upto_region 45 with (go_at_call 142; refine HAE.out.mono ?_; rintro e wt ⟨rfl, hw⟩; subst hw)
                have HBXr := Lib.hid (HNA.out.obox)
                have HBLr := Lib.hid (HNA.out.mv)
                obtain ⟨z0, z1, z2, z3, z4, g0, g1, g2, g3, g4⟩ := box5 HBXr.out
                obtain ⟨wE, eE⟩ : ∃ wE, (((((wa.setCell ⟨w.heap.size, 0, none⟩ (.int .i64 (kd : Int))).setCell ⟨w.heap.size, 1, none⟩ (.string ⟨#[]⟩)).setCell ⟨w.heap.size, 2, none⟩ (.int .i64 0)).setCell ⟨w.heap.size, 3, none⟩ (.string ⟨#[]⟩)).setCell ⟨w.heap.size, 4, none⟩ (.slice va l.length vc)) = wE := ⟨_, rfl⟩
                have HE : Hid (BoxN wE w.heap.size [.int .i64 (kd : Int), .string ⟨#[]⟩, .int .i64 0, .string ⟨#[]⟩, .slice va l.length vc] 73 ∧ Below w.heap.size w wE ∧ ∀ b, b ≠ w.heap.size → wE.heap[b]? = wa.heap[b]?) := Lib.hid (by
                  rw [← eE]
                  exact ⟨fill5 HBXr.out _ _ _ _ _, HBLr.out.trans (fill5_below (Nat.le_refl _) _ _ _ _ _), fun b hb => fill5_other hb _ _ _ _ _⟩)
                obtain ⟨y0, y1, y2, y3, y4, _⟩ := box5 HE.out.1
                have HF : Hid (POST (.returned (.tuple #[.agg #[.int .i64 (kd : Int), .string ⟨#[]⟩, .int .i64 0, .string ⟨#[]⟩, .slice va l.length vc], .int .i64 ((mm + 1 : Nat) : Int)])) wE) := Lib.hid (by
                  have q2 := HNA.out.lL
                  have q3 := HNA.out.lD
                  have hsame : ∀ b, L ≤ b → wE.heap[b]? = wa.heap[b]? := fun b hb => HE.out.2.2 b (by omega)
                  rw [← HPO.out, HRF.out]
                  refine ⟨HE.out.2.1, _, _, _, _, _, _, _, mm + 1, rfl, ?_, rfl, by omega, fun h => absurd h (by omega)⟩
                  refine depC_iff.2 ⟨_, rfl, kindWf hq6, by decide, by decide, ?_⟩
                  exact (HNA.out.row.deps (by omega)).keep (fun b hb => ⟨by have := hb.1.1; omega, hb.1.2.keep (hsame b hb.1.1)⟩) (fun b hb hl => hsame b hb.1.1))
                go_wp2_with fail
                refine bodyPost_ret (v := .tuple #[.agg #[.int .i64 (kd : Int), .string ⟨#[]⟩, .int .i64 0, .string ⟨#[]⟩, .slice va l.length vc], .int .i64 ((mm + 1 : Nat) : Int)]) (by simp [results, Tryz.results132, go_sem, y0, y1, y2, y3, y4]) rfl ?_
                exact HF.out
              · have h4b : ((mkB (hd (ws.drop mm))).toList == [41]) = false := by rw [bs_toList, bs_mkB]; simpa using h41
                have h4c := bneq h4b
                have HRN : Hid (RES = none) := Lib.hid (by
                  have h1 := HREN.out
                  unfold rdEnd at h1
                  rw [if_neg h41] at h1
                  exact h1.symm)
                clear h41
                generalize mkB (hd (ws.drop mm)) = ux4 at HAE h4b h4c
                go_upto_region 44 with (go_at_call 142; refine HAE.out.mono ?_; rintro e wt ⟨rfl, hw⟩; subst hw)
                have HBXr := Lib.hid (HNA.out.obox)
                have HBLr := Lib.hid (HNA.out.mv)
                obtain ⟨z0, z1, z2, z3, z4, g0, g1, g2, g3, g4⟩ := box5 HBXr.out
                obtain ⟨wE, eE⟩ : ∃ wE, (((((wa.setCell ⟨w.heap.size, 0, none⟩ (.int .i64 0)).setCell ⟨w.heap.size, 1, none⟩ (.string ⟨#[]⟩)).setCell ⟨w.heap.size, 2, none⟩ (.int .i64 0)).setCell ⟨w.heap.size, 3, none⟩ (.string ⟨#[]⟩)).setCell ⟨w.heap.size, 4, none⟩ (.slice none 0 0)) = wE := ⟨_, rfl⟩
                have HE : Hid (BoxN wE w.heap.size [.int .i64 0, .string ⟨#[]⟩, .int .i64 0, .string ⟨#[]⟩, .slice none 0 0] 73 ∧ Below w.heap.size w wE ∧ ∀ b, b ≠ w.heap.size → wE.heap[b]? = wa.heap[b]?) := Lib.hid (by
                  rw [← eE]
                  exact ⟨fill5 HBXr.out _ _ _ _ _, HBLr.out.trans (fill5_below (Nat.le_refl _) _ _ _ _ _), fun b hb => fill5_other hb _ _ _ _ _⟩)
                obtain ⟨y0, y1, y2, y3, y4, _⟩ := box5 HE.out.1
                have HF : Hid (POST (.returned (.tuple #[.agg #[.int .i64 0, .string ⟨#[]⟩, .int .i64 0, .string ⟨#[]⟩, .slice none 0 0], .int .i64 (-1)])) wE) := Lib.hid (HNO.out HRN.out _ HE.out.2.1)
                go_wp2_with fail
                refine bodyPost_ret (v := .tuple #[.agg #[.int .i64 0, .string ⟨#[]⟩, .int .i64 0, .string ⟨#[]⟩, .slice none 0 0], .int .i64 (-1)]) (by simp [results, Tryz.results132, go_sem, y0, y1, y2, y3, y4]) rfl ?_
                exact HF.out
end Go.Proofs.YtjcefgjgjhdbpaaGreatDoor
namespace Go.Proofs.YtjcefgjgjhdbpaaGreatDoor
set_option linter.unusedVariables false
set_option linter.unusedSimpArgs false
open Go.RowKit Go.Maps

theorem read_c (ws : List Wd) (hwl : ws.length ≤ 1099511627776) (hx : ∀ x ∈ ws, x.length ≤ 1099511627776) : ∀ (m : Nat) (w : World) (a : Option Addr) (c n deep L : Nat), w.ownsRow L 9 1 (.slice a ws.length c) ws.length (strsL ws) → (ws.drop n).length < m → (ws.drop n).length ≤ deep → n ≤ ws.length + 3 → deep ≤ 1099511627776 →
    Calls Tryz.prog 132 #[.slice a ws.length c, .int .i64 (n : Int), .int .i64 (deep : Int)] w (RdPst w ws (rdOne m (ws.drop n)))
  | 0, _, _, _, _, _, _, _, h, _, _, _ => absurd h (Nat.not_lt_zero _)
  | m + 1, w, a, c, n, deep, L, hrow, hlm, hdp, hn, hdb => by
    by_cases h40 : hd (ws.drop n) = [40]
    · exact read_node ws (fun w a c n deep L => read_c ws hwl hx m w a c n deep L) w a c n deep L hrow hlm hdp hn hdb hwl h40
    · have h1 := read_leaf ws a c n deep L (by omega) hx w hrow h40
      rw [rdOne, if_pos h40]
      exact h1
/-- What the document's reader of a dependency's text answers: the dependency; or that there is none. -/
def RParseP (w : World) (R : DepT × Int) (e : Ending) (w' : World) : Prop :=
  Below w.heap.size w w' ∧ ∃ k nm op ev a n c q, e = .returned (.tuple #[.agg #[.int .i64 k, .string nm, .int .i64 op, .string ev, .slice a n c], .int .i64 q]) ∧ (R.2 = 0 → q = 0 ∧ DepC w' (New w.heap.size w') R.1 [.int .i64 k, .string nm, .int .i64 op, .string ev, .slice a n c]) ∧ (R.2 ≠ 0 → q ≠ 0)
theorem words_small (s : ByteArray) : ∀ x ∈ wordsB (bs s), x.length ≤ s.size := by
  rw [← bs_length]
  unfold wordsB
  generalize (bs s).length + 1 = n
  generalize bs s = l
  induction n generalizing l with
  | zero => intro x h; cases h
  | succ n ih =>
    intro x h
    unfold wordsF at h
    have h1 := trimB_len l
    split at h
    · cases h
    · rename_i c t e
      rw [e] at h1
      rcases List.mem_cons.1 h with rfl | h
      · rw [List.length_take]
        omega
      · have h2 := ih _ x h
        rw [List.length_drop] at h2
        omega
set_option maxHeartbeats 4000000 in
set_option maxRecDepth 100000 in
/-- The document's Parse of a dependency. -/
theorem rdparse_c (s : ByteArray) (hs : s.size ≤ 1099511627776) (w : World) : Calls Tryz.prog 93 #[.string s] w (RParseP w (depParse s)) := by
  have hwl : (wordsB (bs s)).length ≤ 1099511627776 := by
    have := wordsB_len (bs s).length (bs s) (Nat.le_refl _)
    rw [bs_length] at this
    omega
  have hx : ∀ x ∈ wordsB (bs s), x.length ≤ 1099511627776 := fun x h => Nat.le_trans (words_small s x h) hs
  obtain ⟨POST, hPOST⟩ : ∃ P, RParseP w (depParse s) = P := ⟨_, rfl⟩
  rw [hPOST]
  unfold depParse at hPOST
  have HW := Lib.hid (fun W => rwords_c s hs W)
  obtain ⟨ws, hws⟩ : ∃ x, wordsB (bs s) = x := ⟨_, rfl⟩
  rw [hws] at hwl hx HW hPOST
  have HRC := Lib.hid (fun (W : World) (a : Option Addr) (c : Nat) (L : Nat) hr => read_c ws hwl hx (ws.length + 1) W a c 0 ws.length L hr (by simp) (by simp) (by omega) hwl)
  have hd0 : ws.drop 0 = ws := rfl
  rw [hd0] at HRC
  obtain ⟨RES, hRES⟩ : ∃ r, rdOne (ws.length + 1) ws = r := ⟨_, rfl⟩
  rw [hRES] at hPOST HRC
  have HPO := Lib.hid hPOST
  clear hPOST hRES hws hx hs hd0
  obtain ⟨w0, e0⟩ : ∃ w0, w.alloc (.cells #[.int .i64 0, .string ⟨#[]⟩, .int .i64 0, .string ⟨#[]⟩, .slice none 0 0] 73) = w0 := ⟨_, rfl⟩
  have HB0 : Hid (Below w.heap.size w w0 ∧ BoxN w0 w.heap.size [.int .i64 0, .string ⟨#[]⟩, .int .i64 0, .string ⟨#[]⟩, .slice none 0 0] 73 ∧ w0.heap.size = w.heap.size + 1) := by
    rw [← e0]
    exact ⟨below1 _ _, boxN_alloc _ _ _, by simp⟩
  go_enter Tryz.func93, Tryz.ntmps93
  go_upto_region 2 with (go_at_call 131; refine (HW.out w0).mono ?_; rintro e w1 ⟨wa, wc, rfl, hb1, hr1⟩; have HB1 := Lib.hid hb1; have HR1 := Lib.hid hr1; clear hb1 hr1)
  have HC := Lib.hid (HRC.out w1 wa wc _ HR1.out)
  clear HW
  cases RES with
  | none =>
    go_upto_region 3 with (go_at_call 132; refine HC.out.mono ?_; rintro e w2 ⟨hb2, rfl⟩; have HB2 := Lib.hid hb2; clear hb2)
    obtain ⟨w3, e3⟩ : ∃ w3, w2.alloc (.cells #[.int .i64 0, .string ⟨#[]⟩, .int .i64 0, .string ⟨#[]⟩, .slice none 0 0] 73) = w3 := ⟨_, rfl⟩
    have HB3 : Hid (Below w.heap.size w w3 ∧ BoxN w3 w.heap.size [.int .i64 0, .string ⟨#[]⟩, .int .i64 0, .string ⟨#[]⟩, .slice none 0 0] 73) := Lib.hid (by
      have h1 : Below w2.heap.size w2 w3 := by rw [← e3]; exact below1 _ _
      exact ⟨below_tr (below_tr (below_tr HB0.out.1 HB1.out) HB2.out) h1, ((HB0.out.2.1.below HB1.out).below HB2.out).below h1⟩)
    try rw [e3]
    have g1 : (((-1 : Int)) == (ws.length : Int)) = false := beq_eq_false_iff_ne.2 (by omega)
    have g2 : (((-1 : Int)) != (ws.length : Int)) = true := by rw [bne, g1]; rfl
    have g3 : ((ws.length : Int) == (-1 : Int)) = false := beq_eq_false_iff_ne.2 (by omega)
    have HBXr := Lib.hid (HB3.out.2)
    have HBLr := Lib.hid (HB3.out.1)
    obtain ⟨z0, z1, z2, z3, z4, g0, g1, g2, g3, g4⟩ := box5 HBXr.out
    obtain ⟨wE, eE⟩ : ∃ wE, (((((w3.setCell ⟨w.heap.size, 0, none⟩ (.int .i64 0)).setCell ⟨w.heap.size, 1, none⟩ (.string ⟨#[]⟩)).setCell ⟨w.heap.size, 2, none⟩ (.int .i64 0)).setCell ⟨w.heap.size, 3, none⟩ (.string ⟨#[]⟩)).setCell ⟨w.heap.size, 4, none⟩ (.slice none 0 0)) = wE := ⟨_, rfl⟩
    have HE : Hid (BoxN wE w.heap.size [.int .i64 0, .string ⟨#[]⟩, .int .i64 0, .string ⟨#[]⟩, .slice none 0 0] 73 ∧ Below w.heap.size w wE ∧ ∀ b, b ≠ w.heap.size → wE.heap[b]? = w3.heap[b]?) := Lib.hid (by
      rw [← eE]
      exact ⟨fill5 HBXr.out _ _ _ _ _, HBLr.out.trans (fill5_below (Nat.le_refl _) _ _ _ _ _), fun b hb => fill5_other hb _ _ _ _ _⟩)
    obtain ⟨y0, y1, y2, y3, y4, _⟩ := box5 HE.out.1
    have HF : Hid (POST (.returned (.tuple #[.agg #[.int .i64 0, .string ⟨#[]⟩, .int .i64 0, .string ⟨#[]⟩, .slice none 0 0], .int .i64 50])) wE) := Lib.hid (by
      rw [← HPO.out]
      exact ⟨HE.out.2.1, _, _, _, _, _, _, _, _, rfl, fun h => absurd h (by decide), fun _ => by decide⟩)
    go_wp2_with fail
    refine bodyPost_ret (v := .tuple #[.agg #[.int .i64 0, .string ⟨#[]⟩, .int .i64 0, .string ⟨#[]⟩, .slice none 0 0], .int .i64 50]) (by simp [results, Tryz.results93, go_sem, y0, y1, y2, y3, y4]) rfl ?_
    exact HF.out
  | some y =>
    obtain ⟨d, r⟩ := y
    go_upto_region 3 with (go_at_call 132; refine HC.out.mono ?_; rintro e w2 ⟨hb2, k', nm', op', ev', a', n', c', m1, rfl, hdc, hdr, hml, hov⟩; have HB2 := Lib.hid hb2; have HDC := Lib.hid hdc; have HDR := Lib.hid hdr; have HOV := Lib.hid hov; clear hb2 hdc hdr hov)
    obtain ⟨w3, e3⟩ : ∃ w3, w2.alloc (.cells #[.int .i64 k', .string nm', .int .i64 op', .string ev', .slice a' n' c'] 73) = w3 := ⟨_, rfl⟩
    have HB3 : Hid (Below w.heap.size w w3 ∧ BoxN w3 w.heap.size [.int .i64 0, .string ⟨#[]⟩, .int .i64 0, .string ⟨#[]⟩, .slice none 0 0] 73 ∧ Below w2.heap.size w2 w3 ∧ BoxN w3 w2.heap.size [.int .i64 k', .string nm', .int .i64 op', .string ev', .slice a' n' c'] 73) := Lib.hid (by
      have h1 : Below w2.heap.size w2 w3 := by rw [← e3]; exact below1 _ _
      exact ⟨below_tr (below_tr (below_tr HB0.out.1 HB1.out) HB2.out) h1, ((HB0.out.2.1.below HB1.out).below HB2.out).below h1, h1, by rw [← e3]; exact boxN_alloc _ _ _⟩)
    try rw [e3]
    obtain ⟨x0, x1, x2, x3, x4, _⟩ := box5 HB3.out.2.2.2
    by_cases hm : m1 = ws.length
    · have g1 : ((m1 : Int) == (ws.length : Int)) = true := by rw [hm]; simp
      have g2 : ((m1 : Int) != (ws.length : Int)) = false := by rw [bne, g1]; rfl
      have hr0 : r = [] := by
        rw [← HDR.out, hm]
        exact List.drop_length
      have HCK := Lib.hid (rdepCheck_c d [.int .i64 k', .string nm', .int .i64 op', .string ev', .slice a' n' c'] _ w3 (HDC.out.new HB3.out.2.2.1))
      by_cases hck : depCheck d = 0
      · have HF0 : Hid (∀ (W : World), Below w3.heap.size w3 W → ∀ W2 : World, (∀ b, b ≠ w.heap.size → W2.heap[b]? = W.heap[b]?) → Below w.heap.size w W2 → POST (.returned (.tuple #[.agg #[.int .i64 k', .string nm', .int .i64 op', .string ev', .slice a' n' c'], .int .i64 0])) W2) := Lib.hid fun W hW W2 hk hb2 => by
          have h1 := HPO.out
          rw [← h1]
          simp only [hr0, ne_eq, not_true_eq_false, ↓reduceIte, hck]
          refine ⟨hb2, _, _, _, _, _, _, _, _, rfl, fun _ => ⟨rfl, ?_⟩, fun h => absurd rfl h⟩
          have q1 := HB0.out.2.2
          have q2 := HB1.out.size
          have h2 := ((HDC.out.new HB3.out.2.2.1).new hW)
          refine h2.keep (fun b hb => ?_) (fun b hb _ => hk b (by have := hb.1; omega)) (fun _ _ => trivial)
          have h3 := hb.1
          exact ⟨by omega, hb.2.keep (hk b (by omega))⟩
        rw [hck] at HCK
        go_upto_region 8 with (go_at_call 117; refine HCK.out.mono ?_; rintro e w4 ⟨rfl, hb4⟩; have HB4 := Lib.hid hb4; clear hb4)
        have HX4 := Lib.hid (HB3.out.2.2.2.below HB4.out)
        clear x0 x1 x2 x3 x4
        obtain ⟨x0, x1, x2, x3, x4, _⟩ := box5 HX4.out
        have HBXr := Lib.hid (HB3.out.2.1.below HB4.out)
        have HBLr := Lib.hid (below_tr HB3.out.1 HB4.out)
        obtain ⟨z0, z1, z2, z3, z4, g0, g1, g2, g3, g4⟩ := box5 HBXr.out
        obtain ⟨wE, eE⟩ : ∃ wE, (((((w4.setCell ⟨w.heap.size, 0, none⟩ (.int .i64 k')).setCell ⟨w.heap.size, 1, none⟩ (.string nm')).setCell ⟨w.heap.size, 2, none⟩ (.int .i64 op')).setCell ⟨w.heap.size, 3, none⟩ (.string ev')).setCell ⟨w.heap.size, 4, none⟩ (.slice a' n' c')) = wE := ⟨_, rfl⟩
        have HE : Hid (BoxN wE w.heap.size [.int .i64 k', .string nm', .int .i64 op', .string ev', .slice a' n' c'] 73 ∧ Below w.heap.size w wE ∧ ∀ b, b ≠ w.heap.size → wE.heap[b]? = w4.heap[b]?) := Lib.hid (by
          rw [← eE]
          exact ⟨fill5 HBXr.out _ _ _ _ _, HBLr.out.trans (fill5_below (Nat.le_refl _) _ _ _ _ _), fun b hb => fill5_other hb _ _ _ _ _⟩)
        obtain ⟨y0, y1, y2, y3, y4, _⟩ := box5 HE.out.1
        have HF : Hid (POST (.returned (.tuple #[.agg #[.int .i64 k', .string nm', .int .i64 op', .string ev', .slice a' n' c'], .int .i64 0])) wE) := Lib.hid (HF0.out _ HB4.out _ HE.out.2.2 HE.out.2.1)
        go_wp2_with fail
        refine bodyPost_ret (v := .tuple #[.agg #[.int .i64 k', .string nm', .int .i64 op', .string ev', .slice a' n' c'], .int .i64 0]) (by simp [results, Tryz.results93, go_sem, y0, y1, y2, y3, y4]) rfl ?_
        exact HF.out
      · have q1 : (depCheck d == 0) = false := by simpa using hck
        have q2 : (depCheck d != 0) = true := by rw [bne, q1]; rfl
        have HF0 : Hid (∀ W2 : World, Below w.heap.size w W2 → POST (.returned (.tuple #[.agg #[.int .i64 0, .string ⟨#[]⟩, .int .i64 0, .string ⟨#[]⟩, .slice none 0 0], .int .i64 (depCheck d)])) W2) := Lib.hid fun W2 hb2 => by
          have h1 := HPO.out
          rw [← h1]
          simp only [hr0, ne_eq, not_true_eq_false, ↓reduceIte, hck, not_false_eq_true]
          exact ⟨hb2, _, _, _, _, _, _, _, _, rfl, fun h => absurd h hck, fun h => h⟩
        generalize depCheck d = Q at *
        go_upto_region 7 with (go_at_call 117; refine HCK.out.mono ?_; rintro e w4 ⟨rfl, hb4⟩; have HB4 := Lib.hid hb4; clear hb4)
        have HBXr := Lib.hid (HB3.out.2.1.below HB4.out)
        have HBLr := Lib.hid (below_tr HB3.out.1 HB4.out)
        obtain ⟨z0, z1, z2, z3, z4, g0, g1, g2, g3, g4⟩ := box5 HBXr.out
        obtain ⟨wE, eE⟩ : ∃ wE, (((((w4.setCell ⟨w.heap.size, 0, none⟩ (.int .i64 0)).setCell ⟨w.heap.size, 1, none⟩ (.string ⟨#[]⟩)).setCell ⟨w.heap.size, 2, none⟩ (.int .i64 0)).setCell ⟨w.heap.size, 3, none⟩ (.string ⟨#[]⟩)).setCell ⟨w.heap.size, 4, none⟩ (.slice none 0 0)) = wE := ⟨_, rfl⟩
        have HE : Hid (BoxN wE w.heap.size [.int .i64 0, .string ⟨#[]⟩, .int .i64 0, .string ⟨#[]⟩, .slice none 0 0] 73 ∧ Below w.heap.size w wE ∧ ∀ b, b ≠ w.heap.size → wE.heap[b]? = w4.heap[b]?) := Lib.hid (by
          rw [← eE]
          exact ⟨fill5 HBXr.out _ _ _ _ _, HBLr.out.trans (fill5_below (Nat.le_refl _) _ _ _ _ _), fun b hb => fill5_other hb _ _ _ _ _⟩)
        obtain ⟨y0, y1, y2, y3, y4, _⟩ := box5 HE.out.1
        have HF : Hid (POST (.returned (.tuple #[.agg #[.int .i64 0, .string ⟨#[]⟩, .int .i64 0, .string ⟨#[]⟩, .slice none 0 0], .int .i64 Q])) wE) := Lib.hid (HF0.out _ HE.out.2.1)
        go_wp2_with fail
        refine bodyPost_ret (v := .tuple #[.agg #[.int .i64 0, .string ⟨#[]⟩, .int .i64 0, .string ⟨#[]⟩, .slice none 0 0], .int .i64 Q]) (by simp [results, Tryz.results93, go_sem, y0, y1, y2, y3, y4]) rfl ?_
        exact HF.out
    · have g1 : ((m1 : Int) == (ws.length : Int)) = false := beq_eq_false_iff_ne.2 (by omega)
      have g2 : ((m1 : Int) != (ws.length : Int)) = true := by rw [bne, g1]; rfl
      have HBXr := Lib.hid (HB3.out.2.1)
      have HBLr := Lib.hid (HB3.out.1)
      obtain ⟨z0, z1, z2, z3, z4, g0, g1, g2, g3, g4⟩ := box5 HBXr.out
      obtain ⟨wE, eE⟩ : ∃ wE, (((((w3.setCell ⟨w.heap.size, 0, none⟩ (.int .i64 0)).setCell ⟨w.heap.size, 1, none⟩ (.string ⟨#[]⟩)).setCell ⟨w.heap.size, 2, none⟩ (.int .i64 0)).setCell ⟨w.heap.size, 3, none⟩ (.string ⟨#[]⟩)).setCell ⟨w.heap.size, 4, none⟩ (.slice none 0 0)) = wE := ⟨_, rfl⟩
      have HE : Hid (BoxN wE w.heap.size [.int .i64 0, .string ⟨#[]⟩, .int .i64 0, .string ⟨#[]⟩, .slice none 0 0] 73 ∧ Below w.heap.size w wE ∧ ∀ b, b ≠ w.heap.size → wE.heap[b]? = w3.heap[b]?) := Lib.hid (by
        rw [← eE]
        exact ⟨fill5 HBXr.out _ _ _ _ _, HBLr.out.trans (fill5_below (Nat.le_refl _) _ _ _ _ _), fun b hb => fill5_other hb _ _ _ _ _⟩)
      obtain ⟨y0, y1, y2, y3, y4, _⟩ := box5 HE.out.1
      have HF : Hid (POST (.returned (.tuple #[.agg #[.int .i64 0, .string ⟨#[]⟩, .int .i64 0, .string ⟨#[]⟩, .slice none 0 0], .int .i64 50])) wE) := Lib.hid (by
        have h1 := HPO.out
        rw [← h1]
        by_cases hr : r = []
        · have hov := HOV.out (by
            rcases Nat.lt_or_ge ws.length m1 with h2 | h2
            · exact h2
            · have h3 : (ws.drop m1).length = 0 := by rw [HDR.out, hr]; rfl
              rw [List.length_drop] at h3
              omega)
          simp only [hr, ne_eq, not_true_eq_false, ↓reduceIte, hov, not_false_eq_true]
          exact ⟨HE.out.2.1, _, _, _, _, _, _, _, _, rfl, fun h => absurd h hov, fun _ => by decide⟩
        · simp only [hr, ne_eq, not_false_eq_true, ↓reduceIte]
          exact ⟨HE.out.2.1, _, _, _, _, _, _, _, _, rfl, fun h => absurd h (by decide), fun _ => by decide⟩)
      go_wp2_with fail
      refine bodyPost_ret (v := .tuple #[.agg #[.int .i64 0, .string ⟨#[]⟩, .int .i64 0, .string ⟨#[]⟩, .slice none 0 0], .int .i64 50]) (by simp [results, Tryz.results93, go_sem, y0, y1, y2, y3, y4]) rfl ?_
      exact HF.out
end Go.Proofs.YtjcefgjgjhdbpaaGreatDoor
