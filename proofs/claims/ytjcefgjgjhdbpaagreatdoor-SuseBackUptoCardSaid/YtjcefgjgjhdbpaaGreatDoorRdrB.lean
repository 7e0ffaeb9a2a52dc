/-
  The package that is read is whole. Helper text; the conditions are those typed.
-/
import Derived.Test.YtjcefgjgjhdbpaaGreatDoorListF
import Derived.Deep.CutBlock
import Derived.Deep.CutRange
namespace Go.Proofs.YtjcefgjgjhdbpaaGreatDoor
set_option linter.unusedVariables false
set_option linter.unusedSimpArgs false
open Go.RowKit Go.Maps

theorem info39 : (Tryz.prog.info? 36).map (fun i => (i.zero, i.size, i.bytes)) = some (some (.agg #[.string ⟨#[]⟩, .string ⟨#[]⟩, .string ⟨#[]⟩, .string ⟨#[]⟩, .slice none 0 0, .slice none 0 0, .slice none 0 0, .slice none 0 0, .slice none 0 0, .slice none 0 0, .slice none 0 0, .slice none 0 0]), 12, 256) := info44
/-- One package more. -/
theorem OutO.more {w wa w9 : World} {L B M : Nat} {K K' : Nat → Prop} {out : List PkgT} {vo : Value} (h : OutO w L B M K out vo) (hBl : B < w.heap.size) (hK : ∀ b, K b → K' b) (hfr : ∀ b, K' b → New L w b) (hkB : ¬ K' B) (hkM : ¬ K' M) (hkv : ∀ b, K' b → vo.ownBlock ≠ some b)
    {pk : PkgT} {v : Fin 7 → Value} {vf : Value} (hpk : PkgV w K' pk v vf) (hb : Below w.heap.size w wa) {xs : List Value} (hrow : w.ownsRow L 36 12 vo out.length xs) (hhas : ∀ j (h : j < out.length), ∃ v vf, PkgV w K out[j] v vf ∧ ∀ r u, (pkgCells out[j].name out[j].evr out[j].arch out[j].vendor v vf)[r]? = some u → xs[j * 12 + r]? = some u)
    {g cap : Nat} (hown : w9.ownsRow L 36 12 (.slice (some ⟨g, 0, none⟩) (out.length + 1) cap) (out.length + 1) (xs ++ pkgCells pk.name pk.evr pk.arch pk.vendor v vf)) (hgrow : wa.grownBy w9 vo.ownBlock) (hat : vo.ownBlock = some g ∨ g = wa.heap.size) :
    OutO w9 L B M K' (out ++ [pk]) (.slice (some ⟨g, 0, none⟩) (out.length + 1) cap) := by
  have hsz := hb.size
  have hxl : xs.length = out.length * 12 := hrow.1
  obtain ⟨F, hm1, hm2⟩ := h.map
  have hMl := hm1.lt
  have hk : ∀ b, b < w.heap.size → vo.ownBlock ≠ some b → w9.heap[b]? = w.heap[b]? := fun b hl hn => (hgrow.block b (Nat.lt_of_lt_of_le hl hsz) (fun e => hn e.symm)).trans (hb.block b hl)
  have hkk : ∀ b, K' b → w9.heap[b]? = w.heap[b]? := fun b hb' => hk b (hfr b hb').2.lt (hkv b hb')
  have hne : ∀ b, b < w.heap.size → vo.ownBlock ≠ some b → g ≠ b := fun b hl hn e => by
    rcases hat with h1 | h1
    · exact hn (by rw [h1, e])
    · omega
  have hgo : ∀ b, (Value.slice (some ⟨g, 0, none⟩) (out.length + 1) cap).ownBlock ≠ some b ↔ g ≠ b := fun b => by
    show some g ≠ some b ↔ g ≠ b
    constructor
    · intro h e; exact h (by rw [e])
    · intro h e; exact h (Option.some.inj e)
  refine ⟨h.lB, h.lM, ⟨F, hm1.block (hk M hMl h.vM), hm2⟩, ⟨_, by rw [List.length_append, List.length_singleton]; exact hown, fun j hj => ?_⟩, fun b hb' => ⟨(hfr b hb').1, (hfr b hb').2.keep (hkk b hb')⟩, h.bm, (hgo B).2 (hne B hBl h.vB), (hgo M).2 (hne M hMl h.vM), hkB, hkM, fun b hb' => (hgo b).2 (hne b (hfr b hb').2.lt (hkv b hb'))⟩
  rw [List.length_append, List.length_singleton] at hj
  by_cases e : j = out.length
  · subst e
    have he : (out ++ [pk])[out.length] = pk := by simp
    rw [he]
    refine ⟨v, vf, hpk.keep (fun _ hb => hb) (fun b hb' _ => hkk b hb'), fun r u hr => ?_⟩
    rw [List.getElem?_append_right (by omega), hxl, show out.length * 12 + r - out.length * 12 = r by omega]
    exact hr
  · have hj' : j < out.length := by omega
    have he : (out ++ [pk])[j] = out[j] := List.getElem_append_left hj'
    rw [he]
    obtain ⟨v2, vf2, h1, h2⟩ := hhas j hj'
    refine ⟨v2, vf2, h1.keep hK (fun b hb' _ => hkk b (hK b hb')), fun r u hr => ?_⟩
    have hr12 : r < 12 := (List.getElem?_eq_some_iff.1 hr).1
    rw [List.getElem?_append_left (by omega)]
    exact h2 r u hr
theorem whole_no (B : Nat) (cs : List Value) (w : World) (h : BoxN w B cs 41) (h13 : cs[13]? = some (.bool false)) : Calls Tryz.prog 13 #[.pointer (some ⟨B, 0, none⟩)] w fun e w' => e = .returned (.int .i64 0) ∧ w' = w := by
  have c13 := h.cell h13
  clear h h13
  go_enter Tryz.func13, Tryz.ntmps13
  go_wp2_with fail
  go_ret
  exact ⟨rfl, rfl⟩
theorem slices12 {w : World} {S : Nat → Prop} {p : PkgT} {v : Fin 7 → Value} {vf : Value} (h : PkgV w S p v vf) : ∃ (a : Fin 7 → Option Addr) (c : Fin 7 → Nat) (af : Option Addr) (cf : Nat), (v = fun i => .slice (a i) (p.n i) (c i)) ∧ vf = .slice af p.files.length cf := by
  obtain ⟨a, c, e⟩ := h.slices
  obtain ⟨af, cf, hf, _⟩ := h.files
  exact ⟨a, c, af, cf, e, hf⟩
set_option maxHeartbeats 4000000 in
set_option maxRecDepth 100000 in
theorem whole_bad (L B M : Nat) (K : Nat → Prop) (out : List PkgT) (p : SP) (vo : Value) (v : Fin 7 → Value) (vf : Value) (w : World) (h : Rdr w L B M K out p true vo v vf) (hn : ∀ i, (p.L i).length ≤ 1000000) (hf : p.files.length ≤ 1000000) (he : pkgCheck p.pkg ≠ 0) :
    Calls Tryz.prog 13 #[.pointer (some ⟨B, 0, none⟩)] w fun e w' => e = .returned (.int .i64 (pkgCheck p.pkg)) ∧ Below w.heap.size w w' := by
  have hpk := h.cur.pkg hn hf
  have hfr := h.cur.fresh h.outs.fresh
  obtain ⟨a, c, af, cf, rfl, rfl⟩ := slices12 hpk
  have HC := Lib.hid (check_c p.pkg a c af _ cf _ w hpk (fun b hb => (hfr b hb).2.lt))
  have hbx := h.box
  have p0 := hbx.cell (j := 1) rfl
  have p1 := hbx.cell (j := 2) rfl
  have p2 := hbx.cell (j := 3) rfl
  have p3 := hbx.cell (j := 4) rfl
  have p4 := hbx.cell (j := 5) rfl
  have p5 := hbx.cell (j := 6) rfl
  have p6 := hbx.cell (j := 7) rfl
  have p7 := hbx.cell (j := 8) rfl
  have p8 := hbx.cell (j := 9) rfl
  have p9 := hbx.cell (j := 10) rfl
  have p10 := hbx.cell (j := 11) rfl
  have p11 := hbx.cell (j := 12) rfl
  have p13 := hbx.cell (j := 13) rfl
  have e1 : (pkgCheck p.pkg == 0) = false := by simpa using he
  have e2 : (pkgCheck p.pkg != 0) = true := by simpa using he
  generalize pkgCheck p.pkg = E at HC e1 e2 ⊢
  clear he hbx hfr hpk h hn hf
  go_enter Tryz.func13, Tryz.ntmps13
  go_wp2_with fail
  refine HC.out.mono ?_
  rintro e w' ⟨rfl, hb⟩
  have HB := Lib.hid hb
  clear hb
  go_wp2_with fail
  go_ret
  exact ⟨rfl, HB.out⟩
set_option maxHeartbeats 8000000 in
set_option maxRecDepth 100000 in
theorem whole_ok (L B M : Nat) (K : Nat → Prop) (out : List PkgT) (p : SP) (vo : Value) (v : Fin 7 → Value) (vf : Value) (w : World) (h : Rdr w L B M K out p true vo v vf) (hn : ∀ i, (p.L i).length ≤ 1000000) (hf : p.files.length ≤ 1000000) (ho : out.length ≤ 1000000) (he : pkgCheck p.pkg = 0) :
    Calls Tryz.prog 13 #[.pointer (some ⟨B, 0, none⟩)] w fun e w' => e = .returned (.int .i64 0) ∧ Below L w w' ∧ ∃ vo', BoxN w' B (rdrCells vo' (pkgCells p.name p.evr p.arch p.vendor v vf) true M) 41 ∧ OutO w' L B M (withCur K v vf) (out ++ [p.pkg]) vo' := by
  have hpk := h.cur.pkg hn hf
  have hfr := h.cur.fresh h.outs.fresh
  have hkB : ¬ withCur K v vf B := by
    rintro (hb | ⟨r, hr⟩)
    · exact h.outs.kB hb
    · exact (h.cur.away r B hr).1 rfl
  have hkM : ¬ withCur K v vf M := by
    rintro (hb | ⟨r, hr⟩)
    · exact h.outs.kM hb
    · exact (h.cur.away r M hr).2.1 rfl
  have hkv : ∀ b, withCur K v vf b → vo.ownBlock ≠ some b := by
    rintro b (hb | ⟨r, hr⟩)
    · exact h.outs.kv b hb
    · exact (h.cur.away r b hr).2.2.1
  obtain ⟨a, c, af, cf, rfl, rfl⟩ := slices12 hpk
  have HC := Lib.hid (check_c p.pkg a c af _ cf _ w hpk (fun b hb => (hfr b hb).2.lt))
  rw [he] at HC
  have hbx := h.box
  obtain ⟨xs, hrow, hhas⟩ := h.outs.row
  obtain ⟨va, vc, rfl⟩ := ownsRow_slice hrow
  have HO := Lib.hid h.outs
  obtain ⟨i34, hi34, hz340, hz341, hz342⟩ := info_parts info44
  have HNX : Hid (∀ (wa w9 : World) (g cap : Nat), Below w.heap.size w wa → w9.ownsRow L 36 12 (.slice (some ⟨g, 0, none⟩) (out.length + 1) cap) (out.length + 1) (xs ++ pkgCells p.pkg.name p.pkg.evr p.pkg.arch p.pkg.vendor (fun i => .slice (a i) (p.pkg.n i) (c i)) (.slice af p.pkg.files.length cf)) → wa.grownBy w9 (Value.slice va out.length vc).ownBlock → ((Value.slice va out.length vc).ownBlock = some g ∨ g = wa.heap.size) →
      BoxN w9 B (rdrCells (.slice va out.length vc) (pkgCells p.name p.evr p.arch p.vendor (fun i => .slice (a i) (p.pkg.n i) (c i)) (.slice af p.pkg.files.length cf)) true M) 41 ∧ Below L w (w9.setCell ⟨B, 0, none⟩ (.slice (some ⟨g, 0, none⟩) (out.length + 1) cap)) ∧ OutO (w9.setCell ⟨B, 0, none⟩ (.slice (some ⟨g, 0, none⟩) (out.length + 1) cap)) L B M (withCur K (fun i => .slice (a i) (p.pkg.n i) (c i)) (.slice af p.pkg.files.length cf)) (out ++ [p.pkg]) (.slice (some ⟨g, 0, none⟩) (out.length + 1) cap)) := Lib.hid <| by
    intro wa w9 g cap hb hown hgrow hat
    have hO9 := HO.out.more hbx.lt (fun b hb => .inl hb) hfr hkB hkM hkv hpk hb hrow hhas hown hgrow hat
    have hsz := hb.size
    have hBl := hbx.lt
    have hB9 : w9.heap[B]? = w.heap[B]? := (hgrow.block B (Nat.lt_of_lt_of_le hBl hsz) (fun e => HO.out.vB e.symm)).trans (hb.block B hBl)
    refine ⟨hbx.to hB9, ?_, ?_⟩
    · have h1 : Below L wa w9 := ⟨hgrow.os, hgrow.tape, hgrow.output, hgrow.size, fun b hbl => hgrow.block b (by have := HO.out.lB; omega) (fun e => by have := (hrow.lt b e.symm).1; omega)⟩
      have h2 : Below L w wa := hb.mono (by have := HO.out.lB; omega)
      exact below_sc (h2.trans h1) HO.out.lB _ _
    · refine hO9.keep fun b hl hb' => set_other _ ?_
      rcases hb' with e | e | e
      · intro e2; exact HO.out.bm (by rw [← e2, e])
      · intro e2; exact hkB (by rw [← e2]; exact e)
      · intro e2; exact hO9.vB (by rw [← e2]; exact e)
  have hLw : L ≤ w.heap.size := Nat.le_trans HO.out.lB (Nat.le_of_lt hbx.lt)
  have HROW := Lib.hid hrow
  have HBX := Lib.hid hbx
  clear hhas hkv hkM hkB hfr hpk h hn hf HO hrow
  have p0 := hbx.cell (j := 1) rfl
  have p1 := hbx.cell (j := 2) rfl
  have p2 := hbx.cell (j := 3) rfl
  have p3 := hbx.cell (j := 4) rfl
  have p4 := hbx.cell (j := 5) rfl
  have p5 := hbx.cell (j := 6) rfl
  have p6 := hbx.cell (j := 7) rfl
  have p7 := hbx.cell (j := 8) rfl
  have p8 := hbx.cell (j := 9) rfl
  have p9 := hbx.cell (j := 10) rfl
  have p10 := hbx.cell (j := 11) rfl
  have p11 := hbx.cell (j := 12) rfl
  have p13 := hbx.cell (j := 13) rfl
  clear hbx he
  go_enter Tryz.func13, Tryz.ntmps13
  go_wp2_with fail
  refine HC.out.mono ?_
  rintro e w2 ⟨rfl, hb⟩
  have HB2 := Lib.hid hb
  clear hb HC p0 p1 p2 p3 p4 p5 p6 p7 p8 p9 p10 p11 p13
  have HBX2 := Lib.hid (HBX.out.below HB2.out)
  have HSW : Hid (∀ W : World, W.heap[B]? = w2.heap[B]? → W.cell? ⟨B, 0, none⟩ = some (.slice va out.length vc) ∧ W.cell? ⟨B, 1, none⟩ = some (.string p.name) ∧ W.cell? ⟨B, 2, none⟩ = some (.string p.evr) ∧ W.cell? ⟨B, 3, none⟩ = some (.string p.arch) ∧ W.cell? ⟨B, 4, none⟩ = some (.string p.vendor) ∧ W.cell? ⟨B, 5, none⟩ = some (.slice (a 0) (p.pkg.n 0) (c 0)) ∧ W.cell? ⟨B, 6, none⟩ = some (.slice (a 1) (p.pkg.n 1) (c 1)) ∧ W.cell? ⟨B, 7, none⟩ = some (.slice (a 2) (p.pkg.n 2) (c 2)) ∧ W.cell? ⟨B, 8, none⟩ = some (.slice (a 3) (p.pkg.n 3) (c 3)) ∧ W.cell? ⟨B, 9, none⟩ = some (.slice (a 4) (p.pkg.n 4) (c 4)) ∧ W.cell? ⟨B, 10, none⟩ = some (.slice (a 5) (p.pkg.n 5) (c 5)) ∧ W.cell? ⟨B, 11, none⟩ = some (.slice (a 6) (p.pkg.n 6) (c 6)) ∧ W.cell? ⟨B, 12, none⟩ = some (.slice af p.pkg.files.length cf)) := Lib.hid fun W hW => by
    have hx := HBX2.out.to hW
    exact ⟨hx.cell (j := 0) rfl, hx.cell (j := 1) rfl, hx.cell (j := 2) rfl, hx.cell (j := 3) rfl, hx.cell (j := 4) rfl, hx.cell (j := 5) rfl, hx.cell (j := 6) rfl, hx.cell (j := 7) rfl, hx.cell (j := 8) rfl, hx.cell (j := 9) rfl, hx.cell (j := 10) rfl, hx.cell (j := 11) rfl, hx.cell (j := 12) rfl⟩
  go_upto_region 6 with fail
  refine wp_region_ord (fun W => W.heap[B]? = w2.heap[B]?) 13 [(true, 0), (true, 1), (true, 2), (true, 3), (true, 4), (true, 5), (true, 6), (true, 7), (true, 8), (false, 9), (false, 10), (false, 11), (false, 12), (false, 13)] (by kernel_rfl) (by kernel_rfl) (fun _ _ d _ _ h => by cases d <;> exact h) rfl ?_
  intro wd hwd hS
  simp only [ordOps, List.map_cons, List.map_nil, Array.getD_eq_getD_getElem?, List.getElem?_toArray, List.getElem?_cons_succ, List.getElem?_cons_zero, Option.getD_some]
  iterate 9 (refine wpOrd_q rfl _ (fun w' hS' K hK => (by obtain ⟨x0, x1, x2, x3, x4, x5, x6, x7, x8, x9, x10, x11, x12⟩ := HSW.out w' hS'; clear hS'; go_simp; exact hK)) (fun K hK => ?_); go_simp; refine hK _ ?_; clear hK K)
  have HBd : Hid (Below w.heap.size w wd) := Lib.hid (by rw [hwd.out]; exact below_dr1 HB2.out)
  have HSd : Hid (wd.heap[B]? = w2.heap[B]?) := Lib.hid hS
  clear hS hwd
  obtain ⟨w4, e4⟩ : ∃ w4, wd.alloc (.cells #[.string p.name, .string p.evr, .string p.arch, .string p.vendor, .slice (a 0) (p.pkg.n 0) (c 0), .slice (a 1) (p.pkg.n 1) (c 1), .slice (a 2) (p.pkg.n 2) (c 2), .slice (a 3) (p.pkg.n 3) (c 3), .slice (a 4) (p.pkg.n 4) (c 4), .slice (a 5) (p.pkg.n 5) (c 5), .slice (a 6) (p.pkg.n 6) (c 6), .slice af p.pkg.files.length cf] 36) = w4 := ⟨_, rfl⟩
  have HB4 : Hid (Below w.heap.size w w4 ∧ BoxN w4 wd.heap.size [.string p.name, .string p.evr, .string p.arch, .string p.vendor, .slice (a 0) (p.pkg.n 0) (c 0), .slice (a 1) (p.pkg.n 1) (c 1), .slice (a 2) (p.pkg.n 2) (c 2), .slice (a 3) (p.pkg.n 3) (c 3), .slice (a 4) (p.pkg.n 4) (c 4), .slice (a 5) (p.pkg.n 5) (c 5), .slice (a 6) (p.pkg.n 6) (c 6), .slice af p.pkg.files.length cf] 36 ∧ w4.heap[B]? = w2.heap[B]?) := Lib.hid <| by
    rw [← e4]
    have hl : B < wd.heap.size := Nat.lt_of_lt_of_le HBX.out.lt HBd.out.size
    exact ⟨below_tr HBd.out (below1 _ _), boxN_alloc _ _ _, ((below1 wd _).block B hl).trans HSd.out⟩
  refine wpOrd_l rfl (fun K hK => ?_)
  go_simp
  refine hK _ _ ⟨fun _ => HB4.out.2.2, ?_⟩
  clear hK K e4
  have HR4 : Hid (w4.ownsRow L 36 12 (.slice va out.length vc) out.length xs) := Lib.hid (ownsRow_below HROW.out HB4.out.1)
  have HZ4 : Hid (L ≤ w4.heap.size) := Lib.hid (Nat.le_trans hLw HB4.out.1.size)
  refine wpOrd_l rfl (fun K hK => ?_)
  refine wp_append_lies _ (.tmp 21) (.tmp 26) 23 rfl L 36 i34 _ 12 256 Tryz.underlying23 hi34 hz340 hz341 hz342 rfl (by decide) (.slice va out.length vc) out.length xs rfl HR4.out ⟨wd.heap.size, 0, none⟩ 1 1 [.string p.name, .string p.evr, .string p.arch, .string p.vendor, .slice (a 0) (p.pkg.n 0) (c 0), .slice (a 1) (p.pkg.n 1) (c 1), .slice (a 2) (p.pkg.n 2) (c 2), .slice (a 3) (p.pkg.n 3) (c 3), .slice (a 4) (p.pkg.n 4) (c 4), .slice (a 5) (p.pkg.n 5) (c 5), .slice (a 6) (p.pkg.n 6) (c 6), .slice af p.pkg.files.length cf] rfl rfl (World.news_of_block (cs := #[.string p.name, .string p.evr, .string p.arch, .string p.vendor, .slice (a 0) (p.pkg.n 0) (c 0), .slice (a 1) (p.pkg.n 1) (c 1), .slice (a 2) (p.pkg.n 2) (c 2), .slice (a 3) (p.pkg.n 3) (c 3), .slice (a 4) (p.pkg.n 4) (c 4), .slice (a 5) (p.pkg.n 5) (c 5), .slice (a 6) (p.pkg.n 6) (c 6), .slice af p.pkg.files.length cf]) (t := 36) (fr := (0, 0)) HB4.out.2.1) (by intro u hu; simp only [List.mem_cons, List.not_mem_nil, or_false] at hu; rcases hu with rfl | rfl | rfl | rfl | rfl | rfl | rfl | rfl | rfl | rfl | rfl | rfl <;> rfl) (by decide) (by unfold maxLen; omega) (by omega) HZ4.out _ rfl ?_
  intro g9 c9 w9 hown9 hgrow9 hat9 hlt9
  have H9 := Lib.hid (HNX.out w4 w9 g9 c9 HB4.out.1 hown9 hgrow9 hat9)
  clear hown9 hgrow9 hat9 hlt9 HNX
  have HS9 : Hid (w9.heap[B]? = w2.heap[B]?) := Lib.hid (H9.out.1.trans HBX2.out.symm)
  refine hK _ _ ⟨fun _ => HS9.out, ?_⟩
  clear hK K
  refine wpOrd_l rfl (fun K hK => ?_)
  go_simp
  refine hK _ _ ⟨fun _ => HS9.out, ?_⟩
  clear hK K
  refine wpOrd_l rfl (fun K hK => ?_)
  go_simp
  refine hK _ _ ⟨fun _ => HS9.out, ?_⟩
  clear hK K
  have y0 := H9.out.1.cell (j := 0) rfl
  have f0 := H9.out.1.frozen 0
  refine wpOrd_l rfl (fun K hK => ?_)
  go_simp
  refine hK _ _ ⟨fun h => absurd rfl h, ?_⟩
  clear hK K
  refine wpOrd_nil ?_
  obtain ⟨wz, ez⟩ : ∃ wz, w9.setCell ⟨B, 0, none⟩ (.slice (some ⟨g9, 0, none⟩) (out.length + 1) c9) = wz := ⟨_, rfl⟩
  have HZ : Hid (Below L w wz ∧ BoxN wz B (rdrCells (.slice (some ⟨g9, 0, none⟩) (out.length + 1) c9) (pkgCells p.name p.evr p.arch p.vendor (fun i => .slice (a i) (p.pkg.n i) (c i)) (.slice af p.pkg.files.length cf)) true M) 41 ∧ OutO wz L B M (withCur K (fun i => .slice (a i) (p.pkg.n i) (c i)) (.slice af p.pkg.files.length cf)) (out ++ [p.pkg]) (.slice (some ⟨g9, 0, none⟩) (out.length + 1) c9)) := Lib.hid <| by
    rw [← ez]
    exact ⟨H9.out.2.1, H9.out.1.set 0 _, H9.out.2.2⟩
  try rw [ez]
  clear y0 f0 ez
  go_wp2_with fail
  go_ret
  exact ⟨rfl, HZ.out.1, _, HZ.out.2.1, HZ.out.2.2⟩
end Go.Proofs.YtjcefgjgjhdbpaaGreatDoor
