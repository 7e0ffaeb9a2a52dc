/-
  The solver: learn. Helper text; the conditions are those typed.
-/
import Derived.Test.YtkeagjphddcjeaaSolP
import Derived.Deep.LoopGhost
import Derived.Deep.Cut
import Derived.Deep.CutRange
import Derived.Deep.CutBlock
import Derived.IntWalk
namespace Go.Proofs.Ytkeagjphddcjeaa
set_option linter.unusedVariables false
set_option linter.unusedSimpArgs false
open Go.RowKit Go.Maps Sat

theorem info4 : (Try.prog.info? 4).map (fun i => (i.zero, i.size, i.bytes)) = some (some (.bool false), 1, 1) := by kernel_rfl
theorem mk_bools (n : Nat) (hn : n ≤ 140737488355328) (w : World) : (Instr.makeSlice 28 (.int .i64 (n : Int)) (.int .i64 (n : Int))).run Try.prog w = .ok (.slice (some ⟨w.heap.size, 0, none⟩) n n) (w.alloc (.cells (Array.replicate n (.bool false)) 4)) := by
  obtain ⟨i, hi, h0, h1, h2⟩ := info_parts info4
  have := run_make (P := Try.prog) w 28 4 i (.bool false) Try.underlying28 hi h0 .i64 .i64 (n : Int) (n : Int) (by omega) (Int.le_refl _) (by rw [h2]; omega) (by omega)
  rw [Int.toNat_natCast, h1, Nat.mul_one] at this
  have e : madeCells (Value.bool false).cells n = Array.replicate n (.bool false) := by
    have := toList_madeCells_one (.bool false) n
    have h2 : (madeCells #[.bool false] n).toList = (Array.replicate n (Value.bool false)).toList := by rw [this]; simp
    exact Array.toList_inj.1 h2
  rw [e] at this
  exact this

section
variable {w w' : World} {B : Nat} {role role' : Nat → Role} {S M gv gl gr : Nat} {vc vt vm : Value} {head n : Nat} {cv : Nat → Value} {wo : Int → Option Value} {wl : Int → List Nat} {orig : List Cl} {gs : List Int} {cs : List Cl} {tr : List En} {mk : List Nat} {T : Role → Prop}

/-- In learn's loop. -/
def LInv (w : World) (n sb : Nat) (orig : List Cl) (tr : List En) (mk : List Nat) (go lo co : Nat) (seen : Nat → Bool) (out : List Int) (opn a1 : Nat) (c : Cl) (l : Int) (wr : World) : Prop :=
  Below w.heap.size w wr ∧ BoxF wr sb n (fun u => .bool (seen u)) 4 ∧ wr.ownsRow w.heap.size 3 1 (.slice (some ⟨go, 0, none⟩) lo co) lo (intsI (0 :: out)) ∧ go ≠ sb ∧ w.heap.size ≤ sb ∧ w.heap.size ≤ go ∧ lo = out.length + 1 ∧ LJ orig tr mk.length seen out opn a1 c l ∧ LK tr mk.length seen opn c l
def LearnPost (w : World) (orig : List Cl) (tr : List En) (mk : List Nat) (e : Ending) (w' : World) : Prop :=
  ∃ (go lo co : Nat) (c : Cl) (back : Nat), e = .returned (.tuple #[.slice (some ⟨go, 0, none⟩) lo co, .int .i64 (back : Int)]) ∧ Below w.heap.size w w' ∧ w.heap.size ≤ go ∧ go < w'.heap.size ∧ w'.ownsRow w.heap.size 3 1 (.slice (some ⟨go, 0, none⟩) lo co) c.length (intsI c) ∧ lo = c.length ∧ Learned orig tr mk c back

set_option maxHeartbeats 4000000 in
set_option maxRecDepth 100000 in
theorem learn_c (h : SolIn w B role S M gv gl gr vc vt vm head n cv wo wl cs tr mk) (hB : B ≤ w.heap.size) (hn : n ≤ 1000) (hT : Tr n orig gs cs tr mk) (hC : Cs n orig cs) (hm0 : mk ≠ []) {bad : Nat} {c : Cl} (hc : cs[bad]? = some c) (hf : ∀ x ∈ c, ∃ q, At tr q (-x))
    (hl : ∃ x ∈ c, ∃ (q : Nat) (e : En), tr[q]? = some e ∧ e.lit = -x ∧ e.lev = mk.length) :
    Calls Try.prog 34 #[.pointer (some ⟨S, 0, none⟩), .int .i64 (bad : Int)] w (LearnPost w orig tr mk) := by
  obtain ⟨Q, hQ⟩ : ∃ Q, LearnPost w orig tr mk = Q := ⟨_, rfl⟩
  rw [hQ]
  replace hQ := Lib.hid hQ
  have HS := Lib.hid h
  have HB := Lib.hid hB
  have HT := Lib.hid hT
  have HC := Lib.hid hC
  have HM0 := Lib.hid hm0
  have hlen := tr_len hT
  have hmkl := mk_len hT
  have HST : Hid (LJ orig tr mk.length (fun _ => false) [] 0 tr.length c 0 ∧ LK tr mk.length (fun _ => false) 0 c 0) := by
    refine ⟨LJ.start hC hc hf, .inr ?_⟩
    obtain ⟨x, hx, q, e, h1, h2, h3⟩ := hl
    exact ⟨x, hx, (hC.ok c (List.mem_of_getElem? hc) x hx).1, rfl, q, e, h1, by rw [h2, vr_neg], h3⟩
  have hbl := (List.getElem?_eq_some_iff.1 hc).1
  obtain ⟨ta, tc, hvt⟩ := ownsRow_slice h.trow
  obtain ⟨ma, mc, hvm⟩ := ownsRow_slice h.mrow
  obtain ⟨gcr, ccr, hvc, hcr1, _⟩ := (ownsRow_form h.crow).resolve_left (fun h => by have := h.2; omega)
  subst hvt hvm hvc
  have HCROW : Hid (∀ W : World, W.heap[gcr]? = w.heap[gcr]? → ∀ i, i < cs.length → W.cell? ⟨gcr, i, none⟩ = some (cv i)) := fun W hW i hi => cell_blk hW (ownsRow_cell h.crow (by simp [hi]))
  have HLV : Hid (∃ f : Nat → Int, BoxF w gl n (fun u => .int .i64 (f u)) 3 ∧ ∀ e ∈ tr, f (vr e.lit) = (e.lev : Int)) := h.levs
  have HWY : Hid (∃ f : Nat → Int, BoxF w gr n (fun u => .int .i64 (f u)) 3 ∧ ∀ e ∈ tr, f (vr e.lit) = e.why) := h.whys
  have hgcl : gcr < w.heap.size := h.hi gcr (by rw [h.rc gcr rfl]; simp)
  obtain ⟨C, hCC⟩ : ∃ C, cs.length = C := ⟨_, rfl⟩
  obtain ⟨N, hN⟩ : ∃ N, tr.length = N := ⟨_, rfl⟩
  obtain ⟨L, hL⟩ : ∃ L, mk.length = L := ⟨_, rfl⟩
  have HBOX : Hid (∀ W : World, W.heap[S]? = w.heap[S]? → W.cell? ⟨S, 0, none⟩ = some (.slice (some ⟨gcr, 0, none⟩) C ccr) ∧ W.cell? ⟨S, 2, none⟩ = some (.slice (some ⟨gv, 0, none⟩) n n) ∧ W.cell? ⟨S, 3, none⟩ = some (.slice (some ⟨gl, 0, none⟩) n n) ∧ W.cell? ⟨S, 4, none⟩ = some (.slice (some ⟨gr, 0, none⟩) n n) ∧ W.cell? ⟨S, 5, none⟩ = some (.slice ta N tc) ∧ W.cell? ⟨S, 6, none⟩ = some (.slice ma L mc)) := fun W hW => by
    have hb := h.box.to hW
    rw [hCC, hN, hL] at hb
    exact ⟨hb.cell (j := 0) rfl, hb.cell (j := 2) rfl, hb.cell (j := 3) rfl, hb.cell (j := 4) rfl, hb.cell (j := 5) rfl, hb.cell (j := 6) rfl⟩
  rw [hCC] at hbl hcr1 HCROW
  rw [hN] at hlen hmkl HST
  rw [hL] at HST hmkl
  have HLC := Lib.hid hc
  have b0 := (HBOX.out w rfl).1
  have b2 := (HBOX.out w rfl).2.1
  have b5 := (HBOX.out w rfl).2.2.2.2.1
  have c0 := HCROW.out w rfl bad hbl
  have hmk := mk_bools n (by omega) w
  replace hCC := Lib.hid hCC
  replace hN := Lib.hid hN
  replace hL := Lib.hid hL
  have hbl1 : (bad : Int) < (C : Int) := by omega
  obtain ⟨w1, hw1⟩ : ∃ w1, w.alloc (.cells (Array.replicate n (.bool false)) 4) = w1 := ⟨_, rfl⟩
  rw [hw1] at hmk
  have HW1 : Hid (Below w.heap.size w w1 ∧ BoxF w1 w.heap.size n (fun _ => .bool false) 4 ∧ w1.heap.size = w.heap.size + 1) := by
    rw [← hw1]
    exact ⟨below1 _ _, boxF_alloc _ _ _ _, by simp⟩
  have b5 := (HBOX.out w1 (HW1.out.1.block S (by exact HS.out.box.lt))).2.2.2.2.1
  clear h hB hT hC hm0 hc hf hl hw1
  go_enter Try.func34, Try.ntmps34
  go_upto_region 3 with fail
  obtain ⟨sb, hsb⟩ : ∃ sb, w.heap.size = sb := ⟨_, rfl⟩
  obtain ⟨go, hgo⟩ : ∃ go, w1.heap.size = go := ⟨_, rfl⟩
  obtain ⟨w2, hw2⟩ : ∃ w2, w1.alloc (.cells #[.int .i64 0] 3) = w2 := ⟨_, rfl⟩
  have HW2 : Hid (LInv w n sb orig tr mk go 1 1 (fun _ => false) [] 0 N c 0 w2) := by
    have hb1 : Below w.heap.size w w2 := by
      rw [← hw2]
      exact HW1.out.1.alloc HW1.out.1.size _
    refine ⟨hb1, ?_, ?_, ?_, Nat.le_of_eq hsb, ?_, rfl, ?_⟩
    · rw [← hw2, ← hsb]
      exact HW1.out.2.1.below (below1 _ _)
    · refine ⟨rfl, .inr ⟨go, 1, #[.int .i64 0], rfl, ?_, ?_, Nat.le_refl _, by decide, rfl, rfl⟩⟩
      · have := HW1.out.2.2
        omega
      · rw [← hw2, ← hgo]
        exact boxN_alloc w1 [.int .i64 0] 3
    · have := HW1.out.2.2
      omega
    · have := HW1.out.2.2
      omega
    · have h1 := HST.out
      have hL' : mk.length = L := hL.out
      rw [← hL'] at h1
      exact h1
  rw [hsb, hgo, hw2]
  clear HW1 HST hw2 hgo
  replace hsb := Lib.hid hsb
  have bS := HBOX.out w2 (HW2.out.1.block S HS.out.box.lt)
  obtain ⟨-, -, -, -, b5, -⟩ := bS
  have hN0 : (N : Int) ≤ 1000 := by omega
  go_quiet (fail)
  obtain ⟨w3, hw3⟩ : ∃ w3, w2.drewN nq = w3 := ⟨_, rfl⟩
  have HW3 : Hid (LInv w n sb orig tr mk go 1 1 (fun _ => false) [] 0 N c 0 w3) := by
    rw [← hw3]
    obtain ⟨h1, h2, h3, h4⟩ := HW2.out
    exact ⟨below_dr h1 nq, h2.to rfl, ownsRow_to h3 fun _ _ => rfl, h4⟩
  rw [hw3]
  clear HW2 hw3 b0 b2 b5 c0 hmk
  have b0 := (HBOX.out w3 (HW3.out.1.block S HS.out.box.lt)).1
  have c0 := HCROW.out w3 (HW3.out.1.block gcr hgcl) bad hbl
  obtain ⟨gc0, Z0, ck0, hcv0⟩ : ∃ gc Z ck, cv bad = .slice (some ⟨gc, 0, none⟩) Z ck := by
    have h1 := HS.out.clause bad c HLC.out
    have h2 := HC.out.two c (List.mem_of_getElem? HLC.out)
    obtain ⟨g, ck, h3, _⟩ := (ownsRow_form h1).resolve_left (fun h => by have := h.2; omega)
    exact ⟨g, _, ck, h3⟩
  rw [hcv0] at c0
  go_wp2_with fail
  go_loopg [7, 8, 9, 10, 11] N (fun gf v7 v8 v9 v10 v11 wx => ∃ (go lo co : Nat) (seen : Nat → Bool) (out : List Int) (opn a1 : Nat) (c : Cl) (l : Int) (i gc Z ck : Nat), v7 = .slice (some ⟨go, 0, none⟩) lo co ∧ v8 = .int .i64 (opn : Int) ∧ v9 = .int .i64 ((a1 : Int) - 1) ∧ v10 = .int .i64 l ∧ v11 = .slice (some ⟨gc, 0, none⟩) Z ck ∧ a1 ≤ gf ∧ Hid (cs[i]? = some c ∧ cv i = .slice (some ⟨gc, 0, none⟩) Z ck ∧ LInv w n sb orig tr mk go lo co seen out opn a1 c l wx))
  case atStart => exact ⟨go, 1, 1, fun _ => false, [], 0, N, c, 0, bad, gc0, Z0, ck0, rfl, rfl, rfl, rfl, rfl, Nat.le_refl _, HLC.out, hcv0, HW3.out⟩
  case round =>
    clear HW3 b0 c0 HLC hcv0
    obtain ⟨gO, rfl⟩ : ∃ x : Nat, x = gk := ⟨_, rfl⟩
    obtain ⟨go, lo, co, seen, out, opn, a1, c, l, i, gc, Z, ck, rfl, rfl, rfl, rfl, rfl, hgf, HI⟩ := hrel
    obtain ⟨hci, hcvi, hinv⟩ := HI.out
    clear HI
    have HCI := Lib.hid hci
    have HCVI := Lib.hid hcvi
    have HINV := Lib.hid hinv
    have hcm := List.mem_of_getElem? hci
    have HCM := Lib.hid hcm
    have HZ : Hid (c.length = Z) := by
      have h1 := HS.out.clause i c hci
      rw [hcvi] at h1
      rcases h1.2 with ⟨e, _⟩ | ⟨g, cap, cur, e, _⟩
      · cases e
      · injection e with _ e2 _
        exact e2.symm
    have hZb : Z ≤ 1000 := by
      have h1 := clause_len HC.out hcm
      have h2 : c.length = Z := HZ.out
      omega
    have HCK : Hid (Z ≤ ck) := by
      have h1 := HS.out.clause i c hci
      rw [hcvi] at h1
      rcases ownsRow_form h1 with ⟨e, _⟩ | ⟨g, cap, e, h2, _⟩
      · cases e
      · injection e with _ _ e3
        have h3 : c.length = Z := HZ.out
        show Z ≤ ck
        omega
    clear hci hcvi hinv hcm
    go_wp2_with fail
    go_loopg [7, 8, 40] Z (fun gj v7 v8 v40 wx => ∃ (go lo co : Nat) (seen : Nat → Bool) (out : List Int) (opn j : Nat), v7 = .slice (some ⟨go, 0, none⟩) lo co ∧ v8 = .int .i64 (opn : Int) ∧ v40 = .int .i64 (j : Int) ∧ j ≤ Z ∧ Z ≤ j + gj ∧ Hid (LInv w n sb orig tr mk go lo co seen out opn a1 (c.drop j) l wx))
    case atStart => exact ⟨go, lo, co, seen, out, opn, 0, rfl, rfl, rfl, Nat.zero_le _, by omega, HINV.out⟩
    case round =>
      clear HINV
      obtain ⟨gJ, rfl⟩ : ∃ x : Nat, x = gk := ⟨_, rfl⟩
      obtain ⟨go, lo, co, seen, out, opn, j, rfl, rfl, rfl, hjZ, hgj, HI⟩ := hrel
      by_cases hj : j < Z
      · have hjl : j < c.length := by
          have h2 : c.length = Z := HZ.out
          omega
        obtain ⟨x, hx⟩ : ∃ x, c[j] = x := ⟨_, rfl⟩
        have hxm : x ∈ c := by rw [← hx]; exact List.getElem_mem hjl
        have HX : Hid (c[j]? = some x) := by rw [← hx]; exact List.getElem?_eq_getElem hjl
        have HD : Hid (c.drop j = x :: c.drop (j + 1)) := by rw [← hx]; exact List.drop_eq_getElem_cons hjl
        have hlx : Lok n x := HC.out.ok c HCM.out x hxm
        have HLX := Lib.hid hlx
        have hun := hlx.lt
        have c0 : wr.cell? ⟨gc, j, none⟩ = some (.int .i64 x) := ((HS.out.below HB.out HI.out.1).ccell HCI.out HCVI.out).1 j x HX.out
        have HO := Lib.hid (fun w => of_c hlx hn w)
        obtain ⟨hinv1, hinv2, hinv3, hinv4, hinv5, hinv6, hinv7, hinv8, hinv9⟩ := HI.out
        rw [HD.out] at hinv8 hinv9
        have HJ := Lib.hid hinv8
        have HK := Lib.hid hinv9
        have HI1 := Lib.hid hinv1
        have HI2 := Lib.hid hinv2
        have HI3 := Lib.hid hinv3
        have HI4 := Lib.hid (And.intro hinv4 (And.intro hinv5 (And.intro hinv6 hinv7)))
        have s0 := hinv2.cell hun
        clear hinv1 hinv2 hinv3 hinv4 hinv5 hinv6 hinv7 hinv8 hinv9 HI hx hxm hjl hlx
        obtain ⟨u, hu⟩ : ∃ u, vr x = u := ⟨_, rfl⟩
        rw [hu] at HO s0 hun
        have hu1 : (u : Int) < (n : Int) := by omega
        replace hu := Lib.hid hu
        have hj1 : (j : Int) < (Z : Int) := by omega
        by_cases hxl : x = l
        · have e1 : (x == l) = true := by simp [hxl]
          have HN : Hid (LInv w n sb orig tr mk go lo co seen out opn a1 (c.drop (j + 1)) l wr) :=
            ⟨HI1.out, HI2.out, HI3.out, HI4.out.1, HI4.out.2.1, HI4.out.2.2.1, HI4.out.2.2.2, HJ.out.pass HT.out HC.out HLX.out.1 (.inl hxl), HK.out.pass HT.out HM0.out (.inl hxl)⟩
          replace hxl := Lib.hid hxl
          go_wp2_with (go_at_call 46; refine (HO.out _).mono ?_; rintro e w1 ⟨rfl, rfl⟩)
          go_roundg (gJ - 1)
          case measure => omega
          case rel => exact ⟨go, lo, co, seen, out, opn, j + 1, rfl, rfl, by go_num, by omega, by omega, HN.out⟩
        · have e1 : (x == l) = false := by simp [hxl]
          have HXL := Lib.hid hxl
          clear hxl
          by_cases hse : seen u = true
          · rw [hse] at s0
            have HN : Hid (LInv w n sb orig tr mk go lo co seen out opn a1 (c.drop (j + 1)) l wr) :=
              ⟨HI1.out, HI2.out, HI3.out, HI4.out.1, HI4.out.2.1, HI4.out.2.2.1, HI4.out.2.2.2, HJ.out.pass HT.out HC.out HLX.out.1 (.inr (.inl (by rw [hu.out]; exact hse))), HK.out.pass HT.out HM0.out (.inr (.inl (by rw [hu.out]; exact hse)))⟩
            replace hse := Lib.hid hse
            go_wp2_with (go_at_call 46; refine (HO.out _).mono ?_; rintro e w1 ⟨rfl, rfl⟩)
            go_roundg (gJ - 1)
            case measure => omega
            case rel => exact ⟨go, lo, co, seen, out, opn, j + 1, rfl, rfl, by go_num, by omega, by omega, HN.out⟩
          · have hsf : seen u = false := by simpa using hse
            rw [hsf] at s0
            obtain ⟨q, hq, e, he, hel⟩ := HJ.out.cl x (List.mem_cons_self ..) HXL.out
            obtain ⟨fl, hfl1, hfl2⟩ := HLV.out
            have hfe := hfl2 e (List.mem_of_getElem? he)
            rw [hel, vr_neg, hu.out] at hfe
            have l0 : wr.cell? ⟨gl, u, none⟩ = some (.int .i64 (e.lev : Int)) := by
              rw [← hfe]
              exact cell_tr HI1.out (hfl1.cell hun)
            have b3 := (HBOX.out wr (HI1.out.block S HS.out.box.lt)).2.2.1
            have hev : vr e.lit = vr x := by rw [hel, vr_neg]
            have hlevb := lev_le HT.out (List.mem_of_getElem? he)
            obtain ⟨ev, hevv⟩ : ∃ ev, e.lev = ev := ⟨_, rfl⟩
            rw [hevv] at l0 hlevb
            rw [show mk.length = L from hL.out] at hlevb
            have HE : Hid (tr[q]? = some e ∧ vr e.lit = vr x ∧ e.lev = ev) := ⟨he, hev, hevv⟩
            have HSF := Lib.hid hsf
            clear hse hsf hfe hfl1 hfl2 hq he hel hev hevv
            by_cases hz : ev = 0
            · subst hz
              have HN : Hid (LInv w n sb orig tr mk go lo co seen out opn a1 (c.drop (j + 1)) l wr) :=
                ⟨HI1.out, HI2.out, HI3.out, HI4.out.1, HI4.out.2.1, HI4.out.2.2.1, HI4.out.2.2.2, HJ.out.pass HT.out HC.out HLX.out.1 (.inr (.inr ⟨q, e, HE.out⟩)), HK.out.pass HT.out HM0.out (.inr (.inr ⟨q, e, HE.out⟩))⟩
              go_wp2_with (go_at_call 46; refine (HO.out _).mono ?_; rintro e w1 ⟨rfl, rfl⟩)
              go_roundg (gJ - 1)
              case measure => omega
              case rel => exact ⟨go, lo, co, seen, out, opn, j + 1, rfl, rfl, by go_num, by omega, by omega, HN.out⟩
            · have e2 : ((ev : Int) == 0) = false := by simp; omega
              have sfz := HI2.out.frozen u
              have hnote := HJ.out.note HT.out HLX.out.1 HXL.out (by rw [hu.out]; exact HSF.out) HE.out.1 HE.out.2.1 (by rw [HE.out.2.2]; exact hz)
              rw [hu.out, HE.out.2.2] at hnote
              have HNOTE := Lib.hid hnote
              have hlj := HJ.out.len HT.out
              have hopn : (opn : Int) ≤ 1000 := by have := hlj.2.1; omega
              have hlo : lo ≤ 1001 := by
                have h1 := hlj.1
                have h2 := HI4.out.2.2.2
                omega
              clear hnote hlj
              go_upto_region 11 with (go_at_call 46; refine (HO.out _).mono ?_; rintro e w1 ⟨rfl, rfl⟩)
              obtain ⟨wz, hwz⟩ : ∃ wz, w1.setCell ⟨sb, u, none⟩ (.bool true) = wz := ⟨_, rfl⟩
              obtain ⟨i3, hi3, hz30, hz31, hz32⟩ := info_parts info3
              have hszg : sb < w1.heap.size := HI2.out.lt
              have HZ1 : Hid (Below w.heap.size w wz ∧ BoxF wz sb n (fun v => .bool (if v = u then true else seen v)) 4 ∧ wz.ownsRow w.heap.size 3 1 (.slice (some ⟨go, 0, none⟩) lo co) lo (intsI (0 :: out)) ∧ sb < wz.heap.size) := by
                rw [← hwz]
                refine ⟨below_sc HI1.out HI4.out.2.1 u _, (HI2.out.set u (.bool true)).congr fun v _ => (by by_cases e : v = u <;> simp [e]), ownsRow_to HI3.out fun g hg => by cases hg; exact set_other _ HI4.out.1, by rw [set_size]; exact hszg⟩
              rw [hwz]
              have bz := HBOX.out wz (HZ1.out.1.block S HS.out.box.lt)
              have b3 := bz.2.2.1
              have b6 := bz.2.2.2.2.2
              have l0 : wz.cell? ⟨gl, u, none⟩ = some (.int .i64 (ev : Int)) := by
                obtain ⟨fl, hfl1, hfl2⟩ := HLV.out
                have hfe := hfl2 e (List.mem_of_getElem? HE.out.1)
                rw [HE.out.2.1, hu.out, HE.out.2.2] at hfe
                rw [← hfe]
                exact cell_tr HZ1.out.1 (hfl1.cell hun)
              clear hwz bz c0 s0 sfz HI1 HI2 HI3 HO HJ
              by_cases hcur : ev = L
              · have e3 : ((ev : Int) == (L : Int)) = true := by simp; omega
                go_quiet (fail)
                have HN : Hid (LInv w n sb orig tr mk go lo co (fun v => if v = u then true else seen v) out (opn + 1) a1 (c.drop (j + 1)) l (wz.drewN nq)) :=
                  ⟨below_dr HZ1.out.1 nq, HZ1.out.2.1.to rfl, ownsRow_to HZ1.out.2.2.1 fun _ _ => rfl, HI4.out.1, HI4.out.2.1, HI4.out.2.2.1, HI4.out.2.2.2, HNOTE.out.1 (by rw [hcur]; exact hL.out.symm), .inl (Nat.succ_pos _)⟩
                have HCUR := Lib.hid hcur
                clear hcur
                go_wp2_with fail
                go_roundg (gJ - 1)
                case measure => omega
                case rel => exact ⟨go, lo, co, fun v => if v = u then true else seen v, out, opn + 1, j + 1, rfl, by go_num, by go_num, by omega, by omega, HN.out⟩
              · have e3 : ((ev : Int) == (L : Int)) = false := by simp; omega
                have HCUR := Lib.hid hcur
                clear hcur
                go_quiet (fail)
                obtain ⟨w5, hw5⟩ : ∃ w5, wz.drewN nq = w5 := ⟨_, rfl⟩
                obtain ⟨WA, hWA⟩ : ∃ WA, w5.alloc (.cells #[.int .i64 x] 3) = WA := ⟨_, rfl⟩
                have HWA : Hid (Below w.heap.size w WA ∧ BoxF WA sb n (fun v => .bool (if v = u then true else seen v)) 4 ∧ WA.ownsRow w.heap.size 3 1 (.slice (some ⟨go, 0, none⟩) lo co) lo (intsI (0 :: out)) ∧ BoxN WA w5.heap.size [.int .i64 x] 3 ∧ w.heap.size ≤ WA.heap.size ∧ sb < WA.heap.size) := by
                  have h5 : Below wz.heap.size wz w5 := by rw [← hw5]; exact below_dr (Below.refl _ _) nq
                  have hA : Below wz.heap.size wz WA := by rw [← hWA]; exact h5.trans (below_to (below1 w5 _) h5.size)
                  have hA2 := HZ1.out.1.trans (below_to hA HZ1.out.1.size)
                  refine ⟨hA2, HZ1.out.2.1.below hA, ownsRow_below HZ1.out.2.2.1 hA, ?_, hA2.size, Nat.lt_of_lt_of_le HZ1.out.2.2.2 hA.size⟩
                  rw [← hWA]
                  exact boxN_alloc _ _ _
                rw [hw5]
                clear hw5
                go_wp2_with (at_builtin; refine wpList_append_lies _ rfl (.tmp 83) (.tmp 85) 24 rfl w.heap.size 3 i3 (.int .i64 0) 1 8 Try.underlying24 hi3 hz30 hz31 hz32 rfl (by decide) (.slice (some ⟨go, 0, none⟩) lo co) lo (intsI (0 :: out)) rfl HWA.out.2.2.1 ⟨w5.heap.size, 0, none⟩ 1 1 [.int .i64 x] rfl rfl (World.news_of_block (cs := #[.int .i64 x]) (t := 3) (fr := (0, 0)) HWA.out.2.2.2.1) (by simp [Value.oneCell']) (by omega) (by unfold maxLen; omega) (by omega) HWA.out.2.2.2.2.1 WA.heap.size rfl ?_; intro g9 cap9 w9 hown9 hgrow9 hat9 hlt9)
                have HN : Hid (LInv w n sb orig tr mk g9 (lo + 1) cap9 (fun v => if v = u then true else seen v) (out ++ [x]) opn a1 (c.drop (j + 1)) l w9) := by
                  have hg9 : g9 ≠ sb ∧ w.heap.size ≤ g9 := by
                    rcases hat9 with h | h
                    · injection h with h
                      rw [← h]
                      exact ⟨HI4.out.1, HI4.out.2.2.1⟩
                    · have h1 := HWA.out.2.2.2.2
                      rw [h]
                      exact ⟨by omega, h1.1⟩
                  refine ⟨HWA.out.1.trans (grown_own HWA.out.2.2.1 HWA.out.2.2.2.2.1 hgrow9), HWA.out.2.1.to (hgrow9.block sb HWA.out.2.2.2.2.2 (fun e => by injection e with e; exact HI4.out.1 e.symm)), ?_, hg9.1, HI4.out.2.1, hg9.2, by rw [List.length_append, HI4.out.2.2.2]; rfl, HNOTE.out.2 (fun h => HCUR.out (h.trans hL.out)), ?_⟩
                  · rw [show 0 :: (out ++ [x]) = (0 :: out) ++ [x] from rfl, intsI_snoc]
                    exact hown9
                  · have h1 := HK.out.note HT.out HE.out.1 HE.out.2.1 (by rw [HE.out.2.2]; exact fun h => HCUR.out (h.trans hL.out))
                    rw [hu.out] at h1
                    exact h1
                clear hown9 hgrow9 hat9 hlt9
                go_roundg (gJ - 1)
                case measure => omega
                case rel => exact ⟨g9, lo + 1, cap9, fun v => if v = u then true else seen v, out ++ [x], opn, j + 1, rfl, rfl, by go_num, by omega, by omega, HN.out⟩
      · have hinv : LInv w n sb orig tr mk go lo co seen out opn a1 [] l wr := by
          have h1 := HI.out
          rw [List.drop_eq_nil_of_le (by have h2 : c.length = Z := HZ.out; omega)] at h1
          exact h1
        have HI := Lib.hid hinv
        have ho : 0 < opn := by
          rcases hinv.2.2.2.2.2.2.2.2 with h | ⟨y, hy, _⟩
          · exact h
          · cases hy
        have HEX : Hid (∃ (p : Nat) (e : En), p < a1 ∧ tr[p]? = some e ∧ e.lev = mk.length ∧ seen (vr e.lit) = true) := cntS_pos (by rw [← hinv.2.2.2.2.2.2.2.1.cnt]; exact ho)
        have ha1N : a1 ≤ N := by
          have h1 := hinv.2.2.2.2.2.2.2.1.a1le
          have h2 : tr.length = N := hN.out
          omega
        have hopn : (opn : Int) ≤ 1000 := by
          have := (hinv.2.2.2.2.2.2.2.1.len HT.out).2.1
          omega
        have ha10 : 1 ≤ a1 := by
          obtain ⟨p, e, h1, _⟩ := HEX.out
          omega
        obtain ⟨gt, tc', hte, htc, _⟩ := (ownsRow_form HS.out.trow).resolve_left (fun h => by
          have h1 := h.2
          have h2 : tr.length = N := hN.out
          omega)
        have hte2 : ta = some ⟨gt, 0, none⟩ ∧ tc = tc' := by injection hte with e1 _ e2; exact ⟨e1, e2⟩
        obtain ⟨hta, htcc⟩ := hte2
        have htc2 : N ≤ tc := by
          have h2 : tr.length = N := hN.out
          omega
        have HTR : Hid (∀ W : World, W.heap[gt]? = w.heap[gt]? → ∀ p e, tr[p]? = some e → W.cell? ⟨gt, p, none⟩ = some (.int .i64 e.lit)) := fun W hW p e hp => by
          have h1 := HS.out.trow
          rw [hta] at h1
          exact cell_blk hW (ownsRow_cell h1 (by unfold intsI; rw [List.getElem?_map, List.getElem?_map, hp]; rfl))
        have hgtl : gt < w.heap.size := HS.out.hi gt (by rw [HS.out.rt gt (by rw [hta]; rfl)]; simp)
        have hsub : ((a1 : Int) - 1) = ((a1 - 1 : Nat) : Int) := by omega
        have HSUB := Lib.hid hsub
        have HTA := Lib.hid hta
        have htcN : (N : Int) ≤ (tc : Int) := by omega
        obtain ⟨w6, rfl⟩ : ∃ x : World, x = wr := ⟨_, rfl⟩
        have b5 := (HBOX.out w6 (HI.out.1.block S HS.out.box.lt)).2.2.2.2.1
        rw [hta] at b5
        clear hte hta htcc hsub hinv hgj htc
        go_wp2_with fail
        go_loopg [9] a1 (fun gp v9 wx => ∃ p : Nat, v9 = .int .i64 (p : Int) ∧ p < a1 ∧ p < gp ∧ wx = w6 ∧ Hid (∀ p' e', p < p' → p' < a1 → tr[p']? = some e' → seen (vr e'.lit) = false))
        case atStart => exact ⟨a1 - 1, by rw [HSUB.out], by omega, by omega, rfl, fun p' e' h1 h2 => by omega⟩
        case round =>
          obtain ⟨gP, rfl⟩ : ∃ x : Nat, x = gk := ⟨_, rfl⟩
          obtain ⟨p, rfl, hpa, hgp, hww, HUN⟩ := hrel
          subst hww
          have hpN : p < tr.length := by
            have h2 : tr.length = N := hN.out
            omega
          obtain ⟨e, he⟩ : ∃ e, tr[p]? = some e := ⟨_, List.getElem?_eq_getElem hpN⟩
          have hok := HT.out.ok e (List.mem_of_getElem? he)
          have c0 := HTR.out wr (HI.out.1.block gt hgtl) p e he
          have HO := Lib.hid (fun w => of_c hok hn w)
          have hun := hok.lt
          have s0 := HI.out.2.1.cell hun
          have HE := Lib.hid he
          have hpN1 : (p : Int) < (N : Int) := by omega
          have hlb : -1000 ≤ e.lit ∧ e.lit ≤ 1000 := by have := hok.2; omega
          obtain ⟨hlb1, hlb2⟩ := hlb
          obtain ⟨u, hu⟩ : ∃ u, vr e.lit = u := ⟨_, rfl⟩
          rw [hu] at HO s0 hun
          obtain ⟨le, hle⟩ : ∃ le, e.lit = le := ⟨_, rfl⟩
          rw [hle] at c0 HO hlb1 hlb2
          have hu1 : (u : Int) < (n : Int) := by omega
          have HU := Lib.hid hu
          have HLE := Lib.hid hle
          have HOK := Lib.hid hok
          clear hpN hok he hu hle
          by_cases hse : seen u = true
          · rw [hse] at s0
            have HNX := Lib.hid (HI.out.2.2.2.2.2.2.2.1.next HT.out HC.out HM0.out hpa HE.out (by rw [HU.out]; exact hse) HUN.out ho)
            have HSE := Lib.hid hse
            clear hse
            by_cases ho1 : opn = 1
            · subst ho1
              have cg : wr.cell? ⟨go, 0, none⟩ = some (.int .i64 0) := ownsRow_cell HI.out.2.2.1 rfl
              have cf := ownsRow_frozen HI.out.2.2.1 0
              have HLO : Hid (lo = out.length + 1) := HI.out.2.2.2.2.2.2.1
              have hlo1 : 1 ≤ lo := by have h1 : lo = out.length + 1 := HLO.out; omega
              have hlo2 : lo ≤ 1001 := by
                have h1 : lo = out.length + 1 := HLO.out
                have := (HI.out.2.2.2.2.2.2.2.1.len HT.out).1
                omega
              have hlo3 : 0 < lo := by omega
              go_upto_region 23 with (go_at_call 46; refine (HO.out _).mono ?_; rintro e w1 ⟨rfl, rfl⟩)
              obtain ⟨wz, hwz⟩ : ∃ wz, w1.setCell ⟨go, 0, none⟩ (.int .i64 (-le)) = wz := ⟨_, rfl⟩
              have HZ1 : Hid (Below w.heap.size w wz ∧ wz.ownsRow w.heap.size 3 1 (.slice (some ⟨go, 0, none⟩) lo co) lo (intsI (-le :: out))) := by
                rw [← hwz]
                refine ⟨below_sc HI.out.1 HI.out.2.2.2.2.2.1 0 _, ?_⟩
                exact ownsRow_set HI.out.2.2.1 hlo3 (.int .i64 (-le))
              rw [hwz]
              obtain ⟨fl, hfl1, hfl2⟩ := HLV.out
              have HFL1 := Lib.hid hfl1
              have HFL2 : Hid (∀ x ∈ out, Lok n x ∧ 0 < (fl (vr x)).toNat ∧ fl (vr x) = ((fl (vr x)).toNat : Int)) := fun x hx => by
                obtain ⟨q, e', h1, h2, h3, _⟩ := HI.out.2.2.2.2.2.2.2.1.outs x hx
                have h4 := hfl2 e' (List.mem_of_getElem? h1)
                rw [h2, vr_neg] at h4
                exact ⟨(HI.out.2.2.2.2.2.2.2.1.len HT.out).2.2 x hx, by omega, by omega⟩
              have HFL3 : Hid (∀ x (q : Nat) (e : En), tr[q]? = some e → e.lit = -x → (fl (vr x)).toNat = e.lev) := fun x q e' h1 h2 => by
                have h4 := hfl2 e' (List.mem_of_getElem? h1)
                rw [h2, vr_neg] at h4
                omega
              clear hwz hfl1 hfl2 cg cf c0 s0 b5 HO
              obtain ⟨lv, hlv⟩ : ∃ lv : Int → Nat, lv = fun x => (fl (vr x)).toNat := ⟨_, rfl⟩
              have HLVX : Hid (∀ x, (fl (vr x)).toNat = lv x) := fun x => by rw [hlv]
              clear hlv
              go_wp2_with fail
              go_loopg [15, 16] lo (fun gb v15 v16 wx => ∃ (i back : Nat) (out' : List Int), v15 = .int .i64 (back : Int) ∧ v16 = .int .i64 (i : Int) ∧ 1 ≤ i ∧ i ≤ lo ∧ lo ≤ i + gb ∧ Hid (Below w.heap.size w wx ∧ wx.ownsRow w.heap.size 3 1 (.slice (some ⟨go, 0, none⟩) lo co) lo (intsI (-le :: out')) ∧ LB lv out out' (i - 1) back))
              case atStart => exact ⟨1, 0, out, rfl, rfl, Nat.le_refl _, hlo1, by omega, HZ1.out.1, HZ1.out.2, LB.start _ _⟩
              case round =>
                clear HZ1
                obtain ⟨gB, rfl⟩ : ∃ x : Nat, x = gk := ⟨_, rfl⟩
                obtain ⟨i, back, out', rfl, rfl, hi1, hil, hgb, HB4⟩ := hrel
                by_cases hilt : i < lo
                · obtain ⟨k, rfl⟩ : ∃ k, i = k + 1 := ⟨i - 1, by omega⟩
                  have hlen' : out'.length = out.length := HB4.out.2.2.perm.length_eq
                  have hkl : k < out'.length := by
                    have h1 : lo = out.length + 1 := HLO.out
                    omega
                  obtain ⟨x, hx⟩ : ∃ x, out'[k] = x := ⟨_, rfl⟩
                  obtain ⟨y, hy⟩ : ∃ y, out'[0]'(by omega) = y := ⟨_, rfl⟩
                  have HX : Hid (out'[k]? = some x) := by rw [← hx]; exact List.getElem?_eq_getElem hkl
                  have HY : Hid (out'[0]? = some y) := by rw [← hy]; exact List.getElem?_eq_getElem (by omega)
                  have hxm : x ∈ out := HB4.out.2.2.perm.mem_iff.1 (List.mem_of_getElem? HX.out)
                  obtain ⟨hlx, hpx, hfx⟩ := HFL2.out x hxm
                  have HO := Lib.hid (fun w => of_c hlx hn w)
                  have hunx := hlx.lt
                  rw [HLVX.out] at hpx hfx
                  have c1 : wr.cell? ⟨go, k + 1, none⟩ = some (.int .i64 x) := ownsRow_cell HB4.out.2.1 (by unfold intsI; rw [List.getElem?_map, List.getElem?_cons_succ, HX.out]; rfl)
                  have c2 : wr.cell? ⟨go, 1, none⟩ = some (.int .i64 y) := ownsRow_cell HB4.out.2.1 (by unfold intsI; rw [List.getElem?_map, List.getElem?_cons_succ, HY.out]; rfl)
                  have l0 : wr.cell? ⟨gl, vr x, none⟩ = some (.int .i64 (lv x : Int)) := by
                    rw [← hfx]
                    exact cell_tr HB4.out.1 (HFL1.out.cell hunx)
                  have b3 := (HBOX.out wr (HB4.out.1.block S HS.out.box.lt)).2.2.1
                  obtain ⟨v, hv⟩ : ∃ v, vr x = v := ⟨_, rfl⟩
                  rw [hv] at l0 HO hunx
                  have hv1 : (v : Int) < (n : Int) := by omega
                  have hi2 : ((k + 1 : Nat) : Int) < (lo : Int) := by omega
                  obtain ⟨i, hik⟩ : ∃ i, k + 1 = i := ⟨_, rfl⟩
                  rw [hik] at c1 hi2 hi1 hil hgb hilt ⊢
                  have HPX := Lib.hid hpx
                  have HKI := Lib.hid hik
                  have hlvb : (lv x : Int) ≤ 1000 := by
                    obtain ⟨q, e', h1, h2, _⟩ := HI.out.2.2.2.2.2.2.2.1.outs x hxm
                    have h3 := HFL3.out x q e' h1 h2
                    rw [HLVX.out] at h3
                    have h4 := lev_le HT.out (List.mem_of_getElem? h1)
                    have h5 : mk.length = L := hL.out
                    omega
                  obtain ⟨lx, hlxv⟩ : ∃ lx, lv x = lx := ⟨_, rfl⟩
                  rw [hlxv] at l0 hlvb
                  have HLXV := Lib.hid hlxv
                  clear hlen' hkl hx hy hxm hlx hpx hfx hv hik hlxv
                  go_upto_region 27 with fail
                  go_quiet ((go_at_call 46; exact Calls.quiet_of_same ((HO.out _).mono fun _ _ h => ⟨h.1, h.2⟩)))
                  obtain ⟨w7, hw7⟩ : ∃ w7, wr.drewN nq = w7 := ⟨_, rfl⟩
                  have HB7 : Hid (Below w.heap.size w w7 ∧ w7.ownsRow w.heap.size 3 1 (.slice (some ⟨go, 0, none⟩) lo co) lo (intsI (-le :: out')) ∧ w7.heap = wr.heap) := by
                    rw [← hw7]
                    exact ⟨below_dr HB4.out.1 nq, ownsRow_to HB4.out.2.1 fun _ _ => rfl, rfl⟩
                  have c1 : w7.cell? ⟨go, i, none⟩ = some (.int .i64 x) := by rw [← hw7]; exact c1
                  have c2 : w7.cell? ⟨go, 1, none⟩ = some (.int .i64 y) := by rw [← hw7]; exact c2
                  rw [hw7]
                  clear hw7 l0 b3
                  by_cases hgt : back < lx
                  · have hgt1 : (back : Int) < (lx : Int) := by omega
                    have HC1 : Hid (∀ W : World, W.heap[go]? = w7.heap[go]? → W.cell? ⟨go, i, none⟩ = some (.int .i64 x) ∧ W.cell? ⟨go, 1, none⟩ = some (.int .i64 y)) := fun W hW => ⟨cell_blk hW c1, cell_blk hW c2⟩
                    have hlo4 : 1 < lo := by omega
                    have hlo4i : (1 : Int) < (lo : Int) := by omega
                    have HCO : Hid (lo ≤ co) := by
                      rcases ownsRow_form HB7.out.2.1 with ⟨e, _⟩ | ⟨g, cap, e, h2, _⟩
                      · cases e
                      · injection e with _ _ e3
                        show lo ≤ co
                        omega
                    go_upto_region 30 with fail
                    refine Two.wp_region_ord2 (fun W => W.heap[go]? = w7.heap[go]?) (fun _ => True) 11 13 [(.qb, 0), (.qb, 1), (.qb, 2), (.qb, 3), (.qb, 4), (.qb, 5), (.qa, 6), (.qb, 7), (.qb, 8), (.qa, 9), (.qb, 10), (.l1, 11), (.qb, 12), (.l2, 13)] (by kernel_rfl) (by kernel_rfl) (fun _ _ d _ _ h => by cases d <;> exact h) rfl trivial ?_
                    intro wd hwd hS hS2
                    simp only [Two.ordOps2, List.map_cons, List.map_nil, Array.getD_eq_getD_getElem?, List.getElem?_toArray, List.getElem?_cons_succ, List.getElem?_cons_zero, Option.getD_some]
                    iterate 6 (refine Two.step_qb rfl _ (fun w' hS' K hK => (by clear hS'; go_simp; exact hK)) (fun K hK => ?_); go_simp; refine hK _ ?_; clear hK K)
                    refine Two.step_qa rfl _ (fun w' hS' K hK => (by have q1 := (HC1.out w' hS').1; clear hS'; go_simp; exact hK)) (fun K hK => ?_); go_simp; refine hK _ ?_; clear hK K
                    iterate 2 (refine Two.step_qb rfl _ (fun w' hS' K hK => (by clear hS'; go_simp; exact hK)) (fun K hK => ?_); go_simp; refine hK _ ?_; clear hK K)
                    refine Two.step_qa rfl _ (fun w' hS' K hK => (by have q1 := (HC1.out w' hS').2; clear hS'; go_simp; exact hK)) (fun K hK => ?_); go_simp; refine hK _ ?_; clear hK K
                    refine Two.step_qb rfl _ (fun w' hS' K hK => (by clear hS'; go_simp; exact hK)) (fun K hK => ?_); go_simp; refine hK _ ?_; clear hK K
                    have HROWD : Hid (wd.ownsRow w.heap.size 3 1 (.slice (some ⟨go, 0, none⟩) lo co) lo (intsI (-le :: out'))) := ownsRow_to HB7.out.2.1 fun g hg => by cases hg; exact hS
                    have p0 : wd.cell? ⟨go, 1, none⟩ = some (.int .i64 y) := (HC1.out wd hS).2
                    have p1 := ownsRow_frozen HROWD.out 1
                    refine Two.step_l1 rfl (fun K hK => ?_)
                    go_simp
                    refine hK _ _ ⟨trivial, ?_⟩
                    clear hK K p0 p1
                    refine Two.step_qb rfl _ (fun w' hS' K hK => (by clear hS'; go_simp; exact hK)) (fun K hK => ?_); go_simp; refine hK _ ?_; clear hK K
                    have HROWD1 := Lib.hid (ownsRow_set HROWD.out hlo4 (.int .i64 x))
                    have p0 : (wd.setCell ⟨go, 1, none⟩ (.int .i64 x)).cell? ⟨go, i, none⟩ = some (.int .i64 x) := ownsRow_cell HROWD1.out (by
                      rw [← HKI.out]
                      unfold intsI
                      by_cases e0 : k = 0
                      · subst e0
                        rw [List.getElem?_set_self (by
                          have h1 : lo = out.length + 1 := HLO.out
                          have h2 : out'.length = out.length := HB4.out.2.2.perm.length_eq
                          simp
                          omega)]
                      · rw [List.getElem?_set_ne (by omega), List.getElem?_map, List.getElem?_cons_succ, HX.out]
                        rfl)
                    have p1 := ownsRow_frozen HROWD1.out i
                    refine Two.step_l2 rfl (fun K hK => ?_)
                    go_simp
                    refine hK _ _ ?_
                    clear hK K p0 p1
                    refine Two.step_nil ?_
                    obtain ⟨w8, hw8⟩ : ∃ w8, (wd.setCell ⟨go, 1, none⟩ (.int .i64 x)).setCell ⟨go, i, none⟩ (.int .i64 y) = w8 := ⟨_, rfl⟩
                    have HN : Hid (Below w.heap.size w w8 ∧ w8.ownsRow w.heap.size 3 1 (.slice (some ⟨go, 0, none⟩) lo co) lo (intsI (-le :: ((out'.set 0 x).set k y))) ∧ LB lv out ((out'.set 0 x).set k y) (i + 1 - 1) lx) := by
                      rw [← hw8]
                      have hgo := HI.out.2.2.2.2.2.1
                      refine ⟨below_sc (below_sc (by rw [hwd.out]; exact below_dr1 HB7.out.1) hgo 1 _) hgo i _, ?_, ?_⟩
                      · have h1 := ownsRow_set HROWD1.out hilt (.int .i64 y)
                        rw [intsI_set, intsI_set, ← HKI.out] at h1
                        rw [← HKI.out]
                        exact h1
                      · rw [← HLXV.out, Nat.add_sub_cancel, ← HKI.out]
                        have h1 := HB4.out.2.2
                        rw [Nat.add_sub_cancel] at h1
                        exact h1.swap HX.out HY.out (by rw [HLXV.out]; exact hgt)
                    rw [hw8]
                    clear hw8 hwd hS hS2 HROWD HROWD1 HC1 c1 c2
                    go_wp2_with fail
                    go_roundg (gB - 1)
                    case measure => omega
                    case rel => exact ⟨i + 1, lx, _, rfl, by go_num, by omega, by omega, by omega, HN.out⟩
                  · have hgt1 : ¬ (back : Int) < (lx : Int) := by omega
                    have HN : Hid (Below w.heap.size w w7 ∧ w7.ownsRow w.heap.size 3 1 (.slice (some ⟨go, 0, none⟩) lo co) lo (intsI (-le :: out')) ∧ LB lv out out' (i + 1 - 1) back) := by
                      refine ⟨HB7.out.1, HB7.out.2.1, ?_⟩
                      have h1 := HB4.out.2.2
                      rw [Nat.add_sub_cancel] at h1
                      rw [Nat.add_sub_cancel, ← HKI.out]
                      exact h1.pass HX.out HPX.out (by rw [HLXV.out]; omega)
                    clear c1 c2
                    go_wp2_with fail
                    go_roundg (gB - 1)
                    case measure => omega
                    case rel => exact ⟨i + 1, back, out', rfl, by go_num, by omega, by omega, by omega, HN.out⟩
                · have hiE : lo ≤ i := by omega
                  have HFIN : Hid (Q (.returned (.tuple #[.slice (some ⟨go, 0, none⟩) lo co, .int .i64 (back : Int)])) wr) := by
                    rw [← hQ.out]
                    have h1 : lo = out.length + 1 := HLO.out
                    have h2 : out'.length = out.length := HB4.out.2.2.perm.length_eq
                    have h3 : e.lit = le := HLE.out
                    have hk : i - 1 = out'.length := by omega
                    have hlb4 := HB4.out.2.2
                    rw [hk] at hlb4
                    have hrow := HB4.out.2.1
                    have hlc : lo = (-le :: out').length := by simp; omega
                    refine ⟨go, lo, co, -le :: out', back, rfl, HB4.out.1, HI.out.2.2.2.2.2.1, ?_, by rw [← hlc]; exact hrow, hlc, ?_⟩
                    · exact (hrow.lt go rfl).2
                    · rw [← h3]
                      refine HI.out.2.2.2.2.2.2.2.1.learned HT.out HM0.out HE.out HNX.out.1 (HNX.out.2.1 (by trivial)) hlb4.perm (fun x hx q e' h4 h5 => ?_) (fun h0 => hlb4.zero (by rw [h0]; rfl)) (fun b t' h0 => ?_)
                      · obtain ⟨j, hj, hjx⟩ := List.mem_iff_getElem.1 (hlb4.perm.mem_iff.2 hx)
                        have h6 := hlb4.most j x hj (by rw [List.getElem?_eq_getElem hj, hjx])
                        have h7 := HFL3.out x q e' h4 h5
                        rw [HLVX.out] at h7
                        omega
                      · obtain ⟨b', t2, h6, h7⟩ := hlb4.first (by rw [h0]; simp)
                        rw [h0] at h6
                        cases h6
                        obtain ⟨q, e', h8, h9, _⟩ := HI.out.2.2.2.2.2.2.2.1.outs b (hlb4.perm.mem_iff.1 (by rw [h0]; simp))
                        refine ⟨q, e', h8, h9, ?_⟩
                        have h10 := HFL3.out b q e' h8 h9
                        rw [HLVX.out] at h10
                        omega
                  go_wp2_with fail
                  exact HFIN.out
            · have e3 : (((opn : Int) - 1) == 0) = false := by simp; omega
              obtain ⟨i2, c2, hwhy, hci2, hlj2⟩ := HNX.out.2.2 ho1
              obtain ⟨fr, hfr1, hfr2⟩ := HWY.out
              have hfe := hfr2 e (List.mem_of_getElem? HE.out)
              rw [HU.out, hwhy] at hfe
              obtain ⟨gc2, Z2, ck2, hcv2⟩ : ∃ gc Z ck, cv i2 = .slice (some ⟨gc, 0, none⟩) Z ck := by
                have h1 := HS.out.clause i2 c2 hci2
                have h2 := HC.out.two c2 (List.mem_of_getElem? hci2)
                obtain ⟨g, ck, h3, _⟩ := (ownsRow_form h1).resolve_left (fun h => by have := h.2; omega)
                exact ⟨g, _, ck, h3⟩
              have hi2C : i2 < C := by
                have h1 := (List.getElem?_eq_some_iff.1 hci2).1
                have h2 : cs.length = C := hCC.out
                omega
              have hi2C1 : (i2 : Int) < (C : Int) := by omega
              have r0 : wr.cell? ⟨gr, u, none⟩ = some (.int .i64 (i2 : Int)) := by
                rw [← hfe]
                exact cell_tr HI.out.1 (hfr1.cell hun)
              have k0 := HCROW.out wr (HI.out.1.block gcr hgcl) i2 hi2C
              rw [hcv2] at k0
              have bb := HBOX.out wr (HI.out.1.block S HS.out.box.lt)
              have b0 := bb.1
              have b4 := bb.2.2.2.1
              have HNEW : Hid (cs[i2]? = some c2 ∧ cv i2 = .slice (some ⟨gc2, 0, none⟩) Z2 ck2 ∧ LJ orig tr mk.length seen out (opn - 1) p c2 le) := ⟨hci2, hcv2, by rw [← HLE.out]; exact hlj2⟩
              have HOS : Hid (((opn : Int) - 1) = ((opn - 1 : Nat) : Int)) := by show ((opn : Int) - 1) = ((opn - 1 : Nat) : Int); omega
              clear bb hwhy hci2 hlj2 hfr1 hfr2 hfe hcv2
              go_upto_region 21 with (go_at_call 46; refine (HO.out _).mono ?_; rintro e w1 ⟨rfl, rfl⟩)
              go_quiet ((go_at_call 46; exact Calls.quiet_of_same ((HO.out _).mono fun _ _ h => ⟨h.1, h.2⟩)))
              go_wp2_with fail
              go_roundg p
              case measure => omega
              case rel => exact ⟨go, lo, co, seen, out, opn - 1, p, c2, le, i2, gc2, Z2, ck2, rfl, by rw [HOS.out], rfl, rfl, rfl, Nat.le_refl _, HNEW.out.1, HNEW.out.2.1, below_dr HI.out.1 _, HI.out.2.1.to rfl, ownsRow_to HI.out.2.2.1 fun _ _ => rfl, HI.out.2.2.2.1, HI.out.2.2.2.2.1, HI.out.2.2.2.2.2.1, HI.out.2.2.2.2.2.2.1, HNEW.out.2.2, .inl (by omega)⟩
          · have hsf : seen u = false := by simpa using hse
            rw [hsf] at s0
            have hp0 : 1 ≤ p := by
              obtain ⟨p0, e0, h1, h2, _, h3⟩ := HEX.out
              rcases Nat.lt_trichotomy p p0 with h4 | h4 | h4
              · have := HUN.out p0 e0 h4 h1 h2
                rw [h3] at this
                cases this
              · subst h4
                have h5 := HE.out
                rw [h2] at h5
                cases h5
                rw [HU.out, hsf] at h3
                cases h3
              · omega
            have HNU : Hid (∀ p' e', p - 1 < p' → p' < a1 → tr[p']? = some e' → seen (vr e'.lit) = false) := fun p' e' h1 h2 h3 => by
              by_cases e1 : p' = p
              · subst e1
                have h5 := HE.out
                rw [h3] at h5
                cases h5
                rw [HU.out]
                exact hsf
              · exact HUN.out p' e' (by omega) h2 h3
            have HPS : Hid (((p : Int) - 1) = ((p - 1 : Nat) : Int)) := by show ((p : Int) - 1) = ((p - 1 : Nat) : Int); omega
            clear hsf hse
            go_wp2_with (go_at_call 46; refine (HO.out _).mono ?_; rintro e w1 ⟨rfl, rfl⟩)
            go_roundg (gP - 1)
            case measure => omega
            case rel => exact ⟨p - 1, by rw [HPS.out], by omega, by omega, rfl, HNU.out⟩
end
end Go.Proofs.Ytkeagjphddcjeaa
