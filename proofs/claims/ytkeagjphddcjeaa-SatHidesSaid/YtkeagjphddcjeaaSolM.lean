/-
  Core: the walk. Helper text; the conditions are those typed.
-/
import Derived.Test.YtkeagjphddcjeaaSolK
import Derived.Test.YtkeagjphddcjeaaSolL
namespace Go.Proofs.Ytkeagjphddcjeaa
set_option linter.unusedVariables false
set_option linter.unusedSimpArgs false
open Go.RowKit Go.Maps Sat

/-- The clauses at some places. -/
def subL (ls : List Cl) (ks : List Nat) : List Cl := ks.map fun k => ls.getD k []
open Classical in
/-- They cannot all hold. -/
noncomputable def unB (ls : List Cl) (ks : List Nat) : Bool := decide (∀ v, ¬ sat v (subL ls ks))
noncomputable def coreS (ls : List Cl) (left : List Nat) (i : Nat) : List Nat := if unB ls (left.filter (· != i)) then left.filter (· != i) else left
/-- What Core has behind i rounds. -/
noncomputable def coreN (ls : List Cl) : Nat → List Nat
  | 0 => List.range ls.length
  | i + 1 => coreS ls (coreN ls i) i
noncomputable def coreF (ls : List Cl) : List Nat := coreN ls ls.length
theorem subL_range (ls : List Cl) : subL ls (List.range ls.length) = ls := by
  unfold subL
  apply List.ext_getElem?
  intro i
  rw [List.getElem?_map]
  by_cases h : i < ls.length
  · rw [List.getElem?_range h, List.getElem?_eq_getElem h]
    simp [List.getD, List.getElem?_eq_getElem h]
  · rw [List.getElem?_eq_none (by simpa using h), List.getElem?_eq_none (by omega)]
    rfl
theorem coreN_spec {ls : List Cl} (h : ∀ v, ¬ sat v ls) : ∀ i, (∀ v, ¬ sat v (subL ls (coreN ls i))) ∧ (∀ k ∈ coreN ls i, k < ls.length) ∧ (coreN ls i).length ≤ ls.length
  | 0 => by
    refine ⟨?_, fun k hk => List.mem_range.1 hk, by simp [coreN]⟩
    show ∀ v, ¬ sat v (subL ls (List.range ls.length))
    rw [subL_range]
    exact h
  | i + 1 => by
    obtain ⟨h1, h2, h3⟩ := coreN_spec h i
    unfold coreN coreS
    split
    · rename_i hu
      unfold unB at hu
      exact ⟨by simpa using hu, fun k hk => h2 k (List.mem_filter.1 hk).1, Nat.le_trans (List.length_filter_le _ _) h3⟩
    · exact ⟨h1, h2, h3⟩
theorem core_ne {ls : List Cl} {ks : List Nat} (h : ∀ v, ¬ sat v (subL ls ks)) : ks ≠ [] := fun e => by
  subst e
  exact h (fun _ => false) fun c hc => by cases hc
/-- Rows that were built. -/
theorem RowsV.own {w : World} {B : Nat} {v : Value} {vals : List Value} {ls : List (List Int)} {k : Nat} (h : w.ownsRow B 24 1 v k vals) (hk : k = ls.length) (hv : vals.length = ls.length) (hi : ∀ (i : Nat) (x : Value) (l : List Int), vals[i]? = some x → ls[i]? = some l → IntsV w x l) : RowsV w v ls := by
  subst hk
  rcases ownsRow_form h with ⟨rfl, h0⟩ | ⟨g, cap, rfl, h1, _⟩
  · have : ls = [] := List.eq_nil_of_length_eq_zero h0
    subst this
    exact ⟨none, 0, fun _ => .slice none 0 0, rfl, Nat.le_refl _, .inl rfl, fun i l hl => by simp at hl⟩
  · refine ⟨some ⟨g, 0, none⟩, cap, fun i => vals.getD i (.slice none 0 0), rfl, h1, .inr ⟨g, 0, rfl, (h.lt g rfl).2, fun i hi => ?_⟩, fun i l hl => ?_⟩
    · rw [Nat.zero_add]
      refine ownsRow_cell h ?_
      have : i < vals.length := by omega
      simp [List.getD, List.getElem?_eq_getElem this]
    · have h2 := (List.getElem?_eq_some_iff.1 hl).1
      have : i < vals.length := by omega
      exact hi i _ l (by simp [List.getD, List.getElem?_eq_getElem this]) hl
def nI (l : List Nat) : List Int := l.map fun (k : Nat) => (k : Int)
theorem intsI_nI (l : List Nat) : intsI (nI l) = natsI l := by
  unfold intsI nI natsI
  rw [List.map_map]
  rfl
theorem nI_len (l : List Nat) : (nI l).length = l.length := by unfold nI; simp
theorem nI_filter (l : List Nat) (i : Nat) : (nI l).filter (fun x => !(x == (i : Int))) = nI (l.filter (· != i)) := by
  unfold nI
  rw [List.filter_map]
  congr 1
  apply List.filter_congr
  intro k _
  show (!((k : Int) == (i : Int))) = (k != i)
  rw [bne]
  congr 1
  by_cases h : k = i
  · subst h; simp
  · have h2 : ¬ (k : Int) = (i : Int) := by omega
    rw [beq_eq_false_iff_ne.2 h2, beq_eq_false_iff_ne.2 h]
theorem litsB_sub {n : Nat} {ls : List Cl} (h : litsB n ls [] = true) (ks : List Nat) : litsB n (subL ls ks) [] = true := by
  rw [litsB_ok] at h ⊢
  refine ⟨fun c hc => ?_, h.2⟩
  obtain ⟨k, _, rfl⟩ := List.mem_map.1 hc
  by_cases hk : k < ls.length
  · have : ls.getD k [] = ls[k] := by simp [List.getD, List.getElem?_eq_getElem hk]
    rw [this]
    exact h.1 _ (List.getElem_mem hk)
  · have : ls.getD k [] = [] := by simp [List.getD, List.getElem?_eq_none (Nat.le_of_not_lt hk)]
    rw [this]
    intro x hx
    cases hx
def CorePost (w : World) (n : Nat) (ls : List Cl) (e : Ending) (w' : World) : Prop :=
  Below w.heap.size w w' ∧ (((∃ v, sat v ls) ∧ e = .returned (.tuple #[.slice none 0 0, .bool false, .int .i64 0])) ∨ ((∀ v, ¬ sat v ls) ∧ ∃ vv, e = .returned (.tuple #[vv, .bool true, .int .i64 0]) ∧ w'.ownsRow w.heap.size 3 1 vv (coreF ls).length (natsI (coreF ls))))


set_option maxHeartbeats 8000000 in
set_option maxRecDepth 100000 in
theorem core_c {n : Nat} (hn : n ≤ 400) {vl : Value} {ls : List (List Int)} {w : World} (hl : RowsV w vl ls) (hlen : ls.length ≤ 2199023255552) (hlb : ∀ c ∈ ls, c.length ≤ 17592186044416) (hok : litsB n ls [] = true) (hcap : ls.length + 2 ^ n ≤ 4398046511104) :
    Calls Try.prog 18 #[.int .i64 (n : Int), vl] w (CorePost w n ls) := by
  obtain ⟨Q, hQ⟩ : ∃ Q, CorePost w n ls = Q := ⟨_, rfl⟩
  rw [hQ]
  replace hQ := Lib.hid hQ
  have HSOLVE := Lib.hid (solve_c hn hl (IntsV.nil w) hlen hlb (Nat.zero_le _) hok (.inl hcap))
  have HRV := Lib.hid hl
  have HLEN := Lib.hid hlen
  have HLB := Lib.hid hlb
  have HOK := Lib.hid hok
  have HCAP := Lib.hid hcap
  obtain ⟨al, cl, f, hvl, hcl, hcell, hrows⟩ := hl
  subst hvl
  have HROWS := Lib.hid hrows
  obtain ⟨L, hLL⟩ : ∃ L, ls.length = L := ⟨_, rfl⟩
  have HCELL : Hid (∀ i, i < L → ∃ b off, al = some ⟨b, off, none⟩ ∧ b < w.heap.size ∧ w.cell? ⟨b, off + i, none⟩ = some (f i)) := fun i hi => by
    rcases hcell with h | ⟨b, off, h1, h2, h3⟩
    · rw [← hLL, h] at hi; cases hi
    · exact ⟨b, off, h1, h2, h3 i (by rw [hLL]; exact hi)⟩
  rw [hLL] at hcl HSOLVE ⊢
  have hLb : L ≤ 2199023255552 := by omega
  have HLL := Lib.hid hLL
  obtain ⟨i3, hi3, hz30, hz31, hz32⟩ := info_parts info3
  obtain ⟨i24, hi24, hz240, hz241, hz242⟩ := info_parts info24
  clear hrows hcell hLL hlen hlb hok hcap
  go_enter Try.func18, Try.ntmps18
  go_wp2_with fail
  refine HSOLVE.out.mono ?_
  rintro e w1 ⟨hb1, hres⟩
  have HB1 : Hid (Below w.heap.size w w1) := hb1
  clear hb1 HSOLVE
  rcases hres with ⟨g, v, rfl, _, _, hbest⟩ | ⟨rfl, hun⟩
  · have HF : Hid (Q (.returned (.tuple #[.slice none 0 0, .bool false, .int .i64 0])) w1) := by
      rw [← hQ.out]
      exact ⟨HB1.out, .inl ⟨⟨v, hbest.1⟩, rfl⟩⟩
    clear hbest
    go_wp2_with fail
    exact bodyPost_ret (v := .tuple #[.slice none 0 0, .bool false, .int .i64 0]) (by simp [results, Try.results18, go_sem]) rfl HF.out
  · have HUN := Lib.hid hun
    clear hun
    go_wp2_with fail
    go_loopg [10, 35] L (fun gk v10 v35 wx => ∃ (i : Nat) (ga : Option Addr) (gc : Nat), v10 = .slice ga i gc ∧ v35 = .int .i64 (i : Int) ∧ i ≤ L ∧ L ≤ i + gk ∧ Hid (Below w1.heap.size w1 wx ∧ wx.ownsRow w1.heap.size 3 1 (.slice ga i gc) i (natsI (List.range i))))
    case atStart => exact ⟨0, none, 0, rfl, rfl, Nat.zero_le _, by omega, Below.refl _ _, World.ownsRow_nil _ _ _ _⟩
    case round =>
      obtain ⟨i, ga, gc, rfl, rfl, hiL, hfi, HI⟩ := hrel
      by_cases hi : i < L
      · have hi1 : (i : Int) < (L : Int) := by omega
        obtain ⟨WA, hWA⟩ : ∃ WA, wr.alloc (.cells #[.int .i64 (i : Int)] 3) = WA := ⟨_, rfl⟩
        have HWA : Hid (Below w1.heap.size w1 WA ∧ BoxN WA wr.heap.size [.int .i64 (i : Int)] 3 ∧ WA.ownsRow w1.heap.size 3 1 (.slice ga i gc) i (natsI (List.range i)) ∧ w1.heap.size ≤ WA.heap.size) := by
          rw [← hWA]
          have hb := HI.out.1.trans (below_to (below1 wr (.cells #[.int .i64 (i : Int)] 3)) HI.out.1.size)
          exact ⟨hb, boxN_alloc _ _ _, ownsRow_below HI.out.2 (below1 _ _), hb.size⟩
        go_wp2_with (at_builtin; refine wpList_append_lies _ rfl (.tmp 38) (.tmp 40) 24 rfl w1.heap.size 3 i3 (.int .i64 0) 1 8 Try.underlying24 hi3 hz30 hz31 hz32 rfl (by decide) (.slice ga i gc) i (natsI (List.range i)) rfl HWA.out.2.2.1 ⟨wr.heap.size, 0, none⟩ 1 1 [.int .i64 (i : Int)] rfl rfl (World.news_of_block (cs := #[.int .i64 (i : Int)]) (t := 3) (fr := (0, 0)) HWA.out.2.1) (by simp [Value.oneCell']) (by omega) (by unfold maxLen; omega) (by omega) HWA.out.2.2.2 WA.heap.size rfl ?_; intro g9 cap9 w9 hown9 hgrow9 hat9 hlt9)
        have HN : Hid (Below w1.heap.size w1 w9 ∧ w9.ownsRow w1.heap.size 3 1 (.slice (some ⟨g9, 0, none⟩) (i + 1) cap9) (i + 1) (natsI (List.range (i + 1)))) := by
          refine ⟨HWA.out.1.trans (grown_own HWA.out.2.2.1 HWA.out.2.2.2 hgrow9), ?_⟩
          rw [List.range_succ, natsI_snoc]
          exact hown9
        clear hown9 hgrow9 hat9 hlt9
        go_roundg (gk - 1)
        case measure => omega
        case rel => exact ⟨i + 1, some ⟨g9, 0, none⟩, cap9, rfl, by go_num, by omega, by omega, HN.out⟩
      · have hiE : i = L := by omega
        obtain ⟨ll, hll⟩ : ∃ ll, i = ll := ⟨_, rfl⟩
        have H0 : Hid (Below w.heap.size w wr ∧ wr.ownsRow w.heap.size 3 1 (.slice ga i gc) i (natsI (coreN ls 0)) ∧ i = (coreN ls 0).length) := by
          have e : coreN ls 0 = List.range i := by
            unfold coreN
            rw [show ls.length = L from HLL.out, hiE]
          rw [e]
          exact ⟨HB1.out.trans (below_to HI.out.1 HB1.out.size), ownsRow_base HI.out.2 HB1.out.size, by simp⟩
        clear hll
        have hiE3 := hiE.symm
        clear hiE
        subst hiE3
        clear HI
        go_wp2_with fail
        go_loopg [10, 45] L (fun gk v10 v45 wx => ∃ (j : Nat) (ga : Option Addr) (gn gc : Nat), v10 = .slice ga gn gc ∧ v45 = .int .i64 (j : Int) ∧ j ≤ L ∧ L ≤ j + gk ∧ Hid (Below w.heap.size w wx ∧ wx.ownsRow w.heap.size 3 1 (.slice ga gn gc) gn (natsI (coreN ls j)) ∧ gn = (coreN ls j).length))
        case atStart => exact ⟨0, ga, L, gc, rfl, rfl, Nat.zero_le _, by omega, H0.out⟩
        case round =>
          clear H0
          obtain ⟨gO, rfl⟩ : ∃ x : Nat, x = gk := ⟨_, rfl⟩
          obtain ⟨j, ga, gn, gc, rfl, rfl, hjL, hfj, HI⟩ := hrel
          by_cases hj : j < L
          · have hj1 : (j : Int) < (L : Int) := by omega
            obtain ⟨hs1, hs2, hs3⟩ := coreN_spec HUN.out j
            have HS1 : Hid ((∀ v, ¬ sat v (subL ls (coreN ls j))) ∧ (∀ k ∈ coreN ls j, k < ls.length) ∧ (coreN ls j).length ≤ ls.length) := ⟨hs1, hs2, hs3⟩
            clear hs1 hs2 hs3
            go_upto_region 13 with fail
            obtain ⟨w2, hw2⟩ : ∃ w2, wr.alloc (.cells #[.int .i64 (j : Int)] 3) = w2 := ⟨_, rfl⟩
            obtain ⟨b, hb⟩ : ∃ b, wr.heap.size = b := ⟨_, rfl⟩
            have HW2 : Hid (Below wr.heap.size wr w2 ∧ BoxN w2 b [.int .i64 (j : Int)] 3 ∧ w2.heap.size = b + 1 ∧ wr.heap.size = b) := by
              rw [← hw2, ← hb]
              exact ⟨below1 _ _, boxN_alloc _ _ _, by simp, rfl⟩
            rw [hw2, hb]
            clear hw2 hb
            obtain ⟨left, hleft⟩ : ∃ left, coreN ls j = left := ⟨_, rfl⟩
            rw [hleft] at HI HS1
            have HLEFT := Lib.hid hleft
            clear hleft
            have hiv : IntsV w2 (.slice ga gn gc) (nI left) := IntsV.own (by rw [intsI_nI]; exact ownsRow_below HI.out.2.1 HW2.out.1) (by rw [nI_len]; exact HI.out.2.2)
            have HCL := Lib.hid (clone_c hiv (by rw [nI_len]; have h1 := HS1.out.2.2; have h2 : ls.length = L := HLL.out; omega))
            clear hiv
            go_wp2_with fail
            refine HCL.out.mono ?_
            rintro e w3 ⟨v3, rfl, ho3⟩
            have hne0 : nI left ≠ [] := fun e => core_ne HS1.out.1 (by
              have h1 := congrArg List.length e
              rw [nI_len] at h1
              exact List.eq_nil_of_length_eq_zero h1)
            have hb3 : b < w3.heap.size := by
              have h1 := ho3.2.size
              have h2 := HW2.out.2.2.1
              omega
            have hcb : w3.cell? ⟨b, 0, none⟩ = some (.int .i64 (j : Int)) := (HW2.out.2.1.below ho3.2).cell (j := 0) rfl
            have hnb : v3.ownBlock ≠ some b := fun e => by
              have h1 := (ho3.1.lt b e).1
              have h2 := HW2.out.2.2.1
              omega
            have HDEL := Lib.hid (del_c (i := (j : Int)) ho3.1 (by rw [nI_len]; have h1 := HS1.out.2.2; have h2 : ls.length = L := HLL.out; omega) hne0 hb3 hnb hcb)
            have HO3 : Hid (Below w2.heap.size w2 w3 ∧ ∀ g, v3.ownBlock = some g → w2.heap.size ≤ g) := ⟨ho3.2, fun g hg => (ho3.1.lt g hg).1⟩
            clear ho3 hne0 hcb hnb HCL
            go_wp2_with fail
            refine HDEL.out.mono ?_
            rintro e w4 ⟨v4, rfl, ho4, hg4, hv4⟩
            rw [nI_filter, intsI_nI, nI_len] at ho4
            obtain ⟨rest, hrest⟩ : ∃ rest, left.filter (· != j) = rest := ⟨_, rfl⟩
            rw [hrest] at ho4
            have HREST := Lib.hid hrest
            obtain ⟨ra, rc, hv⟩ := ownsRow_slice ho4
            subst hv
            obtain ⟨rn, hrn⟩ : ∃ rn, rest.length = rn := ⟨_, rfl⟩
            rw [hrn] at ho4 hv4 ⊢
            have HRN := Lib.hid hrn
            have hbw4 : Below w.heap.size w w4 := by
              have h1 := HI.out.1.trans (below_to HW2.out.1 HI.out.1.size)
              have h2 := h1.trans (below_to HO3.out.1 h1.size)
              exact h2.grown hg4 h2.size (fun g hg => Nat.le_trans h1.size (HO3.out.2 g hg))
            have hleft4 : w4.ownsRow w.heap.size 3 1 (.slice ga gn gc) gn (natsI left) := by
              refine ownsRow_to HI.out.2.1 fun g hg => ?_
              have h1 := (HI.out.2.1.lt g hg).2
              rw [hg4.block g (Nat.lt_of_lt_of_le (Nat.lt_of_lt_of_le h1 HW2.out.1.size) HO3.out.1.size) (fun e => by
                have h2 := HO3.out.2 g e.symm
                have h3 := HW2.out.1.size
                omega), HO3.out.1.block g (Nat.lt_of_lt_of_le h1 HW2.out.1.size), HW2.out.1.block g h1]
            have H4 : Hid (Below w.heap.size w w4 ∧ w4.ownsRow w.heap.size 3 1 (.slice ga gn gc) gn (natsI left) ∧ w4.ownsRow w.heap.size 3 1 (.slice ra rn rc) rn (natsI rest)) := ⟨hbw4, hleft4, ownsRow_base ho4 (Nat.le_trans HI.out.1.size HW2.out.1.size)⟩
            have HRL : Hid ((∀ k ∈ rest, k < L) ∧ rn ≤ L) := by
              have h2 : ls.length = L := HLL.out
              refine ⟨fun k hk => ?_, ?_⟩
              · rw [← hrest] at hk
                have := HS1.out.2.1 k (List.mem_filter.1 hk).1
                omega
              · rw [← hrn, ← hrest]
                have h3 := List.length_filter_le (· != j) left
                have h4 := HS1.out.2.2
                omega
            clear ho4 hg4 hv4 hbw4 hleft4 hrest hrn HDEL HO3 hb3
            have hrnb : rn ≤ 2199023255552 := by have h1 := HRL.out.2; omega
            go_wp2_with fail
            go_loopg [14, 54] rn (fun gk v14 v54 wx => ∃ (m : Nat) (la : Option Addr) (lc : Nat), v14 = .slice la m lc ∧ v54 = .int .i64 (m : Int) ∧ m ≤ rn ∧ rn ≤ m + gk ∧ Hid (Below w4.heap.size w4 wx ∧ wx.ownsRow w4.heap.size 24 1 (.slice la m lc) m ((rest.take m).map f)))
            case atStart => exact ⟨0, none, 0, rfl, rfl, Nat.zero_le _, by omega, Below.refl _ _, World.ownsRow_nil _ _ _ _⟩
            case round =>
              obtain ⟨m, la, lc, rfl, rfl, hm, hfm, HM⟩ := hrel
              by_cases hmr : m < rn
              · have hm1 : (m : Int) < (rn : Int) := by omega
                have hml : m < rest.length := by rw [show rest.length = rn from HRN.out]; exact hmr
                obtain ⟨k, hk⟩ : ∃ k, rest[m] = k := ⟨_, rfl⟩
                have hkL : k < L := HRL.out.1 k (by rw [← hk]; exact List.getElem_mem hml)
                have hkL1 : (k : Int) < (L : Int) := by omega
                obtain ⟨rg, rc', hre, hrrc, _⟩ := (ownsRow_form H4.out.2.2).resolve_left (fun h => by have := h.2; omega)
                obtain ⟨hra, hrcc⟩ : ra = some ⟨rg, 0, none⟩ ∧ rc = rc' := by injection hre with a1 _ a3; exact ⟨a1, a3⟩
                have c0 : wr.cell? ⟨rg, m, none⟩ = some (.int .i64 (k : Int)) := by
                  have h1 := H4.out.2.2
                  rw [hra] at h1
                  exact cell_tr HM.out.1 (ownsRow_cell h1 (by unfold natsI; rw [List.getElem?_map, List.getElem?_eq_getElem hml, hk]; rfl))
                obtain ⟨bb, off, hal, hbl, hcel⟩ := HCELL.out k hkL
                have hbw := H4.out.1.trans (below_to HM.out.1 H4.out.1.size)
                have c1 := cell_tr hbw hcel
                obtain ⟨ck, hck⟩ : ∃ c, ls[k]? = some c := ⟨_, List.getElem?_eq_getElem (by rw [show ls.length = L from HLL.out]; exact hkL)⟩
                obtain ⟨fa, fc, hfk, _, _⟩ := HROWS.out k ck hck
                obtain ⟨fn, hfn⟩ : ∃ fn, ck.length = fn := ⟨_, rfl⟩
                rw [hfn] at hfk
                have HFK := Lib.hid hfk
                rw [hfk] at c1
                subst hal
                obtain ⟨WA, hWA⟩ : ∃ WA, wr.alloc (.cells #[.slice fa fn fc] 24) = WA := ⟨_, rfl⟩
                have HWA : Hid (Below w4.heap.size w4 WA ∧ BoxN WA wr.heap.size [.slice fa fn fc] 24 ∧ WA.ownsRow w4.heap.size 24 1 (.slice la m lc) m ((rest.take m).map f) ∧ w4.heap.size ≤ WA.heap.size) := by
                  rw [← hWA]
                  have hb := HM.out.1.trans (below_to (below1 wr (.cells #[.slice fa fn fc] 24)) HM.out.1.size)
                  exact ⟨hb, boxN_alloc _ _ _, ownsRow_below HM.out.2 (below1 _ _), hb.size⟩
                have HTK : Hid ((rest.take (m + 1)).map f = (rest.take m).map f ++ [.slice fa fn fc]) := by
                  show (rest.take (m + 1)).map f = (rest.take m).map f ++ [.slice fa fn fc]
                  rw [List.take_succ_eq_append_getElem hml, List.map_append, hk, ← HFK.out]
                  rfl
                subst hra
                clear hk hml hre hrcc hcel hbl hbw hck hfn hfk
                go_wp2_with (at_builtin; refine wpList_append_lies _ rfl (.tmp 58) (.tmp 63) 23 rfl w4.heap.size 24 i24 (.slice none 0 0) 1 24 Try.underlying23 hi24 hz240 hz241 hz242 rfl (by decide) (.slice la m lc) m ((rest.take m).map f) rfl HWA.out.2.2.1 ⟨wr.heap.size, 0, none⟩ 1 1 [.slice fa fn fc] rfl rfl (World.news_of_block (cs := #[.slice fa fn fc]) (t := 24) (fr := (0, 0)) HWA.out.2.1) (by simp [Value.oneCell']) (by omega) (by unfold maxLen; omega) (by omega) HWA.out.2.2.2 WA.heap.size rfl ?_; intro g9 cap9 w9 hown9 hgrow9 hat9 hlt9)
                have HN : Hid (Below w4.heap.size w4 w9 ∧ w9.ownsRow w4.heap.size 24 1 (.slice (some ⟨g9, 0, none⟩) (m + 1) cap9) (m + 1) ((rest.take (m + 1)).map f)) := by
                  refine ⟨HWA.out.1.trans (grown_own HWA.out.2.2.1 HWA.out.2.2.2 hgrow9), ?_⟩
                  rw [HTK.out]
                  exact hown9
                clear hown9 hgrow9 hat9 hlt9
                go_roundg (gk - 1)
                case measure => omega
                case rel => exact ⟨m + 1, some ⟨g9, 0, none⟩, cap9, rfl, by go_num, by omega, by omega, HN.out⟩
              · have hmE : m = rn := by omega
                have hbw := H4.out.1.trans (below_to HM.out.1 H4.out.1.size)
                have hsub : (subL ls rest).length = m := by unfold subL; rw [List.length_map, show rest.length = rn from HRN.out, hmE]
                have hRV : RowsV wr (.slice la m lc) (subL ls rest) := by
                  refine RowsV.own HM.out.2 hsub.symm ?_ fun i x l hx hl => ?_
                  · rw [List.length_map, List.take_of_length_le (by rw [show rest.length = rn from HRN.out]; omega), hsub, show rest.length = rn from HRN.out, hmE]
                  · rw [List.take_of_length_le (by rw [show rest.length = rn from HRN.out]; omega), List.getElem?_map] at hx
                    unfold subL at hl
                    rw [List.getElem?_map] at hl
                    cases hr : rest[i]? with
                    | none => rw [hr] at hx; cases hx
                    | some k =>
                      rw [hr] at hx hl
                      simp only [Option.map_some, Option.some.injEq] at hx hl
                      subst hx hl
                      have hk : k < ls.length := by rw [show ls.length = L from HLL.out]; exact HRL.out.1 k (List.mem_of_getElem? hr)
                      refine IntsV.below (HROWS.out k _ ?_) hbw
                      simp [List.getD, List.getElem?_eq_getElem hk]
                have HSV := Lib.hid (solve_c hn hRV (IntsV.nil wr) (by rw [hsub]; omega) (fun c hc => by
                  obtain ⟨k, hk, rfl⟩ := List.mem_map.1 hc
                  have hk2 : k < ls.length := by rw [show ls.length = L from HLL.out]; exact HRL.out.1 k hk
                  have : ls.getD k [] = ls[k] := by simp [List.getD, List.getElem?_eq_getElem hk2]
                  rw [this]
                  exact HLB.out _ (List.getElem_mem hk2)) (Nat.zero_le _) (litsB_sub HOK.out rest) (.inl (by
                  have h1 := HCAP.out
                  have h2 := HRL.out.2
                  have h3 : ls.length = L := HLL.out
                  rw [hsub]
                  omega)))
                have HEQ : Hid (coreN ls (j + 1) = coreS ls left j) := by
                  show coreN ls (j + 1) = coreS ls left j
                  rw [← HLEFT.out]
                  rfl
                have hmE2 := Lib.hid hmE
                have HBW := Lib.hid hbw
                clear hbw hsub hRV hmE
                go_wp2_with fail
                refine HSV.out.mono ?_
                rintro e w5 ⟨hb5, hres⟩
                have H5 : Hid (Below w.heap.size w w5 ∧ w5.ownsRow w.heap.size 3 1 (.slice ga gn gc) gn (natsI left) ∧ w5.ownsRow w.heap.size 3 1 (.slice ra rn rc) rn (natsI rest)) :=
                  ⟨HBW.out.trans (below_to hb5 HBW.out.size), ownsRow_below (ownsRow_below H4.out.2.1 HM.out.1) hb5, ownsRow_below (ownsRow_below H4.out.2.2 HM.out.1) hb5⟩
                clear hb5
                rcases hres with ⟨g, v, rfl, _, _, hbest⟩ | ⟨rfl, hun⟩
                · have HN : Hid (Below w.heap.size w w5 ∧ w5.ownsRow w.heap.size 3 1 (.slice ga gn gc) gn (natsI (coreN ls (j + 1))) ∧ gn = (coreN ls (j + 1)).length) := by
                    have e : coreN ls (j + 1) = left := by
                      rw [HEQ.out]
                      unfold coreS
                      rw [if_neg]
                      intro h
                      unfold unB at h
                      rw [HREST.out] at h
                      have h2 : ∀ v, ¬ sat v (subL ls rest) := by simpa using h
                      exact h2 v hbest.1
                    rw [e]
                    exact ⟨H5.out.1, H5.out.2.1, HI.out.2.2⟩
                  clear hbest
                  go_wp2_with fail
                  go_roundg (gO - 1)
                  case measure => omega
                  case rel => exact ⟨j + 1, ga, gn, gc, rfl, by go_num, by omega, by omega, HN.out⟩
                · have HN : Hid (Below w.heap.size w w5 ∧ w5.ownsRow w.heap.size 3 1 (.slice ra rn rc) rn (natsI (coreN ls (j + 1))) ∧ rn = (coreN ls (j + 1)).length) := by
                    have e : coreN ls (j + 1) = rest := by
                      rw [HEQ.out]
                      unfold coreS
                      rw [HREST.out, if_pos]
                      unfold unB
                      simpa using hun
                    rw [e]
                    exact ⟨H5.out.1, H5.out.2.2, (show rest.length = rn from HRN.out).symm⟩
                  clear hun
                  go_wp2_with fail
                  go_roundg (gO - 1)
                  case measure => omega
                  case rel => exact ⟨j + 1, ra, rn, rc, rfl, by go_num, by omega, by omega, HN.out⟩
          · have HF : Hid (Q (.returned (.tuple #[.slice ga gn gc, .bool true, .int .i64 0])) wr) := by
              rw [← hQ.out]
              have e : j = ls.length := by rw [show ls.length = L from HLL.out]; omega
              have h1 := HI.out
              rw [e] at h1
              refine ⟨HI.out.1, .inr ⟨HUN.out, _, rfl, ?_⟩⟩
              unfold coreF
              rw [← h1.2.2]
              exact h1.2.1
            go_wp2_with fail
            exact bodyPost_ret (v := .tuple #[.slice ga gn gc, .bool true, .int .i64 0]) (by simp [results, Try.results18, go_sem]) rfl HF.out
end Go.Proofs.Ytkeagjphddcjeaa
