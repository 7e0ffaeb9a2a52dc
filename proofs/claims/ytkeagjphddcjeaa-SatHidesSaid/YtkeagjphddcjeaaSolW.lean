/-
  Core of the document. Helper text; the conditions are those typed.
-/
import Derived.Test.YtkeagjphddcjeaaSolV
namespace Go.Proofs.Ytkeagjphddcjeaa
set_option linter.unusedVariables false
set_option linter.unusedSimpArgs false
open Go.RowKit Go.Maps Sat

/-- Of two rows of the call's own one grows, behind a box. -/
theorem pair_grow {w3 wx w9 : World} {e1 e2 : TypeId} {v1 v2 : Value} {n1 n2 : Nat} {xs ys : List Value} {o : Obj} {g : Nat} (hb : Below w3.heap.size w3 wx) (h1 : wx.ownsRow w3.heap.size e1 1 v1 n1 xs) (h2 : wx.ownsRow w3.heap.size e2 1 v2 n2 ys)
    (hd : ∀ g, v1.ownBlock = some g → v2.ownBlock ≠ some g) (hg : (wx.alloc o).grownBy w9 v1.ownBlock) (hat : v1.ownBlock = some g ∨ g = wx.heap.size + 1) :
    Below w3.heap.size w3 w9 ∧ w9.ownsRow w3.heap.size e2 1 v2 n2 ys ∧ v2.ownBlock ≠ some g := by
  have hA : Below w3.heap.size w3 (wx.alloc o) := below_tr hb (below1 _ _)
  have hs : (wx.alloc o).heap.size = wx.heap.size + 1 := by simp
  refine ⟨hA.trans (grown_own (ownsRow_below h1 (below1 _ _)) hA.size hg), ownsRow_to h2 fun b hb2 => ?_, ?_⟩
  · have h3 := (h2.lt b hb2).2
    rw [hg.block b (by omega) (fun e => hd b e.symm hb2), (below1 wx o).block b h3]
  · rcases hat with h | h
    · exact hd g h
    · intro e
      have h3 := (h2.lt g e).2
      omega
/-- What has been picked so far: places, and the clauses there. -/
def Pick (w3 : World) (f : Nat → Value) (vp vl : Value) (n : Nat) (r : List Nat) (wx : World) : Prop :=
  n = r.length ∧ Below w3.heap.size w3 wx ∧ wx.ownsRow w3.heap.size 3 1 vp n (natsI r) ∧ wx.ownsRow w3.heap.size 24 1 vl n (r.map f) ∧ ∀ g, vp.ownBlock = some g → vl.ownBlock ≠ some g
theorem Pick.nil (w3 : World) (f : Nat → Value) : Pick w3 f (.slice none 0 0) (.slice none 0 0) 0 [] w3 := ⟨rfl, Below.refl _ _, World.ownsRow_nil _ _ _ _, World.ownsRow_nil _ _ _ _, fun g h => by cases h⟩
/-- Places have one more. -/
def Pick1 (w3 : World) (f : Nat → Value) (vp vl : Value) (n : Nat) (r : List Nat) (k : Nat) (wx : World) : Prop :=
  n = r.length ∧ Below w3.heap.size w3 wx ∧ wx.ownsRow w3.heap.size 3 1 vp (n + 1) (natsI (r ++ [k])) ∧ wx.ownsRow w3.heap.size 24 1 vl n (r.map f) ∧ ∀ g, vl.ownBlock = some g → vp.ownBlock ≠ some g
theorem Pick.one {w3 wx w9 : World} {f : Nat → Value} {vp vl : Value} {n : Nat} {r : List Nat} {k : Nat} {o : Obj} {g cap : Nat} (h : Pick w3 f vp vl n r wx) (hown : w9.ownsRow w3.heap.size 3 1 (.slice (some ⟨g, 0, none⟩) (n + 1) cap) (n + 1) (natsI r ++ [.int .i64 (k : Int)])) (hg : (wx.alloc o).grownBy w9 vp.ownBlock) (hat : vp.ownBlock = some g ∨ g = wx.heap.size + 1) :
    Pick1 w3 f (.slice (some ⟨g, 0, none⟩) (n + 1) cap) vl n r k w9 := by
  obtain ⟨h0, hb, h1, h2, hd⟩ := h
  obtain ⟨k1, k2, k3⟩ := pair_grow hb h1 h2 hd hg hat
  refine ⟨h0, k1, by rw [natsI_snoc]; exact hown, k2, fun g' hg' e => ?_⟩
  cases e
  exact k3 hg'
theorem Pick1.two {w3 wx w9 : World} {f : Nat → Value} {vp vl : Value} {n : Nat} {r : List Nat} {k : Nat} {o : Obj} {g cap : Nat} (h : Pick1 w3 f vp vl n r k wx) (hown : w9.ownsRow w3.heap.size 24 1 (.slice (some ⟨g, 0, none⟩) (n + 1) cap) (n + 1) (r.map f ++ [f k])) (hg : (wx.alloc o).grownBy w9 vl.ownBlock) (hat : vl.ownBlock = some g ∨ g = wx.heap.size + 1) :
    Pick w3 f vp (.slice (some ⟨g, 0, none⟩) (n + 1) cap) (n + 1) (r ++ [k]) w9 := by
  obtain ⟨h0, hb, h1, h2, hd⟩ := h
  obtain ⟨k1, k2, k3⟩ := pair_grow hb h2 h1 hd hg hat
  refine ⟨by rw [List.length_append, List.length_singleton, h0], k1, k2, by rw [List.map_append]; exact hown, fun g' hg' e => ?_⟩
  cases e
  exact k3 hg'
theorem Pick1.second {w3 wx : World} {f : Nat → Value} {vp vl : Value} {n : Nat} {r : List Nat} {k : Nat} (h : Pick1 w3 f vp vl n r k wx) (o : Obj) : (wx.alloc o).ownsRow w3.heap.size 24 1 vl n (r.map f) ∧ w3.heap.size ≤ (wx.alloc o).heap.size ∧ (wx.alloc o).heap.size = wx.heap.size + 1 :=
  ⟨ownsRow_below h.2.2.2.1 (below1 _ _), (below_tr h.2.1 (below1 _ _)).size, by simp⟩
theorem filter_snoc {p : Nat → Bool} {l : List Nat} {k x : Nat} (h : l[k]? = some x) : (l.take (k + 1)).filter p = (l.take k).filter p ++ (if p x then [x] else []) := by
  have hi := (List.getElem?_eq_some_iff.1 h).1
  rw [List.take_succ_eq_append_getElem hi, List.filter_append, (List.getElem?_eq_some_iff.1 h).2]
  congr 1
  by_cases hp : p x = true
  · simp [List.filter, hp]
  · simp [List.filter, hp]
theorem news1 {w : World} {x : Value} {t : TypeId} : ∀ j u, [x][j]? = some u → (w.alloc (.cells #[x] t)).cell? ((⟨w.heap.size, 0, none⟩ : Addr).add j) = some u := World.news_of_block (cs := #[x]) (t := t) (fr := (0, 0)) (boxN_alloc w [x] t)
def RefCorePost (w : World) (n : Nat) (ls : List Cl) (e : Ending) (w' : World) : Prop :=
  Below w.heap.size w w' ∧ (((∃ v, sat v ls) ∧ e = .returned (.tuple #[.slice none 0 0, .bool false])) ∨ ((∀ v, ¬ sat v ls) ∧ ∃ vv, e = .returned (.tuple #[vv, .bool true]) ∧ w'.ownsRow w.heap.size 3 1 vv (coreF ls).length (natsI (coreF ls))))

set_option maxHeartbeats 8000000 in
set_option maxRecDepth 100000 in
theorem refcore_c {n : Nat} (hn : n ≤ 10) {vl : Value} {ls : List (List Int)} {w : World} (hl : RowsV w vl ls) (hlen : ls.length ≤ 2199023255552) (hlb : ∀ c ∈ ls, c.length ≤ 17592186044416) (hok : litsB n ls [] = true) :
    Calls Try.prog 19 #[.int .i64 (n : Int), vl] w (RefCorePost w n ls) := by
  obtain ⟨Q, hQ⟩ : ∃ Q, RefCorePost w n ls = Q := ⟨_, rfl⟩
  rw [hQ]
  replace hQ := Lib.hid hQ
  have HSOLVE := Lib.hid (refsolve_c hn hl (by omega) (fun c hc => Nat.le_trans (hlb c hc) (by omega)) (IntsV.nil w) (Nat.zero_le _) hok)
  have HLB := Lib.hid hlb
  have HOK := Lib.hid hok
  obtain ⟨al, cl, f, hvl, hcl, hcell, hrows⟩ := hl
  subst hvl
  have HROWS := Lib.hid hrows
  obtain ⟨L, hLL⟩ : ∃ L, ls.length = L := ⟨_, rfl⟩
  have HCELL : Hid (∀ i, i < L → ∃ b off, al = some ⟨b, off, none⟩ ∧ b < w.heap.size ∧ w.cell? ⟨b, off + i, none⟩ = some (f i)) := fun i hi => by
    rcases hcell with h | ⟨b, off, h1, h2, h3⟩
    · rw [← hLL, h] at hi; cases hi
    · exact ⟨b, off, h1, h2, h3 i (by rw [hLL]; exact hi)⟩
  rw [hLL] at hcl HSOLVE ⊢
  have hLb : L ≤ 2199023255552 := by omega
  have HLL := Lib.hid hLL
  obtain ⟨i3, hi3, hz30, hz31, hz32⟩ := info_parts info3
  obtain ⟨i24, hi24, hz240, hz241, hz242⟩ := info_parts info24
  clear hrows hcell hLL hlen hlb hok
  go_enter Try.func19, Try.ntmps19
  go_wp2_with fail
  refine HSOLVE.out.mono ?_
  rintro e w1 ⟨hb1, v1, ok, rfl, hres⟩
  have HB1 : Hid (Below w.heap.size w w1) := hb1
  clear hb1 HSOLVE
  rcases hres with ⟨rfl, x, _, hbest⟩ | ⟨rfl, rfl, hun⟩
  · have HF : Hid (Q (.returned (.tuple #[.slice none 0 0, .bool false])) w1) := by
      rw [← hQ.out]
      exact ⟨HB1.out, .inl ⟨⟨x, hbest.1⟩, rfl⟩⟩
    clear hbest
    go_wp2_with fail
    exact HF.out
  · have HUN := Lib.hid hun
    clear hun
    go_wp2_with fail
    go_loopg [8, 9] L (fun gk v8 v9 wx => ∃ (i : Nat) (ga : Option Addr) (gc : Nat), v8 = .slice ga i gc ∧ v9 = .int .i64 (i : Int) ∧ i ≤ L ∧ L ≤ i + gk ∧ Hid (Below w1.heap.size w1 wx ∧ wx.ownsRow w1.heap.size 3 1 (.slice ga i gc) i (natsI (List.range i))))
    case atStart => exact ⟨0, none, 0, rfl, rfl, Nat.zero_le _, by omega, Below.refl _ _, World.ownsRow_nil _ _ _ _⟩
    case round =>
      obtain ⟨i, ga, gc, rfl, rfl, hiL, hfi, HI⟩ := hrel
      by_cases hi : i < L
      · have hi1 : (i : Int) < (L : Int) := by omega
        obtain ⟨WA, hWA⟩ : ∃ WA, wr.alloc (.cells #[.int .i64 (i : Int)] 3) = WA := ⟨_, rfl⟩
        have HWA : Hid (Below w1.heap.size w1 WA ∧ BoxN WA wr.heap.size [.int .i64 (i : Int)] 3 ∧ WA.ownsRow w1.heap.size 3 1 (.slice ga i gc) i (natsI (List.range i)) ∧ w1.heap.size ≤ WA.heap.size) := by
          rw [← hWA]
          have hb := HI.out.1.trans (below_to (below1 wr (.cells #[.int .i64 (i : Int)] 3)) HI.out.1.size)
          exact ⟨hb, boxN_alloc _ _ _, ownsRow_below HI.out.2 (below1 _ _), hb.size⟩
        go_wp2_with (at_builtin; refine wpList_append_lies _ rfl (.tmp 29) (.tmp 31) 24 rfl w1.heap.size 3 i3 (.int .i64 0) 1 8 Try.underlying24 hi3 hz30 hz31 hz32 rfl (by decide) (.slice ga i gc) i (natsI (List.range i)) rfl HWA.out.2.2.1 ⟨wr.heap.size, 0, none⟩ 1 1 [.int .i64 (i : Int)] rfl rfl (World.news_of_block (cs := #[.int .i64 (i : Int)]) (t := 3) (fr := (0, 0)) HWA.out.2.1) (by simp [Value.oneCell']) (by omega) (by unfold maxLen; omega) (by omega) HWA.out.2.2.2 WA.heap.size rfl ?_; intro g9 cap9 w9 hown9 hgrow9 hat9 hlt9)
        have HN : Hid (Below w1.heap.size w1 w9 ∧ w9.ownsRow w1.heap.size 3 1 (.slice (some ⟨g9, 0, none⟩) (i + 1) cap9) (i + 1) (natsI (List.range (i + 1)))) := by
          refine ⟨HWA.out.1.trans (grown_own HWA.out.2.2.1 HWA.out.2.2.2 hgrow9), ?_⟩
          rw [List.range_succ, natsI_snoc]
          exact hown9
        clear hown9 hgrow9 hat9 hlt9
        go_roundg (gk - 1)
        case measure => omega
        case rel => exact ⟨i + 1, some ⟨g9, 0, none⟩, cap9, rfl, by go_num, by omega, by omega, HN.out⟩
      · have hiE : i = L := by omega
        have H0 : Hid (Below w.heap.size w wr ∧ wr.ownsRow w.heap.size 3 1 (.slice ga i gc) i (natsI (coreN ls 0)) ∧ i = (coreN ls 0).length) := by
          have e : coreN ls 0 = List.range i := by
            unfold coreN
            rw [show ls.length = L from HLL.out, hiE]
          rw [e]
          exact ⟨HB1.out.trans (below_to HI.out.1 HB1.out.size), ownsRow_base HI.out.2 HB1.out.size, by simp⟩
        have hiE3 := hiE.symm
        clear hiE
        subst hiE3
        clear HI
        go_wp2_with fail
        go_loopg [8, 10] L (fun gk v8 v10 wx => ∃ (j : Nat) (ga : Option Addr) (gn gc : Nat), v8 = .slice ga gn gc ∧ v10 = .int .i64 (j : Int) ∧ j ≤ L ∧ L ≤ j + gk ∧ Hid (Below w.heap.size w wx ∧ wx.ownsRow w.heap.size 3 1 (.slice ga gn gc) gn (natsI (coreN ls j)) ∧ gn = (coreN ls j).length))
        case atStart => exact ⟨0, ga, L, gc, rfl, rfl, Nat.zero_le _, by omega, H0.out⟩
        case round =>
          clear H0
          obtain ⟨gO, rfl⟩ : ∃ x : Nat, x = gk := ⟨_, rfl⟩
          obtain ⟨j, ga, gn, gc, rfl, rfl, hjL, hfj, HI⟩ := hrel
          obtain ⟨w3, hw3⟩ : ∃ w3, wr = w3 := ⟨_, rfl⟩
          rw [hw3] at HI ⊢
          clear hw3
          by_cases hj : j < L
          · have hj1 : (j : Int) < (L : Int) := by omega
            obtain ⟨hs1, hs2, hs3⟩ := coreN_spec HUN.out j
            have HS1 : Hid ((∀ v, ¬ sat v (subL ls (coreN ls j))) ∧ (∀ k ∈ coreN ls j, k < ls.length) ∧ (coreN ls j).length ≤ ls.length) := ⟨hs1, hs2, hs3⟩
            clear hs1 hs2 hs3
            have HEQ : Hid (coreN ls (j + 1) = coreS ls (coreN ls j) j) := rfl
            obtain ⟨left, hleft⟩ : ∃ left, coreN ls j = left := ⟨_, rfl⟩
            rw [hleft] at HI HS1 HEQ
            clear hleft
            have hgnb : gn ≤ 2199023255552 := by
              have h1 := HI.out.2.2
              have h2 := HS1.out.2.2
              have h3 : ls.length = L := HLL.out
              omega
            go_wp2_with fail
            go_loopg [11, 12, 13] gn (fun gk v11 v12 v13 wx => ∃ (k m : Nat) (pa la : Option Addr) (pc lc : Nat), v11 = .slice pa m pc ∧ v12 = .slice la m lc ∧ v13 = .int .i64 (k : Int) ∧ k ≤ gn ∧ gn ≤ k + gk ∧ m ≤ k ∧ Hid (Pick w3 f (.slice pa m pc) (.slice la m lc) m ((left.take k).filter (· != j)) wx))
            case atStart => exact ⟨0, 0, none, none, 0, 0, rfl, rfl, rfl, Nat.zero_le _, by omega, Nat.le_refl _, Pick.nil _ _⟩
            case round =>
              obtain ⟨gJ, rfl⟩ : ∃ x : Nat, x = gk := ⟨_, rfl⟩
              obtain ⟨k, m, pa, la, pc, lc, rfl, rfl, rfl, hkn, hkk, hmk, HP⟩ := hrel
              by_cases hk : k < gn
              · have hk1 : (k : Int) < (gn : Int) := by omega
                have hkl : k < left.length := by
                  have h1 : gn = left.length := HI.out.2.2
                  omega
                obtain ⟨q, hq⟩ : ∃ q, left[k]? = some q := ⟨_, List.getElem?_eq_getElem hkl⟩
                have hqL : q < L := by
                  rw [← show ls.length = L from HLL.out]
                  exact HS1.out.2.1 q (List.mem_of_getElem? hq)
                have hqL1 : (q : Int) < (L : Int) := by omega
                obtain ⟨rg, rc', hre, _, _⟩ := (ownsRow_form HI.out.2.1).resolve_left (fun h => by have := h.2; omega)
                obtain ⟨hra, hrcc⟩ : ga = some ⟨rg, 0, none⟩ ∧ gc = rc' := by injection hre with a1 _ a3; exact ⟨a1, a3⟩
                have HC0 : Hid (w3.cell? ⟨rg, k, none⟩ = some (.int .i64 (q : Int))) := by
                  have h1 := HI.out.2.1
                  rw [hra] at h1
                  exact ownsRow_cell h1 (by unfold natsI; rw [List.getElem?_map, hq]; rfl)
                have c0 : wr.cell? ⟨rg, k, none⟩ = some (.int .i64 (q : Int)) := cell_tr HP.out.2.1 HC0.out
                have HFS := Lib.hid (filter_snoc (p := (· != j)) hq)
                subst hra
                clear hre hrcc hkl hq
                by_cases hqj : q = j
                · have e1 : ((q : Int) == (j : Int)) = true := by simp [hqj]
                  have HP2 : Hid (Pick w3 f (.slice pa m pc) (.slice la m lc) m ((left.take (k + 1)).filter (· != j)) wr) := by
                    have h1 := HFS.out
                    rw [show (q != j) = false from by simp [hqj]] at h1
                    rw [h1]
                    simp only [Bool.false_eq_true, if_false, List.append_nil]
                    exact HP.out
                  clear hqj HFS
                  go_wp2_with fail
                  go_roundg (gJ - 1)
                  case measure => omega
                  case rel => exact ⟨k + 1, m, pa, la, pc, lc, rfl, rfl, by go_num, by omega, by omega, by omega, HP2.out⟩
                · have e1 : ((q : Int) == (j : Int)) = false := by
                    rw [beq_eq_false_iff_ne]
                    omega
                  have HFS2 : Hid ((left.take (k + 1)).filter (· != j) = (left.take k).filter (· != j) ++ [q]) := by
                    have h1 := HFS.out
                    rw [show (q != j) = true from by simp [hqj]] at h1
                    exact h1
                  obtain ⟨bb, off, hal, hbl, hcel⟩ := HCELL.out q hqL
                  have HBW : Hid (Below w.heap.size w wr) := below_tr HI.out.1 HP.out.2.1
                  obtain ⟨ck, hck⟩ : ∃ c, ls[q]? = some c := ⟨_, List.getElem?_eq_getElem (by rw [show ls.length = L from HLL.out]; exact hqL)⟩
                  obtain ⟨fa, fc, hfk, _, _⟩ := HROWS.out q ck hck
                  obtain ⟨fn, hfn⟩ : ∃ fn, ck.length = fn := ⟨_, rfl⟩
                  rw [hfn] at hfk
                  have HFK := Lib.hid hfk
                  rw [hfk] at hcel
                  have HCEL := Lib.hid hcel
                  subst hal
                  have HR1 : Hid ((wr.alloc (.cells #[.int .i64 (q : Int)] 3)).ownsRow w3.heap.size 3 1 (.slice pa m pc) m (natsI ((left.take k).filter (· != j))) ∧ w3.heap.size ≤ (wr.alloc (.cells #[.int .i64 (q : Int)] 3)).heap.size) := ⟨ownsRow_below HP.out.2.2.1 (below1 _ _), (below_tr HP.out.2.1 (below1 _ _)).size⟩
                  have HN1 := Lib.hid (news1 (w := wr) (x := .int .i64 (q : Int)) (t := 3))
                  have HSZ : Hid ((wr.alloc (.cells #[.int .i64 (q : Int)] 3)).heap.size = wr.heap.size + 1) := by
                    show (wr.alloc (.cells #[.int .i64 (q : Int)] 3)).heap.size = wr.heap.size + 1
                    simp
                  clear hqj HFS hcel hbl hck hfn hfk
                  go_wp2_with (at_builtin; first
                    | (refine wpList_append_lies _ rfl (.tmp 51) (.tmp 56) 24 rfl w3.heap.size 3 i3 (.int .i64 0) 1 8 Try.underlying24 hi3 hz30 hz31 hz32 rfl (by decide) (.slice pa m pc) m (natsI ((left.take k).filter (· != j))) rfl HR1.out.1 ⟨wr.heap.size, 0, none⟩ 1 1 [.int .i64 (q : Int)] rfl rfl HN1.out (by simp [Value.oneCell']) (by omega) (by unfold maxLen; omega) (by omega) HR1.out.2 (wr.heap.size + 1) HSZ.out ?_; intro g9 cap9 w9 hown9 hgrow9 hat9 hlt9; have HP1 := Lib.hid (HP.out.one hown9 hgrow9 hat9); clear hown9 hgrow9 hat9 hlt9; have c2 := cell_tr HP1.out.2.1 HC0.out; have c3 := cell_tr (below_tr HI.out.1 HP1.out.2.1) HCEL.out; have HR2 := Lib.hid (HP1.out.second (.cells #[.slice fa fn fc] 24)); have HN2 := Lib.hid (news1 (w := w9) (x := .slice fa fn fc) (t := 24)))
                    | (refine wpList_append_lies _ rfl (.tmp 58) (.tmp 66) 23 rfl w3.heap.size 24 i24 (.slice none 0 0) 1 24 Try.underlying23 hi24 hz240 hz241 hz242 rfl (by decide) (.slice la m lc) m (((left.take k).filter (· != j)).map f) rfl HR2.out.1 ⟨w9.heap.size, 0, none⟩ 1 1 [.slice fa fn fc] rfl rfl HN2.out (by simp [Value.oneCell']) (by omega) (by unfold maxLen; omega) (by omega) HR2.out.2.1 (w9.heap.size + 1) HR2.out.2.2 ?_; intro g10 cap10 w10 hown10 hgrow10 hat10 hlt10; rw [← HFK.out] at hown10; have HP2 := Lib.hid (HP1.out.two hown10 hgrow10 hat10); clear hown10 hgrow10 hat10 hlt10))
                  go_roundg (gJ - 1)
                  case measure => omega
                  case rel => exact ⟨k + 1, m + 1, some ⟨g9, 0, none⟩, some ⟨g10, 0, none⟩, cap9, cap10, rfl, rfl, by go_num, by omega, by omega, by omega, by
                    rw [HFS2.out]
                    exact HP2.out⟩
              · have hkE : k = gn := by omega
                obtain ⟨rest, hrest⟩ : ∃ rest, left.filter (· != j) = rest := ⟨_, rfl⟩
                have HREST := Lib.hid hrest
                have HPK : Hid (Pick w3 f (.slice pa m pc) (.slice la m lc) m rest wr) := by
                  have h1 := HP.out
                  rw [List.take_of_length_le (by have h2 : gn = left.length := HI.out.2.2; omega), hrest] at h1
                  exact h1
                have HRL : Hid ((∀ k ∈ rest, k < L) ∧ m ≤ L) := by
                  have h2 : ls.length = L := HLL.out
                  refine ⟨fun k hk => ?_, ?_⟩
                  · rw [← hrest] at hk
                    have := HS1.out.2.1 k (List.mem_filter.1 hk).1
                    omega
                  · rw [HPK.out.1, ← hrest]
                    have h3 := List.length_filter_le (· != j) left
                    have h4 := HS1.out.2.2
                    omega
                have HBW : Hid (Below w.heap.size w wr) := below_tr HI.out.1 HPK.out.2.1
                have hsub : (subL ls rest).length = m := by unfold subL; rw [List.length_map, HPK.out.1]
                have hRV : RowsV wr (.slice la m lc) (subL ls rest) := by
                  refine RowsV.own HPK.out.2.2.2.1 hsub.symm ?_ fun i x l hx hl => ?_
                  · rw [List.length_map, hsub, HPK.out.1]
                  · rw [List.getElem?_map] at hx
                    unfold subL at hl
                    rw [List.getElem?_map] at hl
                    cases hr : rest[i]? with
                    | none => rw [hr] at hx; cases hx
                    | some k =>
                      rw [hr] at hx hl
                      simp only [Option.map_some, Option.some.injEq] at hx hl
                      subst hx hl
                      have hk : k < ls.length := by rw [show ls.length = L from HLL.out]; exact HRL.out.1 k (List.mem_of_getElem? hr)
                      refine IntsV.below (HROWS.out k _ ?_) HBW.out
                      simp [List.getD, List.getElem?_eq_getElem hk]
                have HSV := Lib.hid (refsolve_c hn hRV (by rw [hsub]; have := HRL.out.2; omega) (fun c hc => by
                  obtain ⟨k, hk, rfl⟩ := List.mem_map.1 hc
                  have hk2 : k < ls.length := by rw [show ls.length = L from HLL.out]; exact HRL.out.1 k hk
                  have : ls.getD k [] = ls[k] := by simp [List.getD, List.getElem?_eq_getElem hk2]
                  rw [this]
                  exact Nat.le_trans (HLB.out _ (List.getElem_mem hk2)) (by omega)) (IntsV.nil wr) (Nat.zero_le _) (litsB_sub HOK.out rest))
                have hk1 : ¬ (k : Int) < (gn : Int) := by omega
                clear hsub hRV hrest hkE HP
                go_wp2_with fail
                refine HSV.out.mono ?_
                rintro e w5 ⟨hb5, v5, ok, rfl, hres⟩
                have H5 : Hid (Below w.heap.size w w5 ∧ w5.ownsRow w.heap.size 3 1 (.slice ga gn gc) gn (natsI left) ∧ w5.ownsRow w.heap.size 3 1 (.slice pa m pc) m (natsI rest)) :=
                  ⟨below_tr HBW.out hb5, ownsRow_below HI.out.2.1 (below_tr HPK.out.2.1 hb5), ownsRow_base (ownsRow_below HPK.out.2.2.1 hb5) HI.out.1.size⟩
                clear hb5 HSV
                rcases hres with ⟨rfl, x, _, hbest⟩ | ⟨rfl, rfl, hun⟩
                · have HN : Hid (Below w.heap.size w w5 ∧ w5.ownsRow w.heap.size 3 1 (.slice ga gn gc) gn (natsI (coreN ls (j + 1))) ∧ gn = (coreN ls (j + 1)).length) := by
                    have e : coreN ls (j + 1) = left := by
                      rw [HEQ.out]
                      unfold coreS
                      rw [if_neg]
                      intro h
                      unfold unB at h
                      rw [HREST.out] at h
                      have h2 : ∀ v, ¬ sat v (subL ls rest) := by simpa using h
                      exact h2 x hbest.1
                    rw [e]
                    exact ⟨H5.out.1, H5.out.2.1, HI.out.2.2⟩
                  clear hbest
                  go_wp2_with fail
                  go_roundg (gO - 1)
                  case measure => omega
                  case rel => exact ⟨j + 1, ga, gn, gc, rfl, by go_num, by omega, by omega, HN.out⟩
                · have HN : Hid (Below w.heap.size w w5 ∧ w5.ownsRow w.heap.size 3 1 (.slice pa m pc) m (natsI (coreN ls (j + 1))) ∧ m = (coreN ls (j + 1)).length) := by
                    have e : coreN ls (j + 1) = rest := by
                      rw [HEQ.out]
                      unfold coreS
                      rw [HREST.out, if_pos]
                      unfold unB
                      simpa using hun
                    rw [e]
                    exact ⟨H5.out.1, H5.out.2.2, HPK.out.1⟩
                  clear hun
                  go_wp2_with fail
                  go_roundg (gO - 1)
                  case measure => omega
                  case rel => exact ⟨j + 1, pa, m, pc, rfl, by go_num, by omega, by omega, HN.out⟩
          · have HF : Hid (Q (.returned (.tuple #[.slice ga gn gc, .bool true])) w3) := by
              rw [← hQ.out]
              have e : j = ls.length := by rw [show ls.length = L from HLL.out]; omega
              have h1 := HI.out
              rw [e] at h1
              refine ⟨HI.out.1, .inr ⟨HUN.out, _, rfl, ?_⟩⟩
              unfold coreF
              rw [← h1.2.2]
              exact h1.2.1
            go_wp2_with fail
            exact HF.out
end Go.Proofs.Ytkeagjphddcjeaa
