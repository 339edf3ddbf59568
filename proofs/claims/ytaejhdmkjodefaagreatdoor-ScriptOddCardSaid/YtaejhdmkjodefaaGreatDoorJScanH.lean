/- scan.number. scan.push, scan.object: the stack. -/
import Derived.Test.YtaejhdmkjodefaaGreatDoorJScan
import Derived.Deep.DeepCutAuto
set_option linter.unusedSimpArgs false
set_option linter.unusedVariables false
namespace Go.Proofs.Lw
open Go Go.RowKit

def DigE (s : ByteArray) (k : Nat) : Nat × Bool := (digS s k, decide (k < digS s k))
def exp2 (s : ByteArray) (k : Nat) : Nat × Bool := if nxt s (k + 1) = 43 ∨ nxt s (k + 1) = 45 then DigE s (k + 2) else DigE s (k + 1)
def expS (s : ByteArray) (k : Nat) : Nat × Bool := if nxt s k = 101 ∨ nxt s k = 69 then exp2 s k else (k, true)
def fracS (s : ByteArray) (k : Nat) : Nat × Bool :=
  if nxt s k = 46 then (if k + 1 < digS s (k + 1) then expS s (digS s (k + 1)) else (digS s (k + 1), false)) else expS s k
def intS (s : ByteArray) (k : Nat) : Nat × Bool :=
  if nxt s k = 48 then fracS s (k + 1) else if k < digS s k then fracS s (digS s k) else (digS s k, false)
/-- where a number ends -/
def numS (s : ByteArray) (k : Nat) : Nat × Bool := if nxt s k = 45 then intS s (k + 1) else intS s k

/-- next, whatever the world -/
theorem next_any (g : Nat) (s : ByteArray) (k : Nat) (v : Value) (depth most : Nat) (w w0 : World) (h : ScanB w g s k v depth most ∧ Onl g w0 w) (hs : s.size ≤ 1073741824) :
    Calls Tryz.prog 115 #[.pointer (some ⟨g, 0, none⟩)] w fun e w' => e = .returned (.int .u8 (nxt s k : Nat)) ∧ Hid (ScanB w' g s k v depth most ∧ Onl g w0 w') ∧ (w'.cell? ⟨g, 0, none⟩ = some (.string s) ∧ w'.cell? ⟨g, 1, none⟩ = some (.int .i64 (k : Nat)) ∧ (∀ i, w'.frozen? ⟨g, i, none⟩ = false)) :=
  (next_call g s k v depth most w h.1 hs).mono fun e w' ⟨a, q, b⟩ => by
    subst b
    have h2 : ScanB (w.drewN q) g s k v depth most := Blk.drewN h.1 q
    exact ⟨a, Lib.hid ⟨h2, h.2.trans (Onl.of_ext (Ext.drewN w q))⟩, h2.facts⟩
theorem digits_any (g : Nat) (s : ByteArray) (k : Nat) (v : Value) (depth most : Nat) (w w0 : World) (h : ScanB w g s k v depth most ∧ Onl g w0 w) (hs : s.size ≤ 1073741824) (hk : k ≤ s.size) :
    Calls Tryz.prog 219 #[.pointer (some ⟨g, 0, none⟩)] w fun e w' => e = .returned (.bool (decide (k < digS s k))) ∧ Hid (ScanB w' g s (digS s k) v depth most ∧ Onl g w0 w') ∧ digS s k ≤ s.size ∧ (w'.cell? ⟨g, 0, none⟩ = some (.string s) ∧ w'.cell? ⟨g, 1, none⟩ = some (.int .i64 (digS s k : Nat)) ∧ (∀ i, w'.frozen? ⟨g, i, none⟩ = false)) :=
  (digits_call g s k v depth most w h.1 hs hk).mono fun _ _ ⟨a, b, c, d⟩ => ⟨a, Lib.hid ⟨b, h.2.trans c⟩, d, b.facts⟩
theorem scan_inc {g : Nat} {s : ByteArray} {k : Nat} {v : Value} {depth most : Nat} {w w0 : World} (h : ScanB w g s k v depth most ∧ Onl g w0 w) :
    ScanB (w.setCell ⟨g, 1, none⟩ (.int .i64 ((k : Int) + 1))) g s (k + 1) v depth most ∧ Onl g w0 (w.setCell ⟨g, 1, none⟩ (.int .i64 ((k : Int) + 1))) := ⟨ScanB.inc h.1, h.2.inc _⟩
/-- at a cut: the scan stands at k', and what is wanted is told by that -/
def AtS (g : Nat) (s : ByteArray) (v : Value) (depth most : Nat) (T : Nat × Bool) (F : Nat → Nat × Bool) (w0 w : World) : Prop :=
  ∃ k : Nat, k ≤ s.size ∧ T = F k ∧ ScanB w g s k v depth most ∧ Onl g w0 w
set_option maxHeartbeats 2000000 in
set_option maxRecDepth 100000 in
theorem snumber_call (g : Nat) (s : ByteArray) (k : Nat) (v : Value) (depth most : Nat) (w : World) (h : ScanB w g s k v depth most) (hs : s.size ≤ 1073741824) (hk : k ≤ s.size) :
    Calls Tryz.prog 163 #[.pointer (some ⟨g, 0, none⟩)] w fun e w' => e = .returned (.bool (numS s k).2) ∧ ScanB w' g s (numS s k).1 v depth most ∧ Onl g w w' ∧ (numS s k).1 ≤ s.size := by
  have H := Lib.hid (⟨h, Onl.refl g w⟩ : ScanB w g s k v depth most ∧ Onl g w w)
  obtain ⟨hc0, hc1, hfz⟩ := h.facts
  clear h
  have HE : Hid (numS s k = if nxt s k = 45 then intS s (k + 1) else intS s k) := Lib.hid rfl
  have HNe := Lib.hid (fun k W h => next_any g s k v depth most W w h hs)
  have HDi := Lib.hid (fun k W h hk => digits_any g s k v depth most W w h hs hk)
  generalize numS s k = T at *
  have HLT := Lib.hid (fun j => @nxt_lt s j)
  go_enter Tryz.func163, Tryz.ntmps163
  go_upto_if 7 with (go_at_call 115; (with_reducible refine (HNe.out _ _ H.out).mono ?_); rintro e w1 ⟨rfl, h1, hc0', hc1', hfz'⟩)
  go_cut [] (fun wc => AtS g s v depth most T (intS s) w wc)
  case first =>
    have hl1 := HLT.out k
    generalize nxt s k = x at *
    by_cases hx : x = 45
    · subst hx
      rw [if_pos rfl] at HE
      have hlt := hl1 (by decide)
      go_wp2_with fail
      go_meet
      exact ⟨k + 1, hlt, HE.out, scan_inc h1.out⟩
    · rw [if_neg hx] at HE
      have q : ((x : Int) == 45) = false := by rw [beq_eq_false_iff_ne]; omega
      go_wp2_with fail
      go_meet
      exact ⟨k, hk, HE.out, h1.out⟩
  case rest =>
    obtain ⟨k1, hk1, hT, h1⟩ := hcut
    clear HE hc0 hc1 hfz H
    have HE := Lib.hid (show T = if nxt s k1 = 48 then fracS s (k1 + 1) else if k1 < digS s k1 then fracS s (digS s k1) else (digS s k1, false) from hT)
    have H1 := Lib.hid h1
    obtain ⟨hc0, hc1, hfz⟩ := h1.1.facts
    clear h1 hT
    go_upto_if 17 with (go_at_call 115; (with_reducible refine (HNe.out _ _ H1.out).mono ?_); rintro e w2 ⟨rfl, h2, hc0', hc1', hfz'⟩)
    go_cut [] (fun wc => AtS g s v depth most T (fracS s) w wc)
    case first =>
      have hl1 := HLT.out k1
      generalize nxt s k1 = x at *
      by_cases hx : x = 48
      · subst hx
        rw [if_pos rfl] at HE
        have hlt := hl1 (by decide)
        go_wp2_with fail
        go_meet
        exact ⟨k1 + 1, hlt, HE.out, scan_inc h2.out⟩
      · rw [if_neg hx] at HE
        have q : ((x : Int) == 48) = false := by rw [beq_eq_false_iff_ne]; omega
        have HD := Lib.hid (HDi.out k1 _ h2.out hk1)
        generalize digS s k1 = kd at *
        by_cases hd : k1 < kd
        · rw [if_pos hd] at HE
          go_wp2_with (go_at_call 219; refine HD.out.mono ?_; rintro e w3 ⟨rfl, h3, hk3, hc0'', hc1'', hfz''⟩)
          go_meet
          exact ⟨kd, hk3, HE.out, h3.out⟩
        · rw [if_neg hd] at HE
          go_wp2_with (go_at_call 219; refine HD.out.mono ?_; rintro e w3 ⟨rfl, h3, hk3, hc0'', hc1'', hfz''⟩)
          go_ret
          rw [HE.out]
          exact ⟨rfl, h3.out.1, h3.out.2, hk3⟩
    case rest =>
      obtain ⟨k2, hk2, hT, h3⟩ := hcut
      clear HE hc0 hc1 hfz H1 hc0' hc1' hfz' h2
      have HE := Lib.hid (show T = if nxt s k2 = 46 then (if k2 + 1 < digS s (k2 + 1) then expS s (digS s (k2 + 1)) else (digS s (k2 + 1), false)) else expS s k2 from hT)
      have H3 := Lib.hid h3
      obtain ⟨hc0, hc1, hfz⟩ := h3.1.facts
      clear h3 hT
      go_upto_if 30 with (go_at_call 115; (with_reducible refine (HNe.out _ _ H3.out).mono ?_); rintro e w4 ⟨rfl, h4, hc0', hc1', hfz'⟩)
      go_cut [] (fun wc => AtS g s v depth most T (expS s) w wc)
      case first =>
        have hl1 := HLT.out k2
        generalize nxt s k2 = x at *
        by_cases hx : x = 46
        · subst hx
          rw [if_pos rfl] at HE
          have hlt := hl1 (by decide)
          have HD := Lib.hid (HDi.out (k2 + 1) _ (scan_inc h4.out) hlt)
          generalize digS s (k2 + 1) = kd at *
          by_cases hd : k2 + 1 < kd
          · rw [if_pos hd] at HE
            go_wp2_with (go_at_call 219; refine HD.out.mono ?_; rintro e w5 ⟨rfl, h5, hk5, hc0'', hc1'', hfz''⟩)
            go_meet
            exact ⟨kd, hk5, HE.out, h5.out⟩
          · rw [if_neg hd] at HE
            go_wp2_with (go_at_call 219; refine HD.out.mono ?_; rintro e w5 ⟨rfl, h5, hk5, hc0'', hc1'', hfz''⟩)
            go_ret
            rw [HE.out]
            exact ⟨rfl, h5.out.1, h5.out.2, hk5⟩
        · rw [if_neg hx] at HE
          have q : ((x : Int) == 46) = false := by rw [beq_eq_false_iff_ne]; omega
          go_wp2_with fail
          go_meet
          exact ⟨k2, hk2, HE.out, h4.out⟩
      case rest =>
        obtain ⟨k3, hk3, hT, h5⟩ := hcut
        clear HE hc0 hc1 hfz H3 hc0' hc1' hfz' h4
        have HE := Lib.hid (show T = if nxt s k3 = 101 ∨ nxt s k3 = 69 then exp2 s k3 else (k3, true) from hT)
        have H5 := Lib.hid h5
        obtain ⟨hc0, hc1, hfz⟩ := h5.1.facts
        clear h5 hT
        have hl1 := HLT.out k3
        have HNk := Lib.hid (HNe.out k3 _ H5.out)
        generalize nxt s k3 = x at *
        by_cases hx : x = 101 ∨ x = 69
        · rw [if_pos hx] at HE
          have hlt := hl1 (by omega)
          have hq : ((x : Int) != 101) = false ∨ (((x : Int) != 101) = true ∧ ((x : Int) != 69) = false) := by
            rcases hx with rfl | rfl
            · exact .inl (by decide)
            · exact .inr ⟨by decide, by decide⟩
          clear hx hl1
          have hl1 := HLT.out (k3 + 1)
          have HE2 := Lib.hid (show T = if nxt s (k3 + 1) = 43 ∨ nxt s (k3 + 1) = 45 then DigE s (k3 + 2) else DigE s (k3 + 1) from HE.out)
          clear HE
          have HNk2 := Lib.hid (fun W h => HNe.out (k3 + 1) W h)
          generalize nxt s (k3 + 1) = y at *
          have HD1 := Lib.hid (fun W h hk => HDi.out (k3 + 1) W h hk)
          have HD2 := Lib.hid (fun W h hk => HDi.out (k3 + 2) W h hk)
          have HE3 : Hid (DigE s (k3 + 2) = (digS s (k3 + 2), decide (k3 + 2 < digS s (k3 + 2))) ∧ DigE s (k3 + 1) = (digS s (k3 + 1), decide (k3 + 1 < digS s (k3 + 1)))) := Lib.hid ⟨rfl, rfl⟩
          rw [HE3.out.1, HE3.out.2] at HE2
          clear HE3
          generalize digS s (k3 + 2) = d2 at *
          generalize digS s (k3 + 1) = d1 at *
          rcases hq with q | ⟨q, q'⟩
          all_goals
            by_cases hy : y = 43
            · have p1 : ((y : Int) == 43) = true := by rw [hy]; rfl
              rw [if_pos (.inl hy)] at HE2
              have hlt2 := hl1 (by omega)
              clear hy
              go_wp2_with (first | (go_at_call 115; (with_reducible refine HNk.out.mono ?_); rintro e w6 ⟨rfl, h6, hc0', hc1', hfz'⟩; have H6 := Lib.hid (scan_inc h6.out); clear HNk h6) | (go_at_call 115; (with_reducible refine (HNk2.out _ H6.out).mono ?_); rintro e w8 ⟨rfl, h8, ic0', ic1', ifz'⟩) | (go_at_call 219; refine (HD2.out _ (scan_inc h8.out) hlt2).mono ?_; rintro e w5 ⟨rfl, h5, hk5, jc0', jc1', jfz'⟩))
              go_ret
              rw [HE2.out]
              exact ⟨rfl, h5.out.1, h5.out.2, hk5⟩
            · have p1 : ((y : Int) == 43) = false := by rw [beq_eq_false_iff_ne]; omega
              by_cases hy2 : y = 45
              · have p2 : ((y : Int) == 45) = true := by rw [hy2]; rfl
                rw [if_pos (.inr hy2)] at HE2
                have hlt2 := hl1 (by omega)
                clear hy hy2
                go_wp2_with (first | (go_at_call 115; (with_reducible refine HNk.out.mono ?_); rintro e w6 ⟨rfl, h6, hc0', hc1', hfz'⟩; have H6 := Lib.hid (scan_inc h6.out); clear HNk h6) | (go_at_call 115; (with_reducible refine (HNk2.out _ H6.out).mono ?_); rintro e w8 ⟨rfl, h8, ic0', ic1', ifz'⟩) | (go_at_call 219; refine (HD2.out _ (scan_inc h8.out) hlt2).mono ?_; rintro e w5 ⟨rfl, h5, hk5, jc0', jc1', jfz'⟩))
                go_ret
                rw [HE2.out]
                exact ⟨rfl, h5.out.1, h5.out.2, hk5⟩
              · rw [if_neg (fun h => h.elim hy hy2)] at HE2
                have p2 : ((y : Int) == 45) = false := by rw [beq_eq_false_iff_ne]; omega
                clear hy hy2
                go_wp2_with (first | (go_at_call 115; (with_reducible refine HNk.out.mono ?_); rintro e w6 ⟨rfl, h6, hc0', hc1', hfz'⟩; have H6 := Lib.hid (scan_inc h6.out); clear HNk h6) | (go_at_call 115; (with_reducible refine (HNk2.out _ H6.out).mono ?_); rintro e w8 ⟨rfl, h8, ic0', ic1', ifz'⟩) | (go_at_call 219; refine (HD1.out _ h8.out hlt).mono ?_; rintro e w5 ⟨rfl, h5, hk5, jc0', jc1', jfz'⟩))
                go_ret
                rw [HE2.out]
                exact ⟨rfl, h5.out.1, h5.out.2, hk5⟩
        · rw [if_neg hx] at HE
          have q : ((x : Int) != 101) = true := by rw [bne_iff_ne]; omega
          have q' : ((x : Int) != 69) = true := by rw [bne_iff_ne]; omega
          go_wp2_with (go_at_call 115; (with_reducible refine HNk.out.mono ?_); rintro e w6 ⟨rfl, h6, hc0', hc1', hfz'⟩)
          go_ret
          rw [HE.out]
          exact ⟨rfl, h6.out.1, h6.out.2, hk3⟩
end Go.Proofs.Lw
namespace Go.Proofs.Lw
open Go Go.RowKit

/-- the words of a stack: the bit of each open bracket, the last one first -/
def StkOK (ws : List Nat) : List Bool → Prop
  | [] => True
  | b :: r => r.length / 64 < ws.length ∧ (ws.getD (r.length / 64) 0).testBit (r.length % 64) = b ∧ StkOK ws r
/-- a scan with its stack -/
structure ScanS (w : World) (g : Nat) (s : ByteArray) (k : Nat) (st : List Bool) (most : Nat) : Prop where
  ex : ∃ v ws, ScanB w g s k v st.length most ∧ w.ownsRow g 112 1 v ws.length (u64s ws) ∧ StkOK ws st ∧ (∀ x ∈ ws, x < W64) ∧ st.length ≤ 64 * ws.length ∧ ws.length ≤ 1048576
theorem own_onl {w w' : World} {g : Nat} {base : Nat} {e : TypeId} {size n : Nat} {v : Value} {xs : List Value} (h : w.ownsRow base e size v n xs) (ho : Onl g w w') (hne : v.ownBlock ≠ some g) : w'.ownsRow base e size v n xs := by
  refine ⟨h.1, ?_⟩
  rcases h.2 with h2 | ⟨g', cap, cur, rfl, hb, hh, r⟩
  · exact .inl h2
  · refine .inr ⟨g', cap, cur, rfl, hb, ?_, r⟩
    have hlt : g' < w.heap.size := by
      rcases Nat.lt_or_ge g' w.heap.size with h | h
      · exact h
      · rw [Array.getElem?_eq_none h] at hh; cases hh
    exact (ho.block g' hlt (fun e => hne (by simp [Value.ownBlock, e]))).trans hh
theorem own_neS {w : World} {base : Nat} {size n : Nat} {v : Value} {xs : List Value} {g : Nat} {s : ByteArray} {k : Nat} {v' : Value} {d m : Nat} (h : w.ownsRow base 112 size v n xs) (hg : ScanB w g s k v' d m) : v.ownBlock ≠ some g := own_ne h hg (by decide)
/-- what leaves the stack alone -/
theorem ScanS.lift {P : Program} {f : FuncId} {args : Array Value} {w : World} {g : Nat} {s : ByteArray} {k k' : Nat} {st : List Bool} {most : Nat} {E : Ending → Prop} {R : Prop} (h : ScanS w g s k st most)
    (c : ∀ v, ScanB w g s k v st.length most → Calls P f args w fun e w' => E e ∧ ScanB w' g s k' v st.length most ∧ Onl g w w' ∧ R) :
    Calls P f args w fun e w' => E e ∧ Hid (ScanS w' g s k' st most) ∧ Hid (Below g w w') ∧ R := by
  obtain ⟨v, ws, hb, ho, hst⟩ := h.ex
  exact (c v hb).mono fun e w' ⟨he, hb', hx, hr⟩ => ⟨he, Lib.hid ⟨v, ws, hb', own_onl ho hx (own_neS ho hb), hst⟩, Lib.hid (hx.below (Nat.le_of_lt (Blk.lt hb))), hr⟩
theorem Blk.kept {W w1 : World} {g : Nat} {t : TypeId} {cs : Array Value} {o : Obj} {row : Option Nat} (hB : Blk W g t cs) (hg : (W.alloc o).grownBy w1 row) (hne : row ≠ some g) : Blk w1 g t cs :=
  (hg.block g (by have := hB.lt; simp; omega) (fun e => hne e.symm)).trans ((Below.heap_alloc W o g hB.lt).trans hB)

/-- a word without a bit; with it -/
def clr (a j : Nat) : Nat := a &&& (W64 - 1 - 2 ^ j)
def setB (b : Bool) (a j : Nat) : Nat := if b then clr a j ||| 2 ^ j else clr a j
theorem pow_lt (j : Nat) (hj : j < 64) : 2 ^ j < W64 := Nat.pow_lt_pow_right (by omega) hj
theorem clr_lt (a j : Nat) (ha : a < W64) : clr a j < W64 := Nat.lt_of_le_of_lt Nat.and_le_left ha
theorem clr_bit (a j i : Nat) (hj : j < 64) (hi : i < 64) : (clr a j).testBit i = (a.testBit i && decide (i ≠ j)) := by
  unfold clr
  rw [Nat.testBit_and, show W64 - 1 - 2 ^ j = 2 ^ 64 - (2 ^ j + 1) from by simp only [W64]; omega, Nat.testBit_two_pow_sub_succ (pow_lt j hj), Nat.testBit_two_pow]
  by_cases h : j = i
  · subst h; simp
  · have h' : i ≠ j := fun e => h e.symm
    simp [h, h', hi]
theorem setB_lt (b : Bool) (a j : Nat) (ha : a < W64) (hj : j < 64) : setB b a j < W64 := by
  unfold setB; split
  · exact Nat.or_lt_two_pow (n := 64) (clr_lt a j ha) (pow_lt j hj)
  · exact clr_lt a j ha
theorem setB_bit (b : Bool) (a j i : Nat) (hj : j < 64) (hi : i < 64) : (setB b a j).testBit i = if i = j then b else a.testBit i := by
  unfold setB
  cases b
  · rw [if_neg (by decide), clr_bit a j i hj hi]
    by_cases h : i = j <;> simp [h]
  · rw [if_pos rfl, Nat.testBit_or, clr_bit a j i hj hi, Nat.testBit_two_pow]
    by_cases h : i = j
    · subst h; simp
    · have h' : ¬ j = i := fun e => h e.symm
      simp [h, h']
theorem StkOK.app {ws : List Nat} {x : Nat} : ∀ {st : List Bool}, StkOK ws st → StkOK (ws ++ [x]) st
  | [], _ => trivial
  | b :: r, h => by
    obtain ⟨h1, h2, h3⟩ := h
    refine ⟨by simp; omega, ?_, h3.app⟩
    rw [List.getD_eq_getElem?_getD, List.getElem?_append_left h1, ← List.getD_eq_getElem?_getD]; exact h2
theorem StkOK.set {ws : List Nat} {b : Bool} {d : Nat} (hd : d / 64 < ws.length) : ∀ {st : List Bool}, st.length ≤ d → StkOK ws st → StkOK (ws.set (d / 64) (setB b (ws.getD (d / 64) 0) (d % 64))) st
  | [], _, _ => trivial
  | c :: r, hl, h => by
    obtain ⟨h1, h2, h3⟩ := h
    simp only [List.length_cons] at hl
    refine ⟨by simpa using h1, ?_, h3.set hd (by omega)⟩
    rw [List.getD_eq_getElem?_getD, List.getElem?_set]
    by_cases he : d / 64 = r.length / 64
    · rw [if_pos he, if_pos hd, Option.getD_some, setB_bit _ _ _ _ (Nat.mod_lt _ (by omega)) (Nat.mod_lt _ (by omega)), if_neg (by omega), he]; exact h2
    · rw [if_neg he, ← List.getD_eq_getElem?_getD]; exact h2
theorem StkOK.push {ws : List Nat} {b : Bool} {st : List Bool} (hd : st.length / 64 < ws.length) (h : StkOK ws st) : StkOK (ws.set (st.length / 64) (setB b (ws.getD (st.length / 64) 0) (st.length % 64))) (b :: st) := by
  refine ⟨by simpa using hd, ?_, h.set hd (Nat.le_refl _)⟩
  rw [List.getD_eq_getElem?_getD, List.getElem?_set, if_pos rfl, if_pos hd, Option.getD_some, setB_bit _ _ _ _ (Nat.mod_lt _ (by omega)) (Nat.mod_lt _ (by omega)), if_pos rfl]
theorem u64_clr (a j : Nat) (ha : a < W64) (hj : j < 64) : bits .andNot .u64 (a : Int) ((2 ^ j : Nat) : Int) = ((clr a j : Nat) : Int) := u64_andNot_nat a (2 ^ j) ha (pow_lt j hj)
theorem u64_set (a j : Nat) (ha : a < W64) (hj : j < 64) : bits .or .u64 ((clr a j : Nat) : Int) ((2 ^ j : Nat) : Int) = ((setB true a j : Nat) : Int) := by
  rw [u64_or_nat _ _ (clr_lt a j ha) (pow_lt j hj)]; rfl
theorem wrap_pow (j : Nat) (hj : j < 64) : IntKind.u64.wrap (1 * 2 ^ j) = ((2 ^ j : Nat) : Int) := by
  have := pow_lt j hj
  have h : ((2 ^ j : Nat) : Int) = 1 * 2 ^ j := by push_cast; rw [Int.one_mul]
  rw [← h, IntKind.wrap_u64]
  generalize 2 ^ j = p at *
  unfold W64 at this; omega
theorem u64s_setAt (ws : List Nat) (i y : Nat) : (u64s ws).set i (.int .u64 (y : Nat)) = u64s (ws.set i y) := by simp [u64s, List.map_set]

theorem object_call (g : Nat) (s : ByteArray) (k : Nat) (st : List Bool) (most : Nat) (w : World) (h : ScanS w g s k st most) (hd : st.length ≤ 1048576) :
    Calls Tryz.prog 121 #[.pointer (some ⟨g, 0, none⟩)] w fun e w' => e = .returned (.bool (st.headD false)) ∧ Hid (ScanS w' g s k st most) ∧ Hid (Below g w w') := by
  have HS := Lib.hid h
  obtain ⟨v, ws, hb, ho, hst, hlt, hle, hl⟩ := h.ex
  have hc2 := Blk.cell hb 2
  have hc3 := Blk.cell hb 3
  simp at hc2 hc3
  have hfz : ∀ i, w.frozen? ⟨g, i, none⟩ = false := Blk.frozen hb
  have hgl := Blk.lt hb
  have HD : Hid (∀ n, ScanS (w.drewN n) g s k st most ∧ Below g w (w.drewN n)) := Lib.hid (fun n => ⟨⟨v, ws, Blk.drewN hb n, own_onl ho (Onl.of_ext (Ext.drewN w n)) (own_neS ho hb), hst, hlt, hle, hl⟩, (Ext.drewN w n).mono (Nat.le_of_lt hgl)⟩)
  cases st with
  | nil =>
    clear hst hlt ho hb
    have h0 : ¬ (0 : Int) < ((0 : Nat) : Int) := by decide
    simp only [List.length_nil] at hc3
    go_enter Tryz.func121, Tryz.ntmps121
    go_wp2_with fail
    go_quiet (fail)
    go_wp2_with fail
    go_ret
    exact ⟨rfl, Lib.hid (HD.out _).1, Lib.hid (HD.out _).2⟩
  | cons b r =>
    obtain ⟨h1, h2, _⟩ := hst
    obtain ⟨g2, cap, rfl, hge2, hlt2⟩ := ho.form (by omega)
    have hcl := ho.cellAt (r.length / 64) (by omega)
    rw [u64s_get ws _ h1] at hcl
    have hfl := ho.frozenAt (r.length / 64)
    have hxl : ws.getD (r.length / 64) 0 < W64 := by rw [List.getD_eq_getElem?_getD, List.getElem?_eq_getElem h1]; exact hlt _ (List.getElem_mem _)
    generalize ws.getD (r.length / 64) 0 = x at *
    have HA : bits .and .u64 ((x : Int) / 2 ^ (r.length % 64)) 1 = ((b.toNat : Nat) : Int) := by rw [shr_step x _ hxl, testBit_div, h2]
    clear h2 hlt ho hb
    simp only [List.length_cons] at hc3 hd
    generalize r.length = d at *
    have h0 : (0 : Int) < (d : Int) + 1 := by omega
    have hs1 : IntKind.i64.wrap ((d : Int) + 1 - 1) = (d : Int) := by rw [show (d : Int) + 1 - 1 = d by omega]; exact IntWalk.i64_in _ (by omega)
    have hs2 : (0 : Int) ≤ (d : Int) / 64 := by omega
    have hs3 : (d : Int) / 64 < (ws.length : Int) := by omega
    have hs4 : ((d : Int) / 64).toNat = d / 64 := by omega
    have hs5 : (0 : Int) ≤ (d : Int) % 64 := by omega
    have hs6 : (d : Int) % 64 < 64 := by omega
    have hs7 : ((d : Int) % 64).toNat = d % 64 := by omega
    cases b
    · simp only [Bool.toNat_false, Int.ofNat_zero] at HA
      go_enter Tryz.func121, Tryz.ntmps121
      go_wp2_with fail
      go_quiet (fail)
      go_wp2_with fail
      go_ret
      exact ⟨rfl, Lib.hid (HD.out _).1, Lib.hid (HD.out _).2⟩
    · simp only [Bool.toNat_true] at HA
      go_enter Tryz.func121, Tryz.ntmps121
      go_wp2_with fail
      go_quiet (fail)
      go_wp2_with fail
      go_ret
      exact ⟨rfl, Lib.hid (HD.out _).1, Lib.hid (HD.out _).2⟩
/-- the scan and its words, while a bracket is laid -/
structure P3 (w0 W : World) (g g2 cap : Nat) (s : ByteArray) (k d m : Nat) (ws : List Nat) : Prop where
  blk : ScanB W g s k (.slice (some ⟨g2, 0, none⟩) ws.length cap) d m
  own : W.ownsRow g 112 1 (.slice (some ⟨g2, 0, none⟩) ws.length cap) ws.length (u64s ws)
  below : Below g w0 W
section
variable {w0 W : World} {g g2 cap : Nat} {s : ByteArray} {k d m : Nat} {ws : List Nat}
theorem P3.ne (h : P3 w0 W g g2 cap s k d m ws) : ¬ g2 = g ∧ ¬ g = g2 := by
  have hne := own_neS h.own h.blk
  exact ⟨fun e => hne (by simp [Value.ownBlock, e]), fun e => hne (by simp [Value.ownBlock, e])⟩
theorem P3.facts (h : P3 w0 W g g2 cap s k d m ws) (j : Nat) (hj : j < ws.length) : W.cell? ⟨g, 1, none⟩ = some (.int .i64 (k : Nat)) ∧ W.cell? ⟨g, 2, none⟩ = some (.slice (some ⟨g2, 0, none⟩) ws.length cap) ∧
    W.cell? ⟨g, 3, none⟩ = some (.int .i64 (d : Nat)) ∧ W.cell? ⟨g, 4, none⟩ = some (.int .i64 (m : Nat)) ∧ (∀ i, W.frozen? ⟨g, i, none⟩ = false) ∧ W.cell? ⟨g2, j, none⟩ = some (.int .u64 (ws.getD j 0 : Nat)) ∧ W.frozen? ⟨g2, j, none⟩ = false := by
  have hc1 := Blk.cell h.blk 1
  have hc2 := Blk.cell h.blk 2
  have hc3 := Blk.cell h.blk 3
  have hc4 := Blk.cell h.blk 4
  simp at hc1 hc2 hc3 hc4
  have hcl := h.own.cellAt j (by omega)
  rw [u64s_get ws _ hj] at hcl
  exact ⟨hc1, hc2, hc3, hc4, Blk.frozen h.blk, hcl, h.own.frozenAt j⟩
theorem P3.drewN (h : P3 w0 W g g2 cap s k d m ws) (n : Nat) : P3 w0 (W.drewN n) g g2 cap s k d m ws :=
  ⟨Blk.drewN h.blk n, own_onl h.own (Onl.of_ext (Ext.drewN W n)) (own_neS h.own h.blk), h.below.trans ((Ext.drewN W n).mono (Nat.le_of_lt (Blk.lt h.blk)))⟩
theorem P3.drew (h : P3 w0 W g g2 cap s k d m ws) : P3 w0 W.drew g g2 cap s k d m ws := h.drewN 1
theorem P3.word (h : P3 w0 W g g2 cap s k d m ws) (j y : Nat) : P3 w0 (W.setCell ⟨g2, j, none⟩ (.int .u64 (y : Nat))) g g2 cap s k d m (ws.set j y) := by
  have ho := (h.own.stored j (.int .u64 (y : Nat))).1
  rw [u64s_setAt] at ho
  have hl : (ws.set j y).length = ws.length := by simp
  refine ⟨?_, ?_, h.below.setCell (p := ⟨g2, j, none⟩) ?_ _⟩
  · rw [hl]; exact Blk.far h.blk (p := ⟨g2, j, none⟩) h.ne.2 _
  · rw [hl]; exact ho
  · exact (h.own.lt g2 rfl).1
theorem P3.field (h : P3 w0 W g g2 cap s k d m ws) (i : Nat) (u : Value) {k' d' m' : Nat}
    (hv : (#[.string s, .int .i64 (k : Nat), .slice (some ⟨g2, 0, none⟩) ws.length cap, .int .i64 (d : Nat), .int .i64 (m : Nat)] : Array Value).setIfInBounds i u = #[.string s, .int .i64 (k' : Nat), .slice (some ⟨g2, 0, none⟩) ws.length cap, .int .i64 (d' : Nat), .int .i64 (m' : Nat)]) :
    P3 w0 (W.setCell ⟨g, i, none⟩ u) g g2 cap s k' d' m' ws := by
  refine ⟨?_, ownsRow_setCell_other h.own ?_ _, h.below.setCell (p := ⟨g, i, none⟩) (Nat.le_refl _) _⟩
  · have := Blk.set_ h.blk i u
    rw [hv] at this; exact this
  · simpa [Value.ownBlock] using h.ne.1
end
set_option maxHeartbeats 2000000 in
set_option maxRecDepth 100000 in
theorem push_call (g : Nat) (s : ByteArray) (k : Nat) (st : List Bool) (most : Nat) (one : Bool) (w : World) (h : ScanS w g s k st most) (hd : st.length ≤ 1048576) (hk : k ≤ 1073741824) (hm : most ≤ 1073741824) :
    Calls Tryz.prog 116 #[.pointer (some ⟨g, 0, none⟩), .bool one] w fun e w' => e = .returned (.tuple #[]) ∧ Hid (ScanS w' g s (k + 1) (one :: st) (max most (st.length + 1))) ∧ Hid (Below g w w') := by
  obtain ⟨v, ws, hb, ho, hst, hlt, hle, hl⟩ := h.ex
  have hc2 := Blk.cell hb 2
  have hc3 := Blk.cell hb 3
  simp at hc2 hc3
  have hfz : ∀ i, w.frozen? ⟨g, i, none⟩ = false := Blk.frozen hb
  have hgl := Blk.lt hb
  have hne := own_neS ho hb
  clear h
  obtain ⟨i0, hi, hz0, hz1, hz2⟩ := info_parts u64_info
  have HI := Lib.hid hi
  have HZ0 := Lib.hid hz0
  have HZ1 := Lib.hid hz1
  have HZ2 := Lib.hid hz2
  have HB := Lib.hid hb
  have HO := Lib.hid ho
  have HSt := Lib.hid hst
  have HLt := Lib.hid hlt
  have HNe := Lib.hid hne
  clear hi hz0 hz1 hz2 hb ho hst hlt hne
  have HV : Hid (∃ A c, v = .slice A ws.length c) := Lib.hid (by
    rcases HO.out.2 with ⟨rfl, h0⟩ | ⟨g', cap, cur, rfl, _⟩
    · exact ⟨none, 0, by rw [h0]⟩
    · exact ⟨_, _, rfl⟩)
  obtain ⟨A, c, hv⟩ := HV.out
  subst hv
  clear HV
  obtain ⟨d, hd0⟩ : ∃ d, d = st.length := ⟨_, rfl⟩
  have HD0 := Lib.hid hd0
  rw [← hd0] at hc3 hd hle
  clear hd0
  go_enter Tryz.func116, Tryz.ntmps116
  go_upto_if 15 with fail
  go_quiet (fail)
  go_upto_if 15 with fail
  go_cut [] (fun wc => ∃ (g2 cap : Nat) (ws : List Nat), P3 w wc g g2 cap s k d most ws ∧ StkOK ws st ∧ (∀ x ∈ ws, x < W64) ∧ d / 64 < ws.length ∧ ws.length ≤ 1048576)
  case first =>
    by_cases hq : d / 64 = ws.length
    · have hq1 : ((d : Int) / 64 == (ws.length : Int)) = true := by rw [beq_iff_eq]; omega
      have HQ := Lib.hid hq
      clear hq
      go_wp2_with (at_builtin; go_loud (refine wpList_append_lies _ rfl (.tmp 20) (.tmp 21) 152 rfl g 112 i0 _ 1 8 Tryz.underlying152 HI.out HZ0.out HZ1.out HZ2.out rfl (by decide) _ ws.length (u64s ws) rfl ((own_onl HO.out (Onl.of_ext (Ext.drewN w nq)) HNe.out).alloc _) ⟨w.heap.size, 0, none⟩ 1 1 [.int .u64 ((0 : Nat) : Int)] rfl rfl (cell_one_new _ _ _) (by simp [Value.oneCell']) (by decide) (by unfold maxLen; omega) (by omega) (by simp; omega) _ rfl ?_); intro g2 cap w1 hown hgrow hat2 hlt2; have hb1 := Blk.kept (Blk.drewN HB.out nq) hgrow HNe.out; have HB1 := Lib.hid hb1; have hc2' := Blk.cell hb1 2; simp at hc2'; have hfz' : ∀ i, w1.frozen? ⟨g, i, none⟩ = false := Blk.frozen hb1; clear hb1; have HOw := Lib.hid hown; have HGr := Lib.hid hgrow; clear hown hgrow)
      go_meet
      have hw1 : (ws ++ [0]).length = ws.length + 1 := by simp
      have hbw : Below g w w1 := by
        refine ⟨HGr.out.os, HGr.out.tape, HGr.out.output, Nat.le_trans (by simp) HGr.out.size, fun i hi => ?_⟩
        refine (HGr.out.block i (by simp; omega) (fun e => ?_)).trans ((Below.heap_alloc _ _ i (by simp; omega)))
        have := (HO.out.lt i e.symm).1
        omega
      refine ⟨g2, cap, ws ++ [0], ⟨?_, ?_, hbw.setCell (p := ⟨g, 2, none⟩) (Nat.le_refl _) _⟩, HSt.out.app, ?_, ?_, ?_⟩
      · rw [hw1]; exact HD0.out ▸ Blk.set_ HB1.out 2 _
      · rw [hw1]
        refine ownsRow_setCell_other (by simpa [u64s] using HOw.out) ?_ _
        have := own_ne HOw.out HB1.out (by decide)
        simpa [Value.ownBlock] using this
      · intro x hx; rcases List.mem_append.1 hx with hx | hx
        · exact HLt.out x hx
        · simp at hx; subst hx; decide
      · rw [hw1]; have := HQ.out; omega
      · rw [hw1]; have := HQ.out; omega
    · have hq1 : ((d : Int) / 64 == (ws.length : Int)) = false := by rw [beq_eq_false_iff_ne]; omega
      go_wp2_with fail
      go_meet
      obtain ⟨g2, cap, h1, _, _⟩ := HO.out.form (by omega)
      injection h1 with h1 _ h3
      subst h1 h3
      exact ⟨g2, _, ws, ⟨HD0.out ▸ Blk.drewN HB.out nq, own_onl HO.out (Onl.of_ext (Ext.drewN w nq)) HNe.out, (Ext.drewN w nq).mono (Nat.le_of_lt hgl)⟩, HSt.out, HLt.out, by omega, hl⟩
  case rest =>
    clear HI HZ0 HZ1 HZ2 HB HO HSt HLt HNe hc2 hc3 hfz hgl hle hl
    obtain ⟨g2, cap, ws2, hP, hst, hlt, hroom, hl2⟩ := hcut
    have hxl : ws2.getD (d / 64) 0 < W64 := by rw [List.getD_eq_getElem?_getD, List.getElem?_eq_getElem hroom]; exact hlt _ (List.getElem_mem _)
    have HSt := Lib.hid hst
    have HLt := Lib.hid hlt
    have HP := Lib.hid hP
    have hj : d % 64 < 64 := Nat.mod_lt _ (by omega)
    obtain ⟨hc1, hc2, hc3, hc4, hfz, hcl, hfl⟩ := hP.facts (d / 64) hroom
    obtain ⟨hne1, hne2⟩ := hP.ne
    clear hst hlt hP
    generalize hx : ws2.getD (d / 64) 0 = x at *
    have HX := Lib.hid hx
    clear hx
    have hs2 : (0 : Int) ≤ (d : Int) / 64 := by omega
    have hs3 : (d : Int) / 64 < (ws2.length : Int) := by omega
    have hs4 : ((d : Int) / 64).toNat = d / 64 := by omega
    have hs5 : (0 : Int) ≤ (d : Int) % 64 := by omega
    have hs6 : (d : Int) % 64 < 64 := by omega
    have hs7 : ((d : Int) % 64).toNat = d % 64 := by omega
    go_upto_region 2 with fail
    go_cut [4] (fun p wx => p = .pointer (some ⟨g2, d / 64, none⟩) ∧ P3 w wx g g2 cap s k d most ws2)
    case first =>
      go_quiet (fail)
      go_wp2_with fail
      go_meet
      exact ⟨rfl, HP.out.drewN nq⟩
    case rest =>
      obtain ⟨rfl, hP⟩ := hcut
      have HP2 := Lib.hid hP
      clear hc1 hc2 hc3 hc4 hfz hcl hfl HP
      obtain ⟨hc1, hc2, hc3, hc4, hfz, hcl, hfl⟩ := hP.facts (d / 64) hroom
      rw [HX.out] at hcl
      clear hP
      have HA1 : bits .andNot .u64 (x : Int) (IntKind.u64.wrap (2 ^ (d % 64))) = ((clr x (d % 64) : Nat) : Int) := by
        have := wrap_pow (d % 64) hj
        rw [Int.one_mul] at this
        rw [this, u64_clr x _ hxl hj]
      have HA2 : bits .or .u64 ((clr x (d % 64) : Nat) : Int) (IntKind.u64.wrap (2 ^ (d % 64))) = ((setB true x (d % 64) : Nat) : Int) := by
        have := wrap_pow (d % 64) hj
        rw [Int.one_mul] at this
        rw [this, u64_set x _ hxl hj]
      go_upto_region 3 with fail
      go_cut [4] (fun p wx => p = .pointer (some ⟨g2, d / 64, none⟩) ∧ P3 w wx g g2 cap s k d most (ws2.set (d / 64) (clr x (d % 64))))
      case first =>
        go_region
        go_wp2_with fail
        go_meet
        exact ⟨rfl, (HP2.out.word (d / 64) (clr x (d % 64))).drew⟩
      case rest =>
        obtain ⟨rfl, hP⟩ := hcut
        have hroom3 : d / 64 < (ws2.set (d / 64) (clr x (d % 64))).length := by simpa using hroom
        have HP3 := Lib.hid hP
        clear hc1 hc2 hc3 hc4 hfz hcl hfl HP2
        obtain ⟨hc1, hc2, hc3, hc4, hfz, hcl, hfl⟩ := hP.facts (d / 64) hroom3
        rw [List.getD_eq_getElem?_getD, List.getElem?_set, if_pos rfl, if_pos hroom, Option.getD_some] at hcl
        clear hP
        go_upto_if 46 with fail
        go_cut [] (fun wx => P3 w wx g g2 cap s k d most (ws2.set (d / 64) (setB one x (d % 64))))
        case first =>
          cases one
          · go_wp2_with fail
            go_meet
            exact HP3.out
          · go_upto_region 5 with fail
            go_region
            go_wp2_with fail
            go_meet
            have := (HP3.out.word (d / 64) (setB true x (d % 64))).drew
            rw [List.set_set] at this
            exact this
        case rest =>
          have hP := hcut
          have hroom4 : d / 64 < (ws2.set (d / 64) (setB one x (d % 64))).length := by simpa using hroom
          have HP4 := Lib.hid hP
          clear hc1 hc2 hc3 hc4 hfz hcl hfl HP3 hcut
          obtain ⟨hc1, hc2, hc3, hc4, hfz, hcl, hfl⟩ := hP.facts (d / 64) hroom4
          clear hP hcl hfl
          go_upto_region 6 with fail
          go_cut [] (fun wx => P3 w wx g g2 cap s k (d + 1) most (ws2.set (d / 64) (setB one x (d % 64))))
          case first =>
            go_wp2_with fail
            go_meet
            exact HP4.out.field 3 _ rfl
          case rest =>
            have hP := hcut
            have HP5 := Lib.hid hP
            clear hc1 hc2 hc3 hc4 hfz HP4 hcut
            obtain ⟨hc1, hc2, hc3, hc4, hfz, hcl, hfl⟩ := hP.facts (d / 64) hroom4
            clear hP hcl hfl
            go_upto_region 7 with fail
            go_cut [] (fun wx => P3 w wx g g2 cap s k (d + 1) (max most (d + 1)) (ws2.set (d / 64) (setB one x (d % 64))))
            case first =>
              go_region
              go_wp2_with fail
              go_meet
              have hmx : max (most : Int) ((d : Int) + 1) = ((max most (d + 1) : Nat) : Int) := by omega
              rw [hmx]
              exact (HP5.out.field 4 _ rfl).drew
            case rest =>
              have hP := hcut
              have HP6 := Lib.hid hP
              clear hc1 hc2 hc3 hc4 hfz HP5 hcut
              obtain ⟨hc1, hc2, hc3, hc4, hfz, hcl, hfl⟩ := hP.facts (d / 64) hroom4
              clear hP hcl hfl
              go_wp2_with fail
              go_end0
              have hP7 : P3 w (wc.setCell ⟨g, 1, none⟩ (.int .i64 ((k : Int) + 1))) g g2 cap s (k + 1) (d + 1) (max most (d + 1)) (ws2.set (d / 64) (setB one x (d % 64))) := HP6.out.field 1 _ rfl
              have hD := HD0.out
              refine ⟨rfl, Lib.hid ⟨_, _, ?_, hP7.own, ?_, ?_, ?_, ?_⟩, Lib.hid hP7.below⟩
              · have := hP7.blk; rw [hD] at this; rw [← hD]; simpa [hD] using this
              · have := StkOK.push (b := one) (hD ▸ hroom) HSt.out
                rw [← hD, HX.out] at this; exact this
              · intro y hy
                rcases List.mem_or_eq_of_mem_set hy with hy | rfl
                · exact HLt.out y hy
                · exact setB_lt _ _ _ hxl hj
              · simp only [List.length_cons, List.length_set, ← hD]; omega
              · simpa using hl2
end Go.Proofs.Lw
