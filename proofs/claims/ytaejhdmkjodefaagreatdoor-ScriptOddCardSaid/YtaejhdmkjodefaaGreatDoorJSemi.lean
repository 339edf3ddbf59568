/- A record's marks as sequences; bounds that semi.Make wants. semi.look, semi.Make: over what scan.Validate answers. -/
import Derived.Test.YtaejhdmkjodefaaGreatDoorJMarks
set_option linter.unusedSimpArgs false
set_option linter.unusedVariables false
namespace Go.Proofs.Lw
open Go Go.RowKit

theorem ints_of_row {w : World} {base : Nat} {v : Value} {l : List Nat} (h : w.ownsRow base 3 1 v l.length (l.map fun x => Value.int .i64 (x : Nat))) : IsInts w v l := by
  rcases h.2 with ⟨rfl, h0⟩ | ⟨g, cap, cur, rfl, _, hg, hc1, hc2, _, ht⟩
  · exact ⟨none, 0, by rw [h0], by omega, by decide, fun h => by omega⟩
  · refine ⟨some ⟨g, 0, none⟩, cap, rfl, hc1, hc2, fun _ => ⟨g, cur, rfl, hg, fun i hi => ?_⟩⟩
    have : (cur.toList.take (l.length * 1))[i]? = (l.map fun x => Value.int .i64 (x : Nat))[i]? := by rw [ht]
    rw [List.getElem?_take, if_pos (by omega), List.getElem?_map, List.getElem?_eq_getElem hi] at this
    rw [← Array.getElem?_toList, this, List.getD_eq_getElem?_getD, List.getElem?_eq_getElem hi]
    rfl
theorem bools_of_row {w : World} {base : Nat} {v : Value} {l : List Bool} (h : w.ownsRow base 4 1 v l.length (l.map Value.bool)) : IsBools w v l := by
  rcases h.2 with ⟨rfl, h0⟩ | ⟨g, cap, cur, rfl, _, hg, hc1, hc2, _, ht⟩
  · exact ⟨none, 0, by rw [h0], by omega, by decide, fun h => by omega⟩
  · refine ⟨some ⟨g, 0, none⟩, cap, rfl, hc1, hc2, fun _ => ⟨g, cur, rfl, hg, fun i hi => ?_⟩⟩
    have : (cur.toList.take (l.length * 1))[i]? = (l.map Value.bool)[i]? := by rw [ht]
    rw [List.getElem?_take, if_pos (by omega), List.getElem?_map, List.getElem?_eq_getElem hi] at this
    rw [← Array.getElem?_toList, this, List.getD_eq_getElem?_getD, List.getElem?_eq_getElem hi]
    rfl
/-- the marks' places -/
def placesOf (s : ByteArray) : List Nat := (marksOf s).map (·.1)
theorem placesI_call (s : ByteArray) (hs : s.size ≤ 1073741824) (w : World) :
    Calls Tryz.prog 38 #[.string s] w fun e W' => ∃ v, e = .returned v ∧ IsInts W' v (placesOf s) ∧ Ext w W' :=
  (places_call s hs w).mono fun e W' ⟨v, he, hr, hx⟩ => ⟨v, he, ints_of_row (base := w.heap.size) (by simpa [placesOf, Function.comp_def] using hr), hx⟩
theorem parensB_call (s : ByteArray) (hs : s.size ≤ 1073741824) (w : World) :
    Calls Tryz.prog 42 #[.string s] w fun e W' => ∃ v, e = .returned v ∧ IsBools W' v (parensOf (marksOf s)) ∧ Ext w W' :=
  (parens_call s hs w).mono fun e W' ⟨v, he, hr, hx⟩ => ⟨v, he, bools_of_row hr, hx⟩
/-- the places lie one behind another, within the record -/
theorem marksFrom_range (b : Bool) (k : Nat) (l : List UInt8) : (∀ x ∈ marksFrom b k l, k ≤ x.1 ∧ x.1 < k + l.length) ∧ (marksFrom b k l).Pairwise (fun x y => x.1 < y.1) := by
  fun_induction marksFrom b k l with
  | case1 => simp
  | case2 _ _ _ _ _ ih =>
    refine ⟨fun x hx => ?_, ih.2⟩
    have := ih.1 x hx
    simp only [List.length_drop, List.length_cons] at *; omega
  | case3 _ _ _ _ _ _ ih =>
    refine ⟨fun x hx => ?_, ih.2⟩
    have := ih.1 x hx
    simp only [List.length_cons] at *; omega
  | case4 _ _ _ _ _ _ _ ih =>
    refine ⟨fun x hx => ?_, ih.2⟩
    have := ih.1 x hx
    simp only [List.length_cons] at *; omega
  | case5 _ _ _ _ _ _ _ ih =>
    refine ⟨fun x hx => ?_, List.pairwise_cons.2 ⟨fun y hy => ?_, ih.2⟩⟩
    · rcases List.mem_cons.1 hx with rfl | hx
      · simp only [List.length_cons]; omega
      · have := ih.1 x hx
        simp only [List.length_cons] at *; omega
    · have := ih.1 y hy
      show _ < y.1
      omega
theorem places_lt (s : ByteArray) (i : Nat) (h : i < (placesOf s).length) : (placesOf s).getD i 0 < s.size := by
  have hm : i < (marksOf s).length := by simpa [placesOf] using h
  have := (marksFrom_range false 0 s.data.toList).1 ((marksOf s)[i]) (List.getElem_mem hm)
  rw [List.getD_eq_getElem?_getD, List.getElem?_eq_getElem h]
  simp only [placesOf, List.getElem_map, Option.getD_some]
  have h2 : s.data.toList.length = s.size := by simp
  omega
theorem places_sorted (s : ByteArray) (i : Nat) (h : i + 1 < (placesOf s).length) : (placesOf s).getD i 0 ≤ (placesOf s).getD (i + 1) 0 := by
  have hm : i + 1 < (marksOf s).length := by simpa [placesOf] using h
  have hp := List.pairwise_iff_getElem.1 (marksFrom_range false 0 s.data.toList).2 i (i + 1) (by exact Nat.lt_of_succ_lt hm) hm (by omega)
  rw [List.getD_eq_getElem?_getD, List.getElem?_eq_getElem (Nat.lt_of_succ_lt h), List.getD_eq_getElem?_getD, List.getElem?_eq_getElem h]
  simp only [placesOf, List.getElem_map, Option.getD_some]
  exact Nat.le_of_lt hp
end Go.Proofs.Lw
namespace Go.Proofs.Lw
open Go Go.RowKit

/-- the error that a verdict is -/
def lookE (vd : Int) : Int := if vd = 4 then 4 else if vd = 3 then 3 else if vd = 2 then 5 else 0
/-- scan.Validate answers this verdict of the record -/
def Verdict (s : ByteArray) (vd : Int) : Prop :=
  ∀ W : World, Calls Tryz.prog 36 #[.string s, .int .i64 4096] W fun e w' => (∃ b c : Int, e = .returned (.tuple #[.int .i64 vd, .int .i64 b, .int .i64 c])) ∧ Ext W w'
theorem look_call (s : ByteArray) (vd : Int) (hV : Verdict s vd) (w : World) :
    Calls Tryz.prog 37 #[.string s] w fun e w' => e = .returned (.int .i64 (lookE vd)) ∧ Ext w w' := by
  have HV := Lib.hid hV
  clear hV
  have HE : Hid (lookE vd = if vd = 4 then 4 else if vd = 3 then 3 else if vd = 2 then 5 else 0) := Lib.hid rfl
  generalize lookE vd = r at *
  by_cases h4 : vd = 4
  · subst h4
    go_enter Tryz.func37, Tryz.ntmps37
    go_wp2_with (go_at_call 36; refine (HV.out _).mono ?_; rintro e w' ⟨⟨b, c, rfl⟩, hx⟩)
    go_ret
    exact ⟨by rw [HE.out]; rfl, hx⟩
  by_cases h3 : vd = 3
  · subst h3
    go_enter Tryz.func37, Tryz.ntmps37
    go_wp2_with (go_at_call 36; refine (HV.out _).mono ?_; rintro e w' ⟨⟨b, c, rfl⟩, hx⟩)
    go_ret
    exact ⟨by rw [HE.out]; rfl, hx⟩
  by_cases h2 : vd = 2
  · subst h2
    go_enter Tryz.func37, Tryz.ntmps37
    go_wp2_with (go_at_call 36; refine (HV.out _).mono ?_; rintro e w' ⟨⟨b, c, rfl⟩, hx⟩)
    go_ret
    exact ⟨by rw [HE.out]; rfl, hx⟩
  rw [if_neg h4, if_neg h3, if_neg h2] at HE
  have q4 : (vd == 4) = false := by rw [beq_eq_false_iff_ne]; exact h4
  have q3 : (vd == 3) = false := by rw [beq_eq_false_iff_ne]; exact h3
  have q2 : (vd == 2) = false := by rw [beq_eq_false_iff_ne]; exact h2
  clear h4 h3 h2
  go_enter Tryz.func37, Tryz.ntmps37
  go_wp2_with (go_at_call 36; refine (HV.out _).mono ?_; rintro e w' ⟨⟨b, c, rfl⟩, hx⟩)
  go_ret
  exact ⟨by rw [HE.out]; rfl, hx⟩

/-- what the record's sequence is bounded by -/
def boundOf (s : ByteArray) : Nat := if placesOf s = [] then 1 else s.size
/-- the row of the record's parentheses -/
def rowOf (s : ByteArray) : List Bool := parensOf (marksOf s)
theorem rowOf_len (s : ByteArray) : (rowOf s).length = 2 * (placesOf s).length := by rw [rowOf, parens_len, placesOf, List.length_map]
theorem places_len (s : ByteArray) : (placesOf s).length ≤ s.size := by
  have := marksFrom_len false 0 s.data.toList
  have h2 : s.data.toList.length = s.size := by simp
  rw [placesOf, List.length_map, marksOf]
  omega
/-- a record with its shape, behind a pointer -/
def IsIndex (w : World) (p : Addr) (s : ByteArray) : Prop :=
  ∃ g ps pr pn, p = ⟨g, 0, none⟩ ∧ Blk w g 100 #[.pointer (some ps), .pointer (some pr), .pointer (some pn), .string s] ∧
    IsSeq w ps (placesOf s).length (boundOf s) (loBits (widthN (placesOf s).length (boundOf s)) (placesOf s)) (hiBits (placesOf s) (boundOf s)) ∧ RowB w pr (rowOf s) ∧ IsNest w pn pr (rowOf s)
theorem IsNest.ext {w w' : World} {pn p : Addr} {bs : List Bool} (h : IsNest w pn p bs) (e : Ext w w') : IsNest w' pn p bs := by
  obtain ⟨gn, pt, pc, f, a, b, c, d⟩ := h
  exact ⟨gn, pt, pc, f, a, b.ext e, c.ext e, d.ext e⟩
theorem makeBad_call (s : ByteArray) (vd : Int) (hV : Verdict s vd) (hbad : lookE vd ≠ 0) (w : World) :
    Calls Tryz.prog 18 #[.string s] w fun e w' => e = .returned (.tuple #[.pointer none, .int .i64 (lookE vd)]) ∧ Ext w w' := by
  have HK := Lib.hid (fun W => look_call s vd hV W)
  have q : (lookE vd == 0) = false := by rw [beq_eq_false_iff_ne]; exact hbad
  clear hV hbad
  generalize lookE vd = r at *
  go_enter Tryz.func18, Tryz.ntmps18
  go_wp2_with (go_at_call 37; refine (HK.out _).mono ?_; rintro e w' ⟨rfl, hx⟩)
  go_ret2
  exact ⟨rfl, hx⟩
set_option maxHeartbeats 1000000 in
theorem makeGood_call (s : ByteArray) (vd : Int) (hV : Verdict s vd) (hgood : lookE vd = 0) (hs : s.size ≤ 1048576) (w : World) :
    Calls Tryz.prog 18 #[.string s] w fun e w' => Ext w w' ∧ ((balB (rowOf s) = false ∧ e = .returned (.tuple #[.pointer none, .int .i64 3])) ∨
      (balB (rowOf s) = true ∧ ∃ p, e = .returned (.tuple #[.pointer (some p), .int .i64 0]) ∧ IsIndex w' p s)) := by
  have HK := Lib.hid (fun W => look_call s vd hV W)
  rw [hgood] at HK
  clear hV hgood
  have hpl := places_len s
  have hrl := rowOf_len s
  have HPl := Lib.hid (fun W => placesI_call s (by omega) W)
  have HPa := Lib.hid (fun W => parensB_call s (by omega) W)
  have hb1 : 1 ≤ boundOf s := by
    unfold boundOf; split
    · exact Nat.le_refl _
    · rename_i h; have := List.length_pos_iff.2 h; omega
  have hb2 : boundOf s ≤ 1048576 := by unfold boundOf; split <;> omega
  have HMk := Lib.hid (fun v W h => make_call v (placesOf s) (boundOf s) W h hb1 hb2 (by omega) (places_sorted s) (fun i h => by
    have := places_lt s i h
    unfold boundOf
    rw [if_neg (by intro e; rw [e] at h; simp at h)]
    exact this))
  have HBo : Hid (∀ v W, IsInts W v (placesOf s) → Calls Tryz.prog 40 #[v, .string s] W fun e w' => e = .returned (.int .i64 (boundOf s : Nat)) ∧ W = w') := Lib.hid (fun v W h => bound_call v (placesOf s) s W h)
  have HRo := Lib.hid (fun v W h => row_call v (rowOf s) W h (by omega))
  have HNe : Hid (∀ p W, RowB W p (rowOf s) → Calls Tryz.prog 43 #[.pointer (some p)] W fun e w' => Hid (Ext W w') ∧ ((Hid (balB (rowOf s) = false) ∧ e = .returned (.tuple #[.pointer none, .int .i64 3])) ∨
      (Hid (balB (rowOf s) = true) ∧ ∃ pn, e = .returned (.tuple #[.pointer (some pn), .int .i64 0]) ∧ Hid (IsNest w' pn p (rowOf s))))) := Lib.hid (fun p W h => (nestNew_call p (rowOf s) W h (by omega)).mono fun e w' ⟨a, b⟩ => ⟨Lib.hid a, b.imp (fun ⟨c, d⟩ => ⟨Lib.hid c, d⟩) (fun ⟨c, pn, d, f⟩ => ⟨Lib.hid c, pn, d, Lib.hid f⟩)⟩)
  go_enter Tryz.func18, Tryz.ntmps18
  go_wp2_with (first
    | (go_at_call 37; refine (HK.out _).mono ?_; rintro e w1 ⟨rfl, hx1⟩; have HX1 := Lib.hid hx1; clear hx1)
    | (go_at_call 38; refine (HPl.out _).mono ?_; rintro e w2 ⟨v, rfl, hi, hx2⟩; have HI := Lib.hid hi; have HX2 := Lib.hid hx2; clear hi hx2)
    | (go_at_call 40; refine (HBo.out _ _ HI.out).mono ?_; rintro e w' ⟨rfl, rfl⟩)
    | (go_at_call 39; refine (HMk.out _ _ HI.out).mono ?_; rintro e w3 ⟨ps, rfl, hq, hx3⟩; have HQ := Lib.hid hq; have HX3 := Lib.hid hx3; clear hq hx3)
    | (go_at_call 42; refine (HPa.out _).mono ?_; rintro e w4 ⟨v4, rfl, hbo, hx4⟩; have HBs := Lib.hid hbo; have HX4 := Lib.hid hx4; clear hbo hx4)
    | (go_at_call 41; refine (HRo.out _ _ HBs.out).mono ?_; rintro e w5 ⟨pr, rfl, hr, hx5⟩; have HR := Lib.hid hr; have HX5 := Lib.hid hx5; clear hr hx5)
    | (go_at_call 43; refine (HNe.out _ _ HR.out).mono ?_; rintro e w6 ⟨hx6, ⟨hbal, rfl⟩ | ⟨hbal, pn, rfl, hn⟩⟩))
  · go_ret2
    exact ⟨(Ext.trans (Ext.trans (Ext.trans (Ext.trans (Ext.trans HX1.out HX2.out) HX3.out) HX4.out) HX5.out) hx6.out), .inl ⟨hbal.out, rfl⟩⟩
  · go_ret2
    refine ⟨Ext.trans (Ext.trans (Ext.trans (Ext.trans (Ext.trans (Ext.trans HX1.out HX2.out) HX3.out) HX4.out) HX5.out) hx6.out) (Ext.alloc _ _), .inr ⟨hbal.out, _, rfl, ⟨_, ps, pr, pn, rfl, Blk.new _ _ _, ?_, ?_, hn.out.ext (Ext.alloc _ _)⟩⟩⟩
    · exact HQ.out.ext (Ext.trans (Ext.trans (Ext.trans HX4.out HX5.out) hx6.out) (Ext.alloc _ _))
    · exact HR.out.ext (Ext.trans hx6.out (Ext.alloc _ _))
end Go.Proofs.Lw
