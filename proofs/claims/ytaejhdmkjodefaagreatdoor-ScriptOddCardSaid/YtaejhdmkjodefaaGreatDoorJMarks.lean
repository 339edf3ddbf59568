/- marks. marks.each's iterator. marks.Places. marks.Parens. -/
import Derived.RangeFuncBox
import Derived.RangeFuncNested
import Derived.RangeFuncBound
import Derived.RangeFuncCalls
import Derived.RangeFuncLeaves
import Derived.Shelf.Abstract
import Derived.OwnWalkIn
import Derived.TacticsInMore
import Derived.LoopNIn
import Derived.LoopIn
import Derived.Maps.AppendAt
import Derived.Test.YtaejhdmkjodefaaGreatDoorJNest
import Derived.Scope
set_option linter.unusedSimpArgs false
set_option linter.unusedVariables false
namespace Go.Proofs.Lw
open Go Go.RowKit Go.Shelf
attribute [local go_sem] Oper.semAt_some

/-- what bytes are marks -/
def isMark (c : UInt8) : Bool := c == 91 || c == 93 || c == 123 || c == 125 || c == 58 || c == 44
/-- the marks of what is left, from a place on, within a string or not -/
def marksFrom (inn : Bool) (at_ : Nat) : List UInt8 → List (Nat × UInt8)
  | [] => []
  | c :: r =>
    if inn && c == 92 then marksFrom inn (at_ + 2) (r.drop 1)
    else if c == 34 then marksFrom (!inn) (at_ + 1) r
    else if inn || !isMark c then marksFrom inn (at_ + 1) r
    else (at_, c) :: marksFrom inn (at_ + 1) r
termination_by l => l.length
decreasing_by all_goals simp only [List.length_cons, List.length_drop]; omega
def marksOf (s : ByteArray) : List (Nat × UInt8) := marksFrom false 0 s.data.toList

theorem is_call (c : Nat) (hc : c < 256) (w : World) : Calls Tryz.prog 123 #[.int .u8 c] w fun e w' => e = .returned (.bool (isMark c.toUInt8)) ∧ w = w' := by
  have key : ∀ c : Fin 256, isMark c.val.toUInt8 = (c.val == 91 || c.val == 93 || c.val == 123 || c.val == 125 || c.val == 58 || c.val == 44) := by decide +kernel
  have hk := key ⟨c, hc⟩
  simp only at hk
  rw [hk]
  clear hk key
  by_cases h1 : c = 91
  · subst h1; go_enter Tryz.func123, Tryz.ntmps123; go_wp2; go_ret; exact ⟨rfl, rfl⟩
  by_cases h2 : c = 93
  · subst h2; go_enter Tryz.func123, Tryz.ntmps123; go_wp2; go_ret; exact ⟨rfl, rfl⟩
  by_cases h3 : c = 123
  · subst h3; go_enter Tryz.func123, Tryz.ntmps123; go_wp2; go_ret; exact ⟨rfl, rfl⟩
  by_cases h4 : c = 125
  · subst h4; go_enter Tryz.func123, Tryz.ntmps123; go_wp2; go_ret; exact ⟨rfl, rfl⟩
  by_cases h5 : c = 58
  · subst h5; go_enter Tryz.func123, Tryz.ntmps123; go_wp2; go_ret; exact ⟨rfl, rfl⟩
  by_cases h6 : c = 44
  · subst h6; go_enter Tryz.func123, Tryz.ntmps123; go_wp2; go_ret; exact ⟨rfl, rfl⟩
  have q1 : ((c : Int) == 91) = false := by rw [beq_eq_false_iff_ne]; omega
  have q2 : ((c : Int) == 93) = false := by rw [beq_eq_false_iff_ne]; omega
  have q3 : ((c : Int) == 123) = false := by rw [beq_eq_false_iff_ne]; omega
  have q4 : ((c : Int) == 125) = false := by rw [beq_eq_false_iff_ne]; omega
  have q5 : ((c : Int) == 58) = false := by rw [beq_eq_false_iff_ne]; omega
  have q6 : ((c : Int) == 44) = false := by rw [beq_eq_false_iff_ne]; omega
  have hr : (c == 91 || c == 93 || c == 123 || c == 125 || c == 58 || c == 44) = false := by simp [h1, h2, h3, h4, h5, h6]
  rw [hr]
  clear h1 h2 h3 h4 h5 h6 hr
  go_enter Tryz.func123, Tryz.ntmps123
  go_wp2
  go_ret
  exact ⟨rfl, rfl⟩
end Go.Proofs.Lw
namespace Go.Proofs.Lw
open Go Go.RowKit Go.Shelf
attribute [local go_sem] Oper.semAt_some

/-- what a round leaves as it is: the block of the record -/
def KeepB (Bs : Nat) (W W' : World) : Prop := W'.heap[Bs]? = W.heap[Bs]?
def encM (x : Nat × UInt8) : Array Value := #[.int .i64 x.1, .int .u8 x.2.toNat]

theorem meas1 {n k : Nat} (h : k < n) : n + 2 - (intOf (.int .i64 ((k : Int) + 1))).toNat < n + 2 - (intOf (.int .i64 (k : Int))).toNat := by
  have e1 : (intOf (.int .i64 ((k : Int) + 1))).toNat = k + 1 := by simp [intOf] <;> omega
  have e2 : (intOf (.int .i64 (k : Int))).toNat = k := by simp [intOf]
  omega
theorem meas2 {n k : Nat} (h : k < n) : n + 2 - (intOf (.int .i64 ((k : Int) + 1 + 1))).toNat < n + 2 - (intOf (.int .i64 (k : Int))).toNat := by
  have e1 : (intOf (.int .i64 ((k : Int) + 1 + 1))).toNat = k + 2 := by simp [intOf] <;> omega
  have e2 : (intOf (.int .i64 (k : Int))).toNat = k := by simp [intOf]
  omega
set_option maxRecDepth 100000 in
set_option maxHeartbeats 2000000 in
theorem each1_in (n : Nat) (hn : 1 ≤ n) (l Bs : Nat) (s : ByteArray) (hs : s.size ≤ 1073741824) (J Jx : List (Nat × UInt8) → World → Prop)
    (hY : ∀ pre x W, J pre W → pre.length < (marksOf s).length → YieldAt Fence.wide (n - 1) Tryz.prog l (encM x) W fun e W' =>
      (e = .returned (.bool true) ∧ J (pre ++ [x]) W' ∧ KeepB Bs W W') ∨ (e = .returned (.bool false) ∧ Jx (pre ++ [x]) W'))
    (W : World) (hBs : Blk W Bs 9 #[.string s]) (h0 : J [] W) :
    CallsIn Fence.wide n Tryz.prog 122 #[.func (.yield l) #[] #[], .pointer (some ⟨Bs, 0, none⟩)] W fun e W' => (∃ v, e = .returned v) ∧
      ((∃ ys, ys = marksOf s ∧ J ys W') ∨ (∃ pre, pre <+: marksOf s ∧ Jx pre W')) := by
  refine callsIn_of_wp Tryz.func122 rfl trivial ?_ rfl
  simp only [Tryz.ntmps122, List.size_toArray, List.length_cons, List.length_nil, Nat.reduceAdd, Nat.reduceSub, Array.replicate_succ, Array.replicate_zero, List.push_toArray, List.append_toArray, List.nil_append, List.cons_append]
  have HY := Lib.hid hY
  clear hY
  gi_wp2
  refine wpIn_wide.2 (wp_scope_straight ((wpIn_wide (n := n)).1 ?_))
  gi_wp2
  refine wpIn_label ?_
  gi_wp2
  gi_loopw [3, 4] (fun inn at_ wr => ∃ (b : Bool) (k : Nat) (pre : List (Nat × UInt8)), k ≤ s.size + 1 ∧ inn = .bool b ∧ at_ = .int .i64 (k : Nat) ∧ marksOf s = pre ++ marksFrom b k (s.data.toList.drop k) ∧ J pre wr ∧ Blk wr Bs 9 #[.string s]) (fun _ at_ _ => s.size + 2 - (intOf at_).toNat)
  case atStart => exact ⟨false, 0, [], Nat.zero_le _, rfl, rfl, by simp [marksOf], h0, hBs⟩
  case round =>
    obtain ⟨b, k, pre, hk, rfl, rfl, hm, hJ, hB⟩ := hrel
    have hc0 := hB.cell 0
    simp at hc0
    have HB := Lib.hid hB
    have HM := Lib.hid hm
    have HJ := Lib.hid hJ
    clear hB hm hJ
    by_cases hlt : k < s.size
    · have hdrop : s.data.toList.drop k = s[k] :: s.data.toList.drop (k + 1) := List.drop_eq_getElem_cons (l := s.data.toList) (i := k) (by simpa using hlt)
      have hIs : ∀ W, Calls Tryz.prog 123 #[.int .u8 (s[k].toNat : Nat)] W fun e w' => e = .returned (.bool (isMark s[k])) ∧ W = w' := fun W => by
        have := is_call s[k].toNat (UInt8.toNat_lt _) W
        rwa [show s[k].toNat.toUInt8 = s[k] from UInt8.ofNat_toNat ..] at this
      rw [hdrop] at HM
      clear hdrop
      obtain ⟨c, hck⟩ : ∃ c, s[k] = c := ⟨_, rfl⟩
      rw [hck] at HM hIs
      have HIs := Lib.hid hIs
      clear hIs
      have hIw : IntKind.i64.wrap ((k : Int) + 1) = (k : Int) + 1 := IntWalk.i64_in _ (by omega)
      have hIw2 : IntKind.i64.wrap ((k : Int) + 1 + 1) = (k : Int) + 1 + 1 := IntWalk.i64_in _ (by omega)
      have hk1 : k + 1 ≤ s.size + 1 := by omega
      by_cases h34 : c = 34
      · subst h34
        have hM2 : Hid (marksOf s = pre ++ marksFrom (!b) (k + 1) (s.data.toList.drop (k + 1))) := Lib.hid (by rw [HM.out, marksFrom]; cases b <;> rfl)
        clear HM
        cases b
        · gi_wp2
          exact ⟨⟨true, k + 1, pre, hk1, rfl, by congr 1, hM2.out, HJ.out, HB.out⟩, meas1 hlt⟩
        · gi_wp2
          exact ⟨⟨false, k + 1, pre, hk1, rfl, by congr 1, hM2.out, HJ.out, HB.out⟩, meas1 hlt⟩
      · have q34 : ((c.toNat : Int) == 34) = false := by
          rw [beq_eq_false_iff_ne]; intro e; apply h34; exact UInt8.toNat_inj.1 (by have : (34 : UInt8).toNat = 34 := rfl; omega)
        have H34 : Hid ((c == 34) = false) := Lib.hid (by rw [beq_eq_false_iff_ne]; exact h34)
        cases b
        · have hM2 : Hid (marksOf s = pre ++ (if !isMark c then marksFrom false (k + 1) (s.data.toList.drop (k + 1)) else (k, c) :: marksFrom false (k + 1) (s.data.toList.drop (k + 1)))) := Lib.hid (by rw [HM.out, marksFrom]; simp [H34.out])
          clear HM
          cases hmk : isMark c
          · rw [hmk] at hM2 HIs
            gi_wp2_with (refine ⟨trivial, ?_⟩; gi_at_call 123; refine (callsIn_wide.2 (HIs.out _)).mono ?_; rintro e w' ⟨rfl, rfl⟩)
            exact ⟨⟨false, k + 1, pre, hk1, rfl, by congr 1, hM2.out, HJ.out, HB.out⟩, meas1 hlt⟩
          · rw [hmk] at hM2 HIs
            have hM3 : Hid (marksOf s = (pre ++ [(k, c)]) ++ marksFrom false (k + 1) (s.data.toList.drop (k + 1))) := Lib.hid (by rw [hM2.out, List.append_assoc]; rfl)
            clear hM2
            obtain ⟨fn, tmps, assign, body, hy, hR⟩ := HY.out pre (k, c) wr HJ.out (by rw [hM3.out]; simp <;> omega)
            dsimp only [encM] at hy
            gi_wp2_with (refine ⟨trivial, ?_⟩; gi_at_call 123; refine (callsIn_wide.2 (HIs.out _)).mono ?_; rintro e w' ⟨rfl, rfl⟩)
            refine hR.mono ?_
            rintro e W3 (⟨rfl, hJ3, hk3⟩ | ⟨rfl, hJx3⟩)
            · have hB3 : Blk W3 Bs 9 #[.string s] := Eq.trans hk3 HB.out
              clear hc0
              have hc0 := hB3.cell 0
              simp at hc0
              have HB3 := Lib.hid hB3
              have HJ3 := Lib.hid hJ3
              clear hB3 hJ3 hk3
              gi_wp2
              exact ⟨⟨false, k + 1, pre ++ [(k, c)], hk1, rfl, by congr 1, hM3.out, HJ3.out, HB3.out⟩, meas1 hlt⟩
            · gi_wp2
              simp only [Exit.noGoto, Exit.then, Exit.inBlock]
              refine bodyPost_ret (results_none rfl _ _ _) rfl ?_
              exact ⟨⟨_, rfl⟩, .inr ⟨_, ⟨_, hM3.out.symm⟩, hJx3⟩⟩
        · have hM2 : Hid (marksOf s = pre ++ (if c == 92 then marksFrom true (k + 2) (s.data.toList.drop (k + 2)) else marksFrom true (k + 1) (s.data.toList.drop (k + 1)))) := Lib.hid (by rw [HM.out, marksFrom]; simp [H34.out])
          clear HM
          by_cases h92 : c = 92
          · subst h92
            have hM3 : Hid (marksOf s = pre ++ marksFrom true (k + 2) (s.data.toList.drop (k + 2))) := Lib.hid (by rw [hM2.out]; rfl)
            gi_wp2
            exact ⟨⟨true, k + 2, pre, by omega, rfl, by congr 1, hM3.out, HJ.out, HB.out⟩, meas2 hlt⟩
          · have q92 : ((c.toNat : Int) == 92) = false := by
              rw [beq_eq_false_iff_ne]; intro e; apply h92; exact UInt8.toNat_inj.1 (by have : (92 : UInt8).toNat = 92 := rfl; omega)
            have hM3 : Hid (marksOf s = pre ++ marksFrom true (k + 1) (s.data.toList.drop (k + 1))) := Lib.hid (by rw [hM2.out]; simp [h92])
            gi_wp2_with (refine ⟨trivial, ?_⟩)
            exact ⟨⟨true, k + 1, pre, hk1, rfl, by congr 1, hM3.out, HJ.out, HB.out⟩, meas1 hlt⟩
    · have hnil : s.data.toList.drop k = [] := List.drop_eq_nil_of_le (by simpa using Nat.le_of_not_lt hlt)
      rw [hnil, marksFrom, List.append_nil] at HM
      gi_wp2
      simp only [Exit.noGoto]
      go_end0
      exact ⟨⟨_, rfl⟩, .inl ⟨_, rfl, by rw [HM.out]; exact HJ.out⟩⟩
end Go.Proofs.Lw
namespace Go.Proofs.Lw
open Go Go.RowKit Go.Shelf
attribute [local go_sem] Oper.semAt_some

theorem each_in (n : Nat) (s : ByteArray) (w : World) :
    CallsIn Fence.wide n Tryz.prog 75 #[.string s] w fun e w' => e = .returned (.func (.func 122) #[] #[.pointer (some ⟨w.heap.size, 0, none⟩)]) ∧ w' = w.alloc (.cells #[.string s] 9) := by
  refine callsIn_of_wp Tryz.func75 rfl trivial ?_ rfl
  simp only [Tryz.ntmps75, List.size_toArray, List.length_cons, List.length_nil, Nat.reduceAdd, Nat.reduceSub, Array.replicate_succ, Array.replicate_zero, List.push_toArray, List.append_toArray, List.nil_append, List.cons_append]
  gi_wp2
  go_ret
  exact ⟨rfl, rfl⟩
theorem each_stops (n : Nat) (hn : 1 ≤ n) (Bs : Nat) (s : ByteArray) (hs : s.size ≤ 1073741824) (w : World) (hB : Blk w Bs 9 #[.string s]) :
    SeqStopsK Fence.wide n Tryz.prog 122 #[.pointer (some ⟨Bs, 0, none⟩)] encM (KeepB Bs) (fun ys => ys = marksOf s) (fun pre => pre <+: marksOf s) (marksOf s).length w :=
  fun l J Jx W hW _ _ hY h0 => each1_in n hn l Bs s hs J Jx hY W ((hW.block Bs hB.lt).trans hB) h0
theorem keepB_b {Bs : Nat} {w : World} (hn : Bs < w.heap.size) (W : World) (l : Nat) (o o' : Obj) (hl : w.heap.size ≤ l) (h : W.heap[l]? = some o) (_ : o.isCells = false) (_ : o.isWalk = false) : KeepB Bs W (W.putObj l o') :=
  (belowK_b (n₀ := Bs + 1) (w := w) (by omega) W l o o' hl h (by assumption) (by assumption)).block Bs (by omega)
theorem marksFrom_len (b : Bool) (k : Nat) (l : List UInt8) : (marksFrom b k l).length ≤ l.length := by
  fun_induction marksFrom b k l with
  | case1 => simp
  | case2 _ _ _ _ _ ih => simp only [List.length_drop, List.length_cons] at *; omega
  | case3 _ _ _ _ _ _ ih => simp only [List.length_cons] at *; omega
  | case4 _ _ _ _ _ _ _ ih => simp only [List.length_cons] at *; omega
  | case5 _ _ _ _ _ _ _ ih => simp only [List.length_cons] at *; omega

set_option maxRecDepth 100000 in
set_option maxHeartbeats 2000000 in
theorem places_call (s : ByteArray) (hs : s.size ≤ 1073741824) (w : World) :
    Calls Tryz.prog 38 #[.string s] w fun e W' => ∃ v, e = .returned v ∧ W'.ownsRow w.heap.size 3 1 v (marksOf s).length ((marksOf s).map fun x => Value.int .i64 (x.1 : Nat)) ∧ Ext w W' := by
  refine (callsIn_wide (n := 3)).1 ?_
  have hml : (marksOf s).length ≤ 1073741824 := by
    have := marksFrom_len false 0 s.data.toList
    simp only [marksOf]
    have h2 : s.data.toList.length = s.size := by simp
    omega
  have hmx : (marksOf s).length ≤ maxLen := Nat.le_trans hml (by decide)
  obtain ⟨i0, hi, hz0, hz1, hz2⟩ := info_parts (show (Tryz.prog.info? 3).map (fun i => (i.zero, i.size, i.bytes)) = some (some (.int .i64 0), 1, 8) by kernel_rfl)
  refine callsIn_of_wp_marks Tryz.func38 rfl trivial ?_ rfl
  simp only [Tryz.ntmps38, List.size_toArray, List.length_cons, List.length_nil, Nat.reduceAdd, Nat.reduceSub, Array.replicate_succ, Array.replicate_zero, List.push_toArray, List.append_toArray, List.nil_append, List.cons_append]
  gi_wp2_with (refine ⟨trivial, ?_⟩; gi_at_call 75; refine (each_in _ s _).mono ?_; rintro e w' ⟨rfl, rfl⟩)
  have bO := Boxed.new w 84 (.slice none 0 0)
  have bN := Boxed.new (w.alloc (.cells #[.slice none 0 0] 84)) 9 (.string s)
  rw [World.size_alloc] at bN
  have hB0 : Below w.heap.size w ((w.alloc (.cells #[.slice none 0 0] 84)).alloc (.cells #[.string s] 9)) := ((Below.refl _ w).alloc (Nat.le_refl _) _).alloc (by simp) _
  refine wpIn_rangeFunc_ownG rfl (by omega) (gf := 122) (lb := #[.pointer (some ⟨w.heap.size + 1, 0, none⟩)]) rfl trivial (enters_of Tryz.func122 (by kernel_rfl) rfl)
    (each_stops (3 - 1) (by omega) (w.heap.size + 1) s hs _ bN) (fun h k => Eq.trans k h) (keepB_b (by simp)) (Below.refl _ _) (fun _ => rfl)
    (fun pre W => ((∃ v, Boxed W w.heap.size 84 v ∧ W.ownsRow w.heap.size 3 1 v pre.length (pre.map fun x => Value.int .i64 (x.1 : Nat)) ∧ True) ∧ Below w.heap.size w W) ∧ Boxed W (w.heap.size + 1) 9 (.string s))
    (fun _ _ _ => False)
    (OwnFrom.and (OwnFrom.and (Own.from (holdsRow_own w.heap.size w.heap.size 84 3 1 (fun pre : List (Nat × UInt8) => pre.length) (fun pre : List (Nat × UInt8) => pre.map fun x => Value.int .i64 (x.1 : Nat)) (fun _ _ => True)) _) (ownFrom_below (Nat.le_refl _) (by simp; omega))) (Own.from (boxed_own (w.heap.size + 1) 9 (fun _ : List (Nat × UInt8) => .string s)) _))
    (fun _ _ _ _ _ hs _ _ => hs)
    ⟨⟨⟨_, bO.alloc _, World.ownsRow_nil _ _ _ _, trivial⟩, hB0⟩, bN⟩
    (fun x => { tmps := #[.string s, undef, .slice none 0 0, .pointer (some ⟨w.heap.size, 0, none⟩), .int .i64 (x.1 : Nat), .string s, .func (.func 122) #[] #[.pointer (some ⟨w.heap.size + 1, 0, none⟩)], .int .i64 (x.1 : Nat), .int .u8 x.2.toNat, undef, undef, undef, undef, undef], defers := [] }) ?assign ?body ?done ?stop
  case assign =>
    intro l x W K hK
    simp only [encM]
    gi_wp2
    exact hK
  case body =>
    rintro l pre x W ⟨⟨⟨v, hv, hrow, _⟩, hB⟩, hS⟩ hlt
    have hc := hv.cell
    gi_wp2_with (gi_at_builtin; refine wpListIn_append_own _ rfl _ _ 84 rfl w.heap.size 3 i0 (.int .i64 0) 1 8 Tryz.underlying84 hi hz0 hz1 hz2 rfl (by decide) _ _ _ rfl (hrow.alloc _) ⟨W.heap.size, 0, none⟩ 1 1 [.int .i64 (x.1 : Nat)] rfl rfl (cell_one_new _ _ _) (by simp [Value.oneCell']) (by omega) (by omega) (by have := hB.size; simp; omega) ?_; intro v' w1 hown' hgrow _; obtain ⟨g', cap', rfl⟩ := ownsRow_succ hown'; obtain ⟨hv1, hv2, hr2, hk2, hb2⟩ := hv.appended (by decide) hrow hB.size (Nat.le_refl _) hown' hgrow; have hc1 := hv1.cell; have hf1 := hv1.frozen; have hS1 := (hS.alloc _).kept hgrow (hS.not_row (by decide) hrow))
    have hS2 := hS1.other (B' := w.heap.size) (by omega) (.slice (some ⟨g', 0, none⟩) (pre.length + 1) cap')
    exact ⟨hk2.from _, Eq.trans hS2 (Eq.symm hS), ⟨⟨⟨_, hv2, by simpa using hr2, trivial⟩, hB.trans hb2⟩, hS2⟩⟩
  case done =>
    rintro D ys W hD rfl ⟨⟨⟨v, hv, hrow, _⟩, hB⟩, _⟩ hK
    have hc := hv.cell
    gi_wp2
    refine ⟨by simp, .inl ⟨_, _, rfl, run_takeDeferred hK, ?_⟩⟩
    exact ⟨_, results_tmp rfl _ _ _, v, rfl, ownsRow_putObj hrow _ hK rfl, hB.trans (belowK_b (w := w) (Nat.le_refl _) W D _ _ (by simp at hD; omega) hK rfl rfl)⟩
  case stop =>
    rintro D c pre W _ _ h _
    exact h.elim

/-- a mark's two bits -/
def pairOf (c : UInt8) : Bool × Bool := if c == 91 || c == 123 then (true, true) else if c == 93 || c == 125 then (false, false) else (false, true)
def parensOf (l : List (Nat × UInt8)) : List Bool := l.flatMap fun x => [(pairOf x.2).1, (pairOf x.2).2]
theorem parens_len (l : List (Nat × UInt8)) : (parensOf l).length = 2 * l.length := by
  induction l with
  | nil => rfl
  | cons x r ih => simp only [parensOf, List.flatMap_cons, List.length_append, List.length_cons, List.length_nil] at *; omega
theorem parens_snoc (l : List (Nat × UInt8)) (x : Nat × UInt8) : parensOf (l ++ [x]) = parensOf l ++ [(pairOf x.2).1, (pairOf x.2).2] := by simp [parensOf]
end Go.Proofs.Lw
namespace Go.Proofs.Lw
open Go Go.RowKit Go.Shelf
attribute [local go_sem] Oper.semAt_some

theorem cell_two_new (w : World) (x y : Value) (t : TypeId) : ∀ j u, [x, y][j]? = some u → (w.alloc (.cells #[x, y] t)).cell? ((⟨w.heap.size, 0, none⟩ : Addr).add j) = some u := by
  intro j u h
  have hb := Blk.new w t #[x, y]
  have : ((⟨w.heap.size, 0, none⟩ : Addr).add j) = ⟨w.heap.size, j, none⟩ := by simp [Addr.add]; intro h; exact h.symm
  rw [this, hb.cell]
  simpa using h
set_option maxRecDepth 100000 in
set_option maxHeartbeats 4000000 in
theorem parens_call (s : ByteArray) (hs : s.size ≤ 1073741824) (w : World) :
    Calls Tryz.prog 42 #[.string s] w fun e W' => ∃ v, e = .returned v ∧ W'.ownsRow w.heap.size 4 1 v (parensOf (marksOf s)).length ((parensOf (marksOf s)).map Value.bool) ∧ Ext w W' := by
  refine (callsIn_wide (n := 3)).1 ?_
  have hml : (marksOf s).length ≤ 1073741824 := by
    have := marksFrom_len false 0 s.data.toList
    simp only [marksOf]
    have h2 : s.data.toList.length = s.size := by simp
    omega
  have hmx : 2147483648 ≤ maxLen := by decide
  obtain ⟨i0, hi, hz0, hz1, hz2⟩ := info_parts (show (Tryz.prog.info? 4).map (fun i => (i.zero, i.size, i.bytes)) = some (some (.bool false), 1, 1) by kernel_rfl)
  refine callsIn_of_wp_marks Tryz.func42 rfl trivial ?_ rfl
  simp only [Tryz.ntmps42, List.size_toArray, List.length_cons, List.length_nil, Nat.reduceAdd, Nat.reduceSub, Array.replicate_succ, Array.replicate_zero, List.push_toArray, List.append_toArray, List.nil_append, List.cons_append]
  gi_wp2_with (refine ⟨trivial, ?_⟩; gi_at_call 75; refine (each_in _ s _).mono ?_; rintro e w' ⟨rfl, rfl⟩)
  have bO := Boxed.new w 92 (.slice none 0 0)
  have bN := Boxed.new (w.alloc (.cells #[.slice none 0 0] 92)) 9 (.string s)
  rw [World.size_alloc] at bN
  have hB0 : Below w.heap.size w ((w.alloc (.cells #[.slice none 0 0] 92)).alloc (.cells #[.string s] 9)) := ((Below.refl _ w).alloc (Nat.le_refl _) _).alloc (by simp) _
  refine wpIn_rangeFunc_ownG rfl (by omega) (gf := 122) (lb := #[.pointer (some ⟨w.heap.size + 1, 0, none⟩)]) rfl trivial (enters_of Tryz.func122 (by kernel_rfl) rfl)
    (each_stops (3 - 1) (by omega) (w.heap.size + 1) s hs _ bN) (fun h k => Eq.trans k h) (keepB_b (by simp)) (Below.refl _ _) (fun _ => rfl)
    (fun pre W => ((∃ v, Boxed W w.heap.size 92 v ∧ W.ownsRow w.heap.size 4 1 v (parensOf pre).length ((parensOf pre).map Value.bool) ∧ True) ∧ Below w.heap.size w W) ∧ Boxed W (w.heap.size + 1) 9 (.string s))
    (fun _ _ _ => False)
    (OwnFrom.and (OwnFrom.and (Own.from (holdsRow_own w.heap.size w.heap.size 92 4 1 (fun pre : List (Nat × UInt8) => (parensOf pre).length) (fun pre : List (Nat × UInt8) => (parensOf pre).map Value.bool) (fun _ _ => True)) _) (ownFrom_below (Nat.le_refl _) (by simp; omega))) (Own.from (boxed_own (w.heap.size + 1) 9 (fun _ : List (Nat × UInt8) => .string s)) _))
    (fun _ _ _ _ _ hs _ _ => hs)
    ⟨⟨⟨_, bO.alloc _, World.ownsRow_nil _ _ _ _, trivial⟩, hB0⟩, bN⟩
    (fun x => { tmps := #[.string s, undef, .slice none 0 0, .pointer (some ⟨w.heap.size, 0, none⟩), undef, .int .u8 x.2.toNat, .string s, .func (.func 122) #[] #[.pointer (some ⟨w.heap.size + 1, 0, none⟩)], .int .i64 (x.1 : Nat), .int .u8 x.2.toNat, undef, undef, undef, undef, undef, undef, undef, undef, undef, undef, undef, undef, undef, undef, undef, undef, undef], defers := [] }) ?assign ?body ?done ?stop
  case assign =>
    intro l x W K hK
    simp only [encM]
    gi_wp2
    exact hK
  case body =>
    rintro l pre ⟨k, c⟩ W ⟨⟨⟨v, hv, hrow, _⟩, hB⟩, hS⟩ hlt
    have hc := hv.cell
    have hpl : (parensOf pre).length ≤ 2 * pre.length := Nat.le_of_eq (parens_len pre)
    by_cases h91 : c = 91
    · subst h91
      have HPS := Lib.hid (parens_snoc pre (k, 91))
      rw [show pairOf 91 = (true, true) from rfl] at HPS
      gi_wp2_with (gi_at_builtin; refine wpListIn_append_own _ rfl _ _ 92 rfl w.heap.size 4 i0 (.bool false) 1 1 Tryz.underlying92 hi hz0 hz1 hz2 rfl (by decide) _ _ _ rfl (hrow.alloc _) ⟨W.heap.size, 0, none⟩ 2 2 [.bool true, .bool true] rfl rfl (cell_two_new _ _ _ _) (by simp [Value.oneCell']) (by omega) (by omega) (by have := hB.size; simp; omega) ?_; intro v' w1 hown' hgrow _; obtain ⟨g', cap', rfl⟩ := ownsRow_succ hown'; obtain ⟨hv1, hv2, hr2, hk2, hb2⟩ := hv.appended (by decide) hrow hB.size (Nat.le_refl _) hown' hgrow; have hc1 := hv1.cell; have hf1 := hv1.frozen; have hS1 := (hS.alloc _).kept hgrow (hS.not_row (by decide) hrow))
      have hS2 := hS1.other (B' := w.heap.size) (by omega) (.slice (some ⟨g', 0, none⟩) ((parensOf pre).length + 1 + 1) cap')
      refine ⟨hk2.from _, Eq.trans hS2 (Eq.symm hS), ⟨⟨⟨_, hv2, ?_⟩, hB.trans hb2⟩, hS2⟩⟩; rw [HPS.out]; simpa using hr2
    by_cases h123 : c = 123
    · subst h123
      have HPS := Lib.hid (parens_snoc pre (k, 123))
      rw [show pairOf 123 = (true, true) from rfl] at HPS
      gi_wp2_with (gi_at_builtin; refine wpListIn_append_own _ rfl _ _ 92 rfl w.heap.size 4 i0 (.bool false) 1 1 Tryz.underlying92 hi hz0 hz1 hz2 rfl (by decide) _ _ _ rfl (hrow.alloc _) ⟨W.heap.size, 0, none⟩ 2 2 [.bool true, .bool true] rfl rfl (cell_two_new _ _ _ _) (by simp [Value.oneCell']) (by omega) (by omega) (by have := hB.size; simp; omega) ?_; intro v' w1 hown' hgrow _; obtain ⟨g', cap', rfl⟩ := ownsRow_succ hown'; obtain ⟨hv1, hv2, hr2, hk2, hb2⟩ := hv.appended (by decide) hrow hB.size (Nat.le_refl _) hown' hgrow; have hc1 := hv1.cell; have hf1 := hv1.frozen; have hS1 := (hS.alloc _).kept hgrow (hS.not_row (by decide) hrow))
      have hS2 := hS1.other (B' := w.heap.size) (by omega) (.slice (some ⟨g', 0, none⟩) ((parensOf pre).length + 1 + 1) cap')
      refine ⟨hk2.from _, Eq.trans hS2 (Eq.symm hS), ⟨⟨⟨_, hv2, ?_⟩, hB.trans hb2⟩, hS2⟩⟩; rw [HPS.out]; simpa using hr2
    by_cases h93 : c = 93
    · subst h93
      have HPS := Lib.hid (parens_snoc pre (k, 93))
      rw [show pairOf 93 = (false, false) from rfl] at HPS
      gi_wp2_with (gi_at_builtin; refine wpListIn_append_own _ rfl _ _ 92 rfl w.heap.size 4 i0 (.bool false) 1 1 Tryz.underlying92 hi hz0 hz1 hz2 rfl (by decide) _ _ _ rfl (hrow.alloc _) ⟨W.heap.size, 0, none⟩ 2 2 [.bool false, .bool false] rfl rfl (cell_two_new _ _ _ _) (by simp [Value.oneCell']) (by omega) (by omega) (by have := hB.size; simp; omega) ?_; intro v' w1 hown' hgrow _; obtain ⟨g', cap', rfl⟩ := ownsRow_succ hown'; obtain ⟨hv1, hv2, hr2, hk2, hb2⟩ := hv.appended (by decide) hrow hB.size (Nat.le_refl _) hown' hgrow; have hc1 := hv1.cell; have hf1 := hv1.frozen; have hS1 := (hS.alloc _).kept hgrow (hS.not_row (by decide) hrow))
      have hS2 := hS1.other (B' := w.heap.size) (by omega) (.slice (some ⟨g', 0, none⟩) ((parensOf pre).length + 1 + 1) cap')
      refine ⟨hk2.from _, Eq.trans hS2 (Eq.symm hS), ⟨⟨⟨_, hv2, ?_⟩, hB.trans hb2⟩, hS2⟩⟩; rw [HPS.out]; simpa using hr2
    by_cases h125 : c = 125
    · subst h125
      have HPS := Lib.hid (parens_snoc pre (k, 125))
      rw [show pairOf 125 = (false, false) from rfl] at HPS
      gi_wp2_with (gi_at_builtin; refine wpListIn_append_own _ rfl _ _ 92 rfl w.heap.size 4 i0 (.bool false) 1 1 Tryz.underlying92 hi hz0 hz1 hz2 rfl (by decide) _ _ _ rfl (hrow.alloc _) ⟨W.heap.size, 0, none⟩ 2 2 [.bool false, .bool false] rfl rfl (cell_two_new _ _ _ _) (by simp [Value.oneCell']) (by omega) (by omega) (by have := hB.size; simp; omega) ?_; intro v' w1 hown' hgrow _; obtain ⟨g', cap', rfl⟩ := ownsRow_succ hown'; obtain ⟨hv1, hv2, hr2, hk2, hb2⟩ := hv.appended (by decide) hrow hB.size (Nat.le_refl _) hown' hgrow; have hc1 := hv1.cell; have hf1 := hv1.frozen; have hS1 := (hS.alloc _).kept hgrow (hS.not_row (by decide) hrow))
      have hS2 := hS1.other (B' := w.heap.size) (by omega) (.slice (some ⟨g', 0, none⟩) ((parensOf pre).length + 1 + 1) cap')
      refine ⟨hk2.from _, Eq.trans hS2 (Eq.symm hS), ⟨⟨⟨_, hv2, ?_⟩, hB.trans hb2⟩, hS2⟩⟩; rw [HPS.out]; simpa using hr2
    have q (d : UInt8) (m : Nat) (hm : d.toNat = m) (h : ¬ c = d) : ((c.toNat : Int) == (m : Int)) = false := by
      rw [beq_eq_false_iff_ne]; intro e; apply h; exact UInt8.toNat_inj.1 (by omega)
    have q1 : ((c.toNat : Int) == 91) = false := q 91 91 rfl h91
    have q2 : ((c.toNat : Int) == 123) = false := q 123 123 rfl h123
    have q3 : ((c.toNat : Int) == 93) = false := q 93 93 rfl h93
    have q4 : ((c.toNat : Int) == 125) = false := q 125 125 rfl h125
    have HPS := Lib.hid (parens_snoc pre (k, c))
    rw [show pairOf c = (false, true) by unfold pairOf; simp [h91, h123, h93, h125]] at HPS
    clear q h91 h123 h93 h125
    gi_wp2_with (gi_at_builtin; refine wpListIn_append_own _ rfl _ _ 92 rfl w.heap.size 4 i0 (.bool false) 1 1 Tryz.underlying92 hi hz0 hz1 hz2 rfl (by decide) _ _ _ rfl (hrow.alloc _) ⟨W.heap.size, 0, none⟩ 2 2 [.bool false, .bool true] rfl rfl (cell_two_new _ _ _ _) (by simp [Value.oneCell']) (by omega) (by omega) (by have := hB.size; simp; omega) ?_; intro v' w1 hown' hgrow _; obtain ⟨g', cap', rfl⟩ := ownsRow_succ hown'; obtain ⟨hv1, hv2, hr2, hk2, hb2⟩ := hv.appended (by decide) hrow hB.size (Nat.le_refl _) hown' hgrow; have hc1 := hv1.cell; have hf1 := hv1.frozen; have hS1 := (hS.alloc _).kept hgrow (hS.not_row (by decide) hrow))
    have hS2 := hS1.other (B' := w.heap.size) (by omega) (.slice (some ⟨g', 0, none⟩) ((parensOf pre).length + 1 + 1) cap')
    refine ⟨hk2.from _, Eq.trans hS2 (Eq.symm hS), ⟨⟨⟨_, hv2, ?_⟩, hB.trans hb2⟩, hS2⟩⟩; rw [HPS.out]; simpa using hr2
  case done =>
    rintro D ys W hD rfl ⟨⟨⟨v, hv, hrow, _⟩, hB⟩, _⟩ hK
    have hc := hv.cell
    gi_wp2
    refine ⟨by simp, .inl ⟨_, _, rfl, run_takeDeferred hK, ?_⟩⟩
    exact ⟨_, results_tmp rfl _ _ _, v, rfl, ownsRow_putObj hrow _ hK rfl, hB.trans (belowK_b (w := w) (Nat.le_refl _) W D _ _ (by simp at hD; omega) hK rfl rfl)⟩
  case stop =>
    rintro D c pre W _ _ h _
    exact h.elim

end Go.Proofs.Lw
