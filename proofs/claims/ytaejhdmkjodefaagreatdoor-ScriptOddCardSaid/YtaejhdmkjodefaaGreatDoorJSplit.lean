/- split.lines' iterator. split.lines, split.Lines. -/
import Derived.Test.YtaejhdmkjodefaaGreatDoorJMarks
import Derived.Test.YtaejhdmkjodefaaGreatDoorJScan
import Derived.Lib.IndexBytes
import Derived.Lib.IndexLaws
import Derived.RangeFuncNested
set_option linter.unusedSimpArgs false
set_option linter.unusedVariables false
namespace Go.Proofs.Lw
open Go Go.RowKit Go.Shelf
attribute [local go_sem] Oper.semAt_some

/-- where the next newline stands, from k on; below 0: nowhere -/
def nlI (s : ByteArray) (k : Nat) : Int := Lib.indexByte (s.data.toList.drop k) 10
def nlen (s : ByteArray) (k : Nat) : Nat := if nlI s k < 0 then s.size - k else (nlI s k).toNat
def linesF (s : ByteArray) : Nat → Nat → List (Nat × Nat)
  | 0, _ => []
  | f + 1, k => if k < s.size then (k, k + nlen s k) :: linesF s f (k + nlen s k + 1) else []
/-- the spans of a file's records -/
def linesOf (s : ByteArray) : List (Nat × Nat) := linesF s (s.size + 1) 0
theorem nlI_lt (s : ByteArray) (k : Nat) (hk : k < s.size) : nlI s k < ((s.size - k : Nat) : Int) := by
  unfold nlI
  rcases (by omega : Lib.indexByte (s.data.toList.drop k) 10 < 0 ∨ 0 ≤ Lib.indexByte (s.data.toList.drop k) 10) with h | h
  · omega
  · obtain ⟨o, ho⟩ := Int.eq_ofNat_of_zero_le h
    have := (Lib.indexByte_some ho).1
    have h2 : o < (s.data.toList.drop k).length := by
      rcases Nat.lt_or_ge o (s.data.toList.drop k).length with h3 | h3
      · exact h3
      · rw [List.getElem?_eq_none h3] at this; cases this
    have h3 : (s.data.toList.drop k).length = s.size - k := by simp
    omega
theorem nlen_le (s : ByteArray) (k : Nat) (hk : k < s.size) : k + nlen s k ≤ s.size := by
  have := nlI_lt s k hk
  unfold nlen
  split <;> omega
theorem linesF_len (s : ByteArray) : ∀ f k, (linesF s f k).length ≤ s.size - k
  | 0, k => Nat.zero_le _
  | f + 1, k => by
    unfold linesF
    split
    · have := linesF_len s f (k + nlen s k + 1)
      rw [List.length_cons]; omega
    · exact Nat.zero_le _
theorem linesF_in (s : ByteArray) : ∀ f k, ∀ x ∈ linesF s f k, x.1 ≤ x.2 ∧ x.2 ≤ s.size
  | 0, k => by simp [linesF]
  | f + 1, k => by
    unfold linesF
    split
    · rename_i hk
      intro x hx
      rcases List.mem_cons.1 hx with rfl | hx
      · exact ⟨Nat.le_add_right _ _, nlen_le s k hk⟩
      · exact linesF_in s f _ x hx
    · simp
def encL (x : Nat × Nat) : Array Value := #[.agg #[.int .i64 x.1, .int .i64 x.2]]
theorem measL {n k j : Nat} (h : k < n) (hj : k < j) : n + 2 - (intOf (.int .i64 (j : Int))).toNat < n + 2 - (intOf (.int .i64 (k : Int))).toNat := by
  have e1 : (intOf (.int .i64 (j : Int))).toNat = j := by simp [intOf]
  have e2 : (intOf (.int .i64 (k : Int))).toNat = k := by simp [intOf]
  omega
set_option maxRecDepth 100000 in
set_option maxHeartbeats 2000000 in
theorem lines1_in (n : Nat) (hn : 1 ≤ n) (l Bs : Nat) (s : ByteArray) (hs : s.size ≤ 1073741824) (J Jx : List (Nat × Nat) → World → Prop)
    (hY : ∀ pre x W, J pre W → pre.length < (linesOf s).length → YieldAt Fence.wide (n - 1) Tryz.prog l (encL x) W fun e W' =>
      (e = .returned (.bool true) ∧ J (pre ++ [x]) W' ∧ KeepB Bs W W') ∨ (e = .returned (.bool false) ∧ Jx (pre ++ [x]) W'))
    (W : World) (hBs : Blk W Bs 9 #[.string s]) (h0 : J [] W) :
    CallsIn Fence.wide n Tryz.prog 94 #[.func (.yield l) #[] #[], .pointer (some ⟨Bs, 0, none⟩)] W fun e W' => (∃ v, e = .returned v) ∧
      ((∃ ys, ys = linesOf s ∧ J ys W') ∨ (∃ pre, pre <+: linesOf s ∧ Jx pre W')) := by
  refine callsIn_of_wp Tryz.func94 rfl trivial ?_ rfl
  simp only [Tryz.ntmps94, List.size_toArray, List.length_cons, List.length_nil, Nat.reduceAdd, Nat.reduceSub, Array.replicate_succ, Array.replicate_zero, List.push_toArray, List.append_toArray, List.nil_append, List.cons_append]
  have HY := Lib.hid hY
  clear hY
  gi_wp2
  gi_loopw [3] (fun at_ wr => ∃ (f k : Nat) (pre : List (Nat × Nat)), k ≤ s.size + 1 ∧ s.size - k < f ∧ at_ = .int .i64 (k : Nat) ∧ linesOf s = pre ++ linesF s f k ∧ J pre wr ∧ Blk wr Bs 9 #[.string s]) (fun at_ _ => s.size + 2 - (intOf at_).toNat)
  case atStart => exact ⟨s.size + 1, 0, [], Nat.zero_le _, by omega, rfl, rfl, h0, hBs⟩
  case round =>
    obtain ⟨f, k, pre, hk, hf, rfl, hm, hJ, hB⟩ := hrel
    obtain ⟨f, rfl⟩ : ∃ f', f = f' + 1 := ⟨f - 1, by omega⟩
    have hc0 := hB.cell 0
    simp at hc0
    have HB := Lib.hid hB
    have HM := Lib.hid hm
    have HJ := Lib.hid hJ
    clear hB hm hJ
    by_cases hlt : k < s.size
    · rw [linesF, if_pos hlt] at HM
      have hle := nlen_le s k hlt
      have hN : Hid (nlen s k = if nlI s k < 0 then s.size - k else (nlI s k).toNat) := Lib.hid rfl
      have HI : Hid (∀ W : World, Calls Tryz.prog 95 #[.string (s.extract k s.size), .int .u8 10] W fun e w' => e = .returned (.int .i64 (nlI s k)) ∧ W = w') :=
        Lib.hid (fun W => (Tryz.strings_IndexByte (s.extract k s.size) 10 W).mono fun e w' ⟨a, b⟩ => ⟨by rw [a, Lib.extract_to_end]; rfl, b.symm⟩)
      have hpre : pre.length < (linesOf s).length := by rw [HM.out]; simp
      generalize nlen s k = m at *
      generalize hi : nlI s k = i at *
      have HIx := Lib.hid hi
      clear hi
      have HM3 : Hid (linesOf s = (pre ++ [(k, k + m)]) ++ linesF s f (k + m + 1)) := Lib.hid (by rw [HM.out, List.append_assoc]; rfl)
      clear HM
      obtain ⟨fn, tmps, assign, body, hy, hR⟩ := HY.out pre (k, k + m) wr HJ.out hpre
      dsimp only [encL] at hy
      have hw1 : IntKind.i64.wrap ((k : Int) + m) = (k : Int) + m := IntWalk.i64_in _ (by omega)
      by_cases hneg : i < 0
      · have hmk : (m : Int) = (s.size : Int) - k := by rw [hN.out, if_pos hneg]; omega
        have HMk := Lib.hid hmk
        clear hmk
        have hw0 : (s.size : Int) - k = (m : Int) := by have := HMk.out; omega
        have hyy : ((k + m : Nat) : Int) = (k : Int) + m := by omega
        rw [hyy] at hy
        clear hyy
        gi_wp2_with (refine ⟨trivial, ?_⟩; gi_at_call 95; refine (callsIn_wide.2 (HI.out _)).mono ?_; rintro e w' ⟨rfl, rfl⟩)
        refine hR.mono ?_
        rintro e W3 (⟨rfl, hJ3, hk3⟩ | ⟨rfl, hJx3⟩)
        · have hB3 : Blk W3 Bs 9 #[.string s] := Eq.trans hk3 HB.out
          clear hc0
          have hc0 := hB3.cell 0
          simp at hc0
          have HB3 := Lib.hid hB3
          have HJ3 := Lib.hid hJ3
          clear hB3 hJ3 hk3
          gi_wp2
          exact ⟨⟨f, k + m + 1, pre ++ [(k, k + m)], by omega, by omega, by congr 1, HM3.out, HJ3.out, HB3.out⟩, by
            have e1 : (intOf (.int .i64 ((k : Int) + ((m : Int) + 1)))).toNat = k + m + 1 := by simp [intOf] <;> omega
            have e2 : (intOf (.int .i64 (k : Int))).toNat = k := by simp [intOf]
            omega⟩
        · gi_wp2
          refine bodyPost_ret (results_none rfl _ _ _) rfl ?_
          exact ⟨⟨_, rfl⟩, .inr ⟨_, ⟨_, HM3.out.symm⟩, hJx3⟩⟩
      · have hmk : i = (m : Int) := by rw [hN.out, if_neg hneg]; omega
        subst hmk
        have hyy : ((k + m : Nat) : Int) = (k : Int) + m := by omega
        rw [hyy] at hy
        clear hyy hN hneg
        gi_wp2_with (refine ⟨trivial, ?_⟩; gi_at_call 95; refine (callsIn_wide.2 (HI.out _)).mono ?_; rintro e w' ⟨rfl, rfl⟩)
        refine hR.mono ?_
        rintro e W3 (⟨rfl, hJ3, hk3⟩ | ⟨rfl, hJx3⟩)
        · have hB3 : Blk W3 Bs 9 #[.string s] := Eq.trans hk3 HB.out
          clear hc0
          have hc0 := hB3.cell 0
          simp at hc0
          have HB3 := Lib.hid hB3
          have HJ3 := Lib.hid hJ3
          clear hB3 hJ3 hk3
          gi_wp2
          exact ⟨⟨f, k + m + 1, pre ++ [(k, k + m)], by omega, by omega, by congr 1, HM3.out, HJ3.out, HB3.out⟩, by
            have e1 : (intOf (.int .i64 ((k : Int) + ((m : Int) + 1)))).toNat = k + m + 1 := by simp [intOf] <;> omega
            have e2 : (intOf (.int .i64 (k : Int))).toNat = k := by simp [intOf]
            omega⟩
        · gi_wp2
          refine bodyPost_ret (results_none rfl _ _ _) rfl ?_
          exact ⟨⟨_, rfl⟩, .inr ⟨_, ⟨_, HM3.out.symm⟩, hJx3⟩⟩
    · have hnil : linesF s (f + 1) k = [] := by rw [linesF, if_neg hlt]
      rw [hnil, List.append_nil] at HM
      gi_wp2
      go_end0
      exact ⟨⟨_, rfl⟩, .inl ⟨_, rfl, by rw [HM.out]; exact HJ.out⟩⟩
end Go.Proofs.Lw
namespace Go.Proofs.Lw
open Go Go.RowKit Go.Shelf
attribute [local go_sem] Oper.semAt_some

theorem lines_in (n : Nat) (s : ByteArray) (w : World) :
    CallsIn Fence.wide n Tryz.prog 53 #[.string s] w fun e w' => e = .returned (.func (.func 94) #[] #[.pointer (some ⟨w.heap.size, 0, none⟩)]) ∧ w' = w.alloc (.cells #[.string s] 9) := by
  refine callsIn_of_wp Tryz.func53 rfl trivial ?_ rfl
  simp only [Tryz.ntmps53, List.size_toArray, List.length_cons, List.length_nil, Nat.reduceAdd, Nat.reduceSub, Array.replicate_succ, Array.replicate_zero, List.push_toArray, List.append_toArray, List.nil_append, List.cons_append]
  gi_wp2
  go_ret
  exact ⟨rfl, rfl⟩
theorem lines_stops (n : Nat) (hn : 1 ≤ n) (Bs : Nat) (s : ByteArray) (hs : s.size ≤ 1073741824) (w : World) (hB : Blk w Bs 9 #[.string s]) :
    SeqStopsK Fence.wide n Tryz.prog 94 #[.pointer (some ⟨Bs, 0, none⟩)] encL (KeepB Bs) (fun ys => ys = linesOf s) (fun pre => pre <+: linesOf s) (linesOf s).length w :=
  fun l J Jx W hW _ _ hY h0 => lines1_in n hn l Bs s hs J Jx hY W ((hW.block Bs hB.lt).trans hB) h0
theorem blk_own {β : Type} (b : Nat) (t : TypeId) (cs : Array Value) : Own (fun (_ : β) W => Blk W b t cs) := fun s X Y row hs hg hrow =>
  (hg.block b (Blk.lt hs) (fun e' => by obtain ⟨o, ho, hc⟩ := hrow b e'.symm; rw [show X.heap[b]? = _ from hs] at ho; cases ho; cases hc)).trans hs
theorem cells_new (w : World) (cs : List Value) (t : TypeId) : ∀ j u, cs[j]? = some u → (w.alloc (.cells cs.toArray t)).cell? ((⟨w.heap.size, 0, none⟩ : Addr).add j) = some u := by
  intro j u hj
  have h := Blk.cell (Blk.new w t cs.toArray) j
  unfold Addr.add
  split
  · rename_i h0; subst h0; simp at h; simp [h, hj]
  · simp at h; simp [h, hj]
/-- a span, as two cells -/
def spanC (x : Nat × Nat) : List Value := [.int .i64 x.1, .int .i64 x.2]
set_option maxRecDepth 100000 in
set_option maxHeartbeats 2000000 in
theorem lines_call (s : ByteArray) (hs : s.size ≤ 1048576) (hm : (linesOf s).length ≤ 4096) (w : World) :
    Calls Tryz.prog 23 #[.string s] w fun e W' => ∃ v, e = .returned (.tuple #[v, .int .i64 0]) ∧ W'.ownsRow w.heap.size 57 2 v (linesOf s).length ((linesOf s).flatMap spanC) ∧ Ext w W' := by
  refine (callsIn_wide (n := 3)).1 ?_
  obtain ⟨i0, hi, hz0, hz1, hz2⟩ := info_parts (show (Tryz.prog.info? 57).map (fun i => (i.zero, i.size, i.bytes)) = some (some (.agg #[.int .i64 0, .int .i64 0]), 2, 16) by kernel_rfl)
  refine callsIn_of_wp_marks Tryz.func23 rfl trivial ?_ rfl
  simp only [Tryz.ntmps23, List.size_toArray, List.length_cons, List.length_nil, Nat.reduceAdd, Nat.reduceSub, Array.replicate_succ, Array.replicate_zero, List.push_toArray, List.append_toArray, List.nil_append, List.cons_append]
  gi_wp2_with (refine ⟨trivial, ?_⟩; gi_at_call 53; refine (lines_in _ s _).mono ?_; rintro e w' ⟨rfl, rfl⟩)
  have bR := Boxed.new w 71 (.slice none 0 0)
  have bE := Boxed.new (w.alloc (.cells #[.slice none 0 0] 71)) 28 (.int .i64 0)
  have bO := Boxed.new ((w.alloc (.cells #[.slice none 0 0] 71)).alloc (.cells #[.int .i64 0] 28)) 71 (.slice none 0 0)
  have bN := Boxed.new (((w.alloc (.cells #[.slice none 0 0] 71)).alloc (.cells #[.int .i64 0] 28)).alloc (.cells #[.slice none 0 0] 71)) 9 (.string s)
  simp only [World.size_alloc] at bE bO bN
  have hB0 : Below w.heap.size w ((((w.alloc (.cells #[.slice none 0 0] 71)).alloc (.cells #[.int .i64 0] 28)).alloc (.cells #[.slice none 0 0] 71)).alloc (.cells #[.string s] 9)) := ((((Below.refl _ w).alloc (Nat.le_refl _) _).alloc (by simp) _).alloc (by simp; omega) _).alloc (by simp; omega) _
  refine wpIn_rangeFunc_ownH rfl (by omega) (gf := 94) (lb := #[.pointer (some ⟨w.heap.size + 1 + 1 + 1, 0, none⟩)]) rfl trivial (enters_of Tryz.func94 (by kernel_rfl) rfl)
    (lines_stops (3 - 1) (by omega) (w.heap.size + 1 + 1 + 1) s (by omega) _ bN) (fun h k => Eq.trans k h) (keepB_b (by simp)) (Below.refl _ _) (fun _ => rfl)
    (fun pre W => ((∃ v, Boxed W (w.heap.size + 1 + 1) 71 v ∧ W.ownsRow w.heap.size 57 2 v pre.length (pre.flatMap spanC) ∧ True) ∧ Below w.heap.size w W) ∧ (Boxed W (w.heap.size + 1 + 1 + 1) 9 (.string s) ∧ (Boxed W w.heap.size 71 (.slice none 0 0) ∧ Boxed W (w.heap.size + 1) 28 (.int .i64 0))))
    (fun _ _ _ => False)
    (OwnFrom.and (OwnFrom.and (Own.from (holdsRow_own w.heap.size (w.heap.size + 1 + 1) 71 57 2 (fun pre : List (Nat × Nat) => pre.length) (fun pre : List (Nat × Nat) => pre.flatMap spanC) (fun _ _ => True)) _) (ownFrom_below (Nat.le_refl _) (by simp; omega)))
      (OwnFrom.and (Own.from (boxed_own (w.heap.size + 1 + 1 + 1) 9 (fun _ : List (Nat × Nat) => .string s)) _) (OwnFrom.and (Own.from (boxed_own w.heap.size 71 (fun _ : List (Nat × Nat) => .slice none 0 0)) _) (Own.from (boxed_own (w.heap.size + 1) 28 (fun _ : List (Nat × Nat) => .int .i64 0)) _))))
    (fun _ _ _ _ _ hs _ _ => hs)
    ⟨⟨⟨_, bO.alloc _, World.ownsRow_nil _ _ _ _, trivial⟩, hB0⟩, bN, ((bR.alloc _).alloc _).alloc _, (bE.alloc _).alloc _⟩
    (fun x a' W => ∃ b, w.heap.size + 4 ≤ b ∧ Blk W b 57 #[.int .i64 (x.1 : Nat), .int .i64 (x.2 : Nat)] ∧ a' = { tmps := #[.string s, undef, .pointer (some ⟨w.heap.size, 0, none⟩), .pointer (some ⟨w.heap.size + 1, 0, none⟩), .pointer (some ⟨w.heap.size + 1 + 1, 0, none⟩), .pointer (some ⟨b, 0, none⟩), .string s, .int .i64 s.size, .bool (decide (1048576 < (s.size : Int))), .string s, .func (.func 94) #[] #[.pointer (some ⟨w.heap.size + 1 + 1 + 1, 0, none⟩)], .agg #[.int .i64 (x.1 : Nat), .int .i64 (x.2 : Nat)], undef, undef, undef, undef, undef, undef, undef, undef], defers := [] })
    (fun x a' s' X Y row ⟨b, h1, h2, h3⟩ hg hr => ⟨b, h1, blk_own (β := Unit) b 57 _ s' X Y row h2 hg (fun r e => (hr r e).2), h3⟩) ?assign ?body ?done ?stop
  case assign =>
    rintro l pre x W K ⟨⟨⟨v, hv, hrow, _⟩, hB⟩, hS, hR1, hR2⟩ hK
    have HK := Lib.hid hK
    simp only [encL]
    gi_wp2
    refine HK.out _ _ ((KeepsOthers.alloc W _).from _) (Below.heap_alloc W _ _ hS.lt) ⟨⟨⟨v, hv.alloc _, hrow.alloc _, trivial⟩, hB.alloc (Nat.le_of_lt hR1.lt) _⟩, hS.alloc _, hR1.alloc _, hR2.alloc _⟩ ⟨W.heap.size, ?_, Blk.new _ _ _, rfl⟩
    have := hS.lt
    omega
  case body =>
    rintro l pre x a' W hl hrec ⟨⟨⟨v, hv, hrow, _⟩, hB⟩, hS, hR1, hR2⟩ ⟨b, hb, hbk, rfl⟩ hlt
    have hW := hS.lt
    obtain ⟨A, c, rfl⟩ : ∃ A c, v = .slice A pre.length c := by
      rcases hrow.2 with ⟨rfl, h0⟩ | ⟨g', cap, cur, rfl, _⟩
      · exact ⟨none, 0, by rw [h0]⟩
      · exact ⟨_, _, rfl⟩
    have hc := hv.cell
    have hb0 := hbk.cell 0
    have hb1 := hbk.cell 1
    simp at hb0 hb1
    have hq : ((pre.length : Int) == 4096) = false := by rw [beq_eq_false_iff_ne]; omega
    have HRow := Lib.hid hrow
    have HV := Lib.hid hv
    have HB := Lib.hid hB
    have HS := Lib.hid hS
    have HR1 := Lib.hid hR1
    have HR2 := Lib.hid hR2
    have HBk := Lib.hid hbk
    have HI := Lib.hid hi
    have HZ0 := Lib.hid hz0
    have HZ1 := Lib.hid hz1
    have HZ2 := Lib.hid hz2
    clear hrow hv hB hS hR1 hR2 hbk hi hz0 hz1 hz2
    gi_wp2_with (gi_at_builtin; refine wpListIn_append_own _ rfl (.tmp 15) (.tmp 17) 71 rfl w.heap.size 57 i0 (.agg #[.int .i64 0, .int .i64 0]) 2 16 Tryz.underlying71 HI.out HZ0.out HZ1.out HZ2.out rfl (by decide) _ _ _ rfl (HRow.out.alloc _) ⟨W.heap.size, 0, none⟩ 1 1 [.int .i64 (x.1 : Nat), .int .i64 (x.2 : Nat)] rfl rfl (cells_new _ _ _) (by simp [Value.oneCell']) (by unfold maxLen; omega) (by omega) (by have := HB.out.size; simp; omega) ?_; intro v' w1 hown' hgrow _; obtain ⟨g', cap', rfl⟩ := ownsRow_succ hown'; obtain ⟨hv1, hv2, hr2, hk2, hb2⟩ := HV.out.appended (by decide) HRow.out HB.out.size (by omega) hown' hgrow; have hc1 := hv1.cell; have hf1 := hv1.frozen; have hS1 := (HS.out.alloc _).kept hgrow (HS.out.not_row (by decide) HRow.out); have hR11 := (HR1.out.alloc _).kept hgrow (HR1.out.not_row (by decide) HRow.out); have hR21 := (HR2.out.alloc _).kept hgrow (HR2.out.not_row (by decide) HRow.out); have HOw := Lib.hid hown'; have HGr := Lib.hid hgrow; have HKk := Lib.hid (And.intro hv2 (And.intro hr2 (And.intro hk2 hb2))); have HSS := Lib.hid (And.intro hS1 (And.intro hR11 hR21)); clear hown' hgrow hv1 hv2 hr2 hk2 hb2 hS1 hR11 hR21)
    obtain ⟨hv2, hr2, hk2, hb2⟩ := HKk.out
    obtain ⟨hS1, hR11, hR21⟩ := HSS.out
    have hS2 := hS1.other (B' := w.heap.size + 1 + 1) (by omega) (.slice (some ⟨g', 0, none⟩) (pre.length + 1) cap')
    have hR12 := hR11.other (B' := w.heap.size + 1 + 1) (by omega) (.slice (some ⟨g', 0, none⟩) (pre.length + 1) cap')
    have hR22 := hR21.other (B' := w.heap.size + 1 + 1) (by omega) (.slice (some ⟨g', 0, none⟩) (pre.length + 1) cap')
    exact ⟨hk2.from _, Eq.trans hS2 (Eq.symm HS.out), ⟨⟨⟨_, by simpa using hv2, by simpa [spanC] using hr2, trivial⟩, HB.out.trans hb2⟩, hS2, hR12, hR22⟩⟩
  case done =>
    rintro D ys W hD rfl ⟨⟨⟨v, hv, hrow, _⟩, hB⟩, hS, hR1, hR2⟩ hK
    have hc := hv.cell
    have hcR := hR1.cell
    have hcE := hR2.cell
    have hfR := hR1.frozen
    have hfE := hR2.frozen
    obtain ⟨A, c, rfl⟩ : ∃ A c, v = .slice A (linesOf s).length c := by
      rcases hrow.2 with ⟨rfl, h0⟩ | ⟨g', cap, cur, rfl, _⟩
      · exact ⟨none, 0, by rw [h0]⟩
      · exact ⟨_, _, rfl⟩
    have HRow := Lib.hid hrow
    have HV := Lib.hid hv
    have HB := Lib.hid hB
    have HR1 := Lib.hid hR1
    have HR2 := Lib.hid hR2
    clear hrow hv hB hS hR1 hR2
    gi_wp2
    have hD : w.heap.size + 4 ≤ D := by simpa using hD
    have e1 : ((W.setCell ⟨w.heap.size, 0, none⟩ (.slice A (linesOf s).length c)).setCell ⟨w.heap.size + 1, 0, none⟩ (.int .i64 0)).heap[D]? = some (.deferred (some [])) :=
      ((Below.heap_setCell _ _ _ D (by show D ≠ w.heap.size + 1; omega)).trans (Below.heap_setCell _ _ _ D (by show D ≠ w.heap.size; omega))).trans hK
    have b1 := ((HR1.out.set (.slice A (linesOf s).length c)).other (B' := w.heap.size + 1) (by omega) (.int .i64 0)).kept (grownBy_putObj' _ D (.deferred none)) (by simp; omega)
    have b2 := ((HR2.out.other (B' := w.heap.size) (by omega) (.slice A (linesOf s).length c)).set (.int .i64 0)).kept (grownBy_putObj' _ D (.deferred none)) (by simp; omega)
    have c1 := b1.cell
    have c2 := b2.cell
    have hrow2 : ((W.setCell ⟨w.heap.size, 0, none⟩ (.slice A (linesOf s).length c)).setCell ⟨w.heap.size + 1, 0, none⟩ (.int .i64 0)).ownsRow w.heap.size 57 2 (.slice A (linesOf s).length c) (linesOf s).length ((linesOf s).flatMap spanC) :=
      (HRow.out.kept (grownBy_setCell' W _ _) (.inr (HR1.out.not_row (by decide) HRow.out).symm)).kept (grownBy_setCell' _ _ _) (.inr (fun e => by
        have := HR2.out.not_row (by decide) HRow.out
        exact this e.symm))
    refine ⟨by simp, .inl ⟨_, _, rfl, run_takeDeferred e1, ?_⟩⟩
    refine ⟨.tuple #[.slice A (linesOf s).length c, .int .i64 0], ?_, _, rfl, ownsRow_putObj hrow2 _ e1 rfl, ?_⟩
    · have r : Tryz.f23.results = #[.cell 2 71, .cell 3 28] := rfl
      simp [results, r, asAddr, go_sem, c1, c2]
    · exact ((HB.out.setCell (p := ⟨w.heap.size, 0, none⟩) (Nat.le_refl _) _).setCell (p := ⟨w.heap.size + 1, 0, none⟩) (Nat.le_succ _) _).trans (belowK_b (w := w) (Nat.le_refl _) _ D _ _ (by omega) e1 rfl rfl)
  case stop =>
    rintro D c pre W _ _ h _
    exact h.elim
end Go.Proofs.Lw
