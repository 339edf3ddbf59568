/- minmax.New. minmax.Tree.Balanced, nest.New. -/
import Derived.Test.YtaejhdmkjodefaaGreatDoorJMinmax
import Derived.Deep.OwnRows
set_option linter.unusedSimpArgs false
set_option linter.unusedVariables false
namespace Go.Proofs.Lw
open Go Go.RowKit

/-- node k of the block of nodes -/
def NodeAt (w : World) (gl k : Nat) (d : ND) : Prop :=
  w.cell? ⟨gl, k * 3, none⟩ = some (.int .i64 d.sum) ∧ w.cell? ⟨gl, k * 3 + 1, none⟩ = some (.complex .f64 d.flo.f d.fhi.f) ∧ w.cell? ⟨gl, k * 3 + 2, none⟩ = some (.complex .f64 d.blo.f d.bhi.f)
structure Nodes (w : World) (gl f : Nat) : Prop where
  ex : ∃ cs, Blk w gl 224 cs ∧ cs.size = 6 * f
structure IsTree (w : World) (pt p : Addr) (bs : List Bool) (f : Nat) : Prop where
  ex : ∃ g0 gl K, pt = ⟨g0, 0, none⟩ ∧ f = 2 ^ K ∧ Blk w g0 221 #[.pointer (some p), .slice (some ⟨gl, 0, none⟩) (2 * f) (2 * f), .int .i64 f] ∧ Nodes w gl f ∧ ∀ k, 1 ≤ k → k < 2 * f → NodeAt w gl k (ndOf (tseg bs f k))
  big : bs.length ≤ 512 * f
  small : f = 1 ∨ 256 * f < bs.length

theorem NodeAt.of_cells {W W' : World} {gl k : Nat} {d : ND} (h : NodeAt W gl k d) (e : ∀ i, k * 3 ≤ i → i ≤ k * 3 + 2 → W'.cell? ⟨gl, i, none⟩ = W.cell? ⟨gl, i, none⟩) : NodeAt W' gl k d :=
  ⟨(e _ (by omega) (by omega)).trans h.1, (e _ (by omega) (by omega)).trans h.2.1, (e _ (by omega) (by omega)).trans h.2.2⟩
theorem NodeAt.ext {W W' : World} {gl k : Nat} {d : ND} (h : NodeAt W gl k d) (e : Ext W W') : NodeAt W' gl k d := ⟨e.cell h.1, e.cell h.2.1, e.cell h.2.2⟩
theorem Nodes.ext {W W' : World} {gl f : Nat} (h : Nodes W gl f) (e : Ext W W') : Nodes W' gl f := by
  obtain ⟨cs, hb, hs⟩ := h.ex
  exact ⟨cs, hb.ext e, hs⟩
theorem node_set {W : World} {gl f k : Nat} (h : Nodes W gl f) (hk : k < 2 * f) (s : Int) (r1 r2 r3 r4 : Nat) (d : ND) (hd : s = d.sum ∧ r1 = d.flo.f ∧ r2 = d.fhi.f ∧ r3 = d.blo.f ∧ r4 = d.bhi.f) :
    let W' := ((W.setCell ⟨gl, k * 3, none⟩ (.int .i64 s)).setCell ⟨gl, k * 3 + 1, none⟩ (.complex .f64 r1 r2)).setCell ⟨gl, k * 3 + 2, none⟩ (.complex .f64 r3 r4)
    Nodes W' gl f ∧ NodeAt W' gl k d ∧ ∀ m e, m ≠ k → NodeAt W gl m e → NodeAt W' gl m e := by
  obtain ⟨rfl, rfl, rfl, rfl, rfl⟩ := hd
  obtain ⟨cs, hb, hs⟩ := h.ex
  have hb3 := ((hb.set_ (k * 3) (.int .i64 d.sum)).set_ (k * 3 + 1) (.complex .f64 d.flo.f d.fhi.f)).set_ (k * 3 + 2) (.complex .f64 d.blo.f d.bhi.f)
  refine ⟨⟨_, hb3, by simpa using hs⟩, ⟨?_, ?_, ?_⟩, fun m e hm hN => hN.of_cells fun i h1 h2 => ?_⟩
  · rw [hb3.cell, Array.getElem?_setIfInBounds_ne (by omega), Array.getElem?_setIfInBounds_ne (by omega), Array.getElem?_setIfInBounds_self_of_lt (by omega)]
  · rw [hb3.cell, Array.getElem?_setIfInBounds_ne (by omega), Array.getElem?_setIfInBounds_self_of_lt (by simp; omega)]
  · rw [hb3.cell, Array.getElem?_setIfInBounds_self_of_lt (by simp; omega)]
  · rw [hb3.cell, hb.cell, Array.getElem?_setIfInBounds_ne (by omega), Array.getElem?_setIfInBounds_ne (by omega), Array.getElem?_setIfInBounds_ne (by omega)]
theorem leaf_at (p : Addr) (bs : List Bool) (a : Nat) (ai : Int) (hai : ai = a) (w : World) (h : RowB w p bs) (hb : bs.length ≤ 1073741824) (ha : a ≤ 2147483648) :
    Calls Tryz.prog 128 #[.pointer (some p), .int .i64 ai] w fun r w' => r = .returned (ndOf (seg bs a (min (a + 512) bs.length))).val ∧ Ext w w' := by
  subst hai; exact leaf_call p bs a w h hb ha
theorem make_nodes (f : Nat) (W : World) (hf : f ≤ 4194304) : (Instr.makeSlice 219 (.int .i64 (2 * (f : Int))) (.int .i64 (2 * (f : Int)))).run Tryz.prog W = .ok (.slice (some ⟨W.heap.size, 0, none⟩) (2 * f) (2 * f)) (W.alloc (.cells (madeCells #[.int .i64 0, .complex .f64 0 0, .complex .f64 0 0] (2 * f * 3)) 224)) := by
  have hinfo : (Tryz.prog.info? 224).map (fun i => (i.zero, i.size, i.bytes)) = some (some (.agg #[.int .i64 0, .complex .f64 0 0, .complex .f64 0 0]), 3, 40) := by kernel_rfl
  obtain ⟨i, hi, hzz⟩ := Option.map_eq_some_iff.1 hinfo
  simp only [Prod.mk.injEq] at hzz
  obtain ⟨hz, hs, hb⟩ := hzz
  have h := run_make (P := Tryz.prog) W 219 224 i _ Tryz.underlying219 hi hz .i64 .i64 (2 * (f : Int)) (2 * (f : Int)) (by omega) (Int.le_refl _) (by rw [hb]; omega) (by omega)
  have e : (2 * (f : Int)).toNat = 2 * f := by omega
  rw [h, e, hs]
  rfl
set_option maxHeartbeats 1000000 in
set_option maxRecDepth 100000 in
theorem minmaxNew_call (p : Addr) (bs : List Bool) (w : World) (h : RowB w p bs) (hb : bs.length ≤ 1073741824) :
    Calls Tryz.prog 85 #[.pointer (some p)] w fun e w' => ∃ pt f, e = .returned (.pointer (some pt)) ∧ IsTree w' pt p bs f ∧ Ext w w' := by
  have H := Lib.hid h
  clear h
  have HL := Lib.hid (fun W hW => rowlen_call p bs W hW)
  go_enter Tryz.func85, Tryz.ntmps85
  go_wp2_with fail
  go_loopw [] (fun wr => ∃ f K : Nat, f = 2 ^ K ∧ (f = 1 ∨ 256 * f < bs.length) ∧ Blk wr w.heap.size 221 #[.pointer (some p), .slice none 0 0, .int .i64 f] ∧ Ext w wr) (fun wr => bs.length - (match wr.cell? ⟨w.heap.size, 2, none⟩ with | some v => (intOf v).toNat | none => 0))
  case atStart => exact ⟨1, 0, rfl, .inl rfl, Blk.new _ _ _, Ext.alloc _ _⟩
  case round =>
    obtain ⟨f, K, hfK, hf1, hB, hX⟩ := hrel
    have HX := Lib.hid hX
    have HB := Lib.hid hB
    have HF := Lib.hid hfK
    clear hX hB hfK
    have hc2 := HB.out.cell 2
    simp at hc2
    have hfz : ∀ i, wr.frozen? ⟨w.heap.size, i, none⟩ = false := HB.out.frozen
    have hfp : 1 ≤ f := by rw [HF.out]; exact Nat.pow_pos (by omega)
    have hfb : f ≤ 4194304 := by omega
    have HF1 := Lib.hid hf1
    clear hf1
    have hm1 : IntKind.i64.wrap ((f : Int) * 512) = (f : Int) * 512 := IntWalk.i64_in _ (by omega)
    by_cases hlt : f * 512 < bs.length
    · have hm2 : IntKind.i64.wrap ((f : Int) * 2) = (f : Int) * 2 := IntWalk.i64_in _ (by omega)
      go_wp2_with fail
      go_quiet ((go_at_call 126; exact Calls.quiet_left (HL.out _ ((H.out.ext HX.out).ext (Ext.drewN _ _)))))
      go_wp2_with fail
      have hB2 := (HB.out.drewN nq).set_ 2 (.int .i64 ((f : Int) * 2))
      refine ⟨⟨f * 2, K + 1, by rw [HF.out, Nat.pow_succ], .inr (by omega), hB2, Ext.set (Ext.trans HX.out (Ext.drewN _ _)) (Nat.le_refl _) _⟩, ?_⟩
      rw [hB2.cell 2, hc2]
      have e1 : (intOf (.int .i64 ((f : Int) * 2))).toNat = f * 2 := by simp [intOf]; omega
      have e2 : (intOf (.int .i64 (f : Int))).toNat = f := by simp [intOf]
      show bs.length - (intOf (.int .i64 ((f : Int) * 2))).toNat < bs.length - (intOf (.int .i64 (f : Int))).toNat
      rw [e1, e2]
      omega
    · go_wp2_with fail
      go_quiet ((go_at_call 126; exact Calls.quiet_left (HL.out _ ((H.out.ext HX.out).ext (Ext.drewN _ _)))))
      have hmk : ∀ W : World, (Instr.makeSlice 219 (.int .i64 (2 * (f : Int))) (.int .i64 (2 * (f : Int)))).run Tryz.prog W = .ok (.slice (some ⟨W.heap.size, 0, none⟩) (2 * f) (2 * f)) (W.alloc (.cells (madeCells #[.int .i64 0, .complex .f64 0 0, .complex .f64 0 0] (2 * f * 3)) 224)) := fun W => make_nodes f W (by omega)
      have hc2b : ∀ n o, ((wr.drewN n).alloc o).cell? ⟨w.heap.size, 2, none⟩ = some (.int .i64 (f : Int)) := fun n o => Ext.cell (Ext.trans (Ext.drewN wr n) (Ext.alloc _ o)) hc2
      have hc2c : ∀ n o v, (((wr.drewN n).alloc o).setCell ⟨w.heap.size, 1, none⟩ v).cell? ⟨w.heap.size, 2, none⟩ = some (.int .i64 (f : Int)) := fun n o v => by
        have := (((HB.out.drewN n).ext (Ext.alloc _ o)).set_ 1 v).cell 2
        simpa using this
      have hfz2 : ∀ n o i, ((wr.drewN n).alloc o).frozen? ⟨w.heap.size, i, none⟩ = false := fun n o i => ((HB.out.drewN n).ext (Ext.alloc _ o)).frozen i
      have hc1a : ∀ n o, ((wr.drewN n).alloc o).cell? ⟨w.heap.size, 1, none⟩ = some (.slice none 0 0) := fun n o => by
        have := ((HB.out.drewN n).ext (Ext.alloc _ o)).cell 1
        simpa using this
      have hlts := HB.out.lt
      have hm3 : IntKind.i64.wrap (2 * (f : Int)) = 2 * (f : Int) := IntWalk.i64_in _ (by omega)
      have hm4 : IntKind.i64.wrap ((f : Int) - 1) = (f : Int) - 1 := IntWalk.i64_in _ (by omega)
      go_wp2_with fail
      have hT0 : Blk (((wr.drewN nq).alloc (.cells (madeCells #[.int .i64 0, .complex .f64 0 0, .complex .f64 0 0] (2 * f * 3)) 224)).setCell ⟨w.heap.size, 1, none⟩ (.slice (some ⟨wr.heap.size, 0, none⟩) (2 * f) (2 * f))) w.heap.size 221 #[.pointer (some p), .slice (some ⟨wr.heap.size, 0, none⟩) (2 * f) (2 * f), .int .i64 f] :=
        ((HB.out.drewN nq).ext (Ext.alloc _ _)).set_ 1 _
      have hN0 : Nodes (((wr.drewN nq).alloc (.cells (madeCells #[.int .i64 0, .complex .f64 0 0, .complex .f64 0 0] (2 * f * 3)) 224)).setCell ⟨w.heap.size, 1, none⟩ (.slice (some ⟨wr.heap.size, 0, none⟩) (2 * f) (2 * f))) wr.heap.size f :=
        ⟨_, (Blk.new (wr.drewN nq) 224 _).other (Nat.ne_of_gt hlts) _, by rw [size_madeCells]; omega⟩
      have hX0 : Ext w (((wr.drewN nq).alloc (.cells (madeCells #[.int .i64 0, .complex .f64 0 0, .complex .f64 0 0] (2 * f * 3)) 224)).setCell ⟨w.heap.size, 1, none⟩ (.slice (some ⟨wr.heap.size, 0, none⟩) (2 * f) (2 * f))) :=
        Ext.set (Ext.trans (Ext.trans HX.out (Ext.drewN _ _)) (Ext.alloc _ _)) (Nat.le_refl _) _
      clear hmk hc2b hc2c hfz2 hc1a
      generalize (((wr.drewN nq).alloc (.cells (madeCells #[.int .i64 0, .complex .f64 0 0, .complex .f64 0 0] (2 * f * 3)) 224)).setCell ⟨w.heap.size, 1, none⟩ (.slice (some ⟨wr.heap.size, 0, none⟩) (2 * f) (2 * f))) = W0 at *
      clear HB HX hc2 hfz
      generalize wr.heap.size = gl at *
      have HWs : Hid (w.heap.size < gl) := Lib.hid hlts
      clear hlts
      have H0 := Lib.hid (⟨hT0, hN0, hX0⟩ : _ ∧ _ ∧ _)
      clear hT0 hN0 hX0
      go_loopw [37] (fun i wr => ∃ j : Nat, j ≤ f ∧ i = .int .i64 (j : Nat) ∧ Blk wr w.heap.size 221 #[.pointer (some p), .slice (some ⟨gl, 0, none⟩) (2 * f) (2 * f), .int .i64 f] ∧ Nodes wr gl f ∧ (∀ m, m < j → NodeAt wr gl (f + m) (ndOf (blk bs m))) ∧ Ext w wr) (fun i _ => f - (intOf i).toNat)
      case atStart => exact ⟨0, Nat.zero_le _, rfl, H0.out.1, H0.out.2.1, fun m hm => absurd hm (Nat.not_lt_zero _), H0.out.2.2⟩
      case round =>
        clear H0
        obtain ⟨j, hj, rfl, hT, hN, hD, hX⟩ := hrel
        have HT := Lib.hid hT
        have HN := Lib.hid hN
        have HD := Lib.hid hD
        have HX := Lib.hid hX
        clear hT hN hD hX
        by_cases hjf : j < f
        · have hcb : decide ((j : Int) < (f : Int)) = true := by simp; omega
          have hm5 : IntKind.i64.wrap ((f : Int) + j) = (f : Int) + j := IntWalk.i64_in _ (by omega)
          have hm6 : IntKind.i64.wrap ((j : Int) * 512) = (j : Int) * 512 := IntWalk.i64_in _ (by omega)
          have hx1 : ∀ x : ExtW wr, x.val.cell? ⟨w.heap.size, 1, none⟩ = some (.slice (some ⟨gl, 0, none⟩) (2 * f) (2 * f)) := fun x => Ext.cell x.property (HT.out.cell 1)
          have hx2 : ∀ x : ExtW wr, x.val.cell? ⟨w.heap.size, 2, none⟩ = some (.int .i64 (f : Int)) := fun x => Ext.cell x.property (HT.out.cell 2)
          go_wp2_with fail
          refine wp_region_quiet_tail (C := fun w' => ∃ x : ExtW wr, w' = x.val) 14 (by kernel_rfl) (by kernel_rfl) (ExtC.start _) ?_
          simp only [List.take_succ_cons, List.take_zero]
          have HLf : Hid (∀ x : ExtW wr, Calls Tryz.prog 128 #[.pointer (some p), .int .i64 ((j : Int) * 512)] x.val fun e w'' => e = .returned (ndOf (blk bs j)).val ∧ ∃ y : ExtW wr, w'' = y.val) :=
            Lib.hid fun x => quiet_ext (leaf_at p bs (512 * j) _ (by omega) _ (H.out.ext (Ext.trans HX.out x.property)) hb (by omega))
          have hst := store_complex
          have hi1 : (0 : Int) ≤ (f : Int) + j := by omega
          have hi2 : ((f : Int) + (j : Int)).toNat = f + j := by omega
          have hi3 : f + j < 2 * f := by omega
          have hi4 : ¬ ((f : Int) + (j : Int) < 0) := by omega
          have hi5 : ¬ (2 * (f : Int) ≤ (f : Int) + (j : Int)) := by omega
          unfold ND.val at HLf
          have hdd : Hid (∃ d, d = ndOf (blk bs j) ∧ ∃ r1, r1 = d.flo.f ∧ ∃ r2, r2 = d.fhi.f ∧ ∃ r3, r3 = d.blo.f ∧ ∃ r4, r4 = d.bhi.f ∧ ∃ s, s = d.sum) := Lib.hid ⟨_, rfl, _, rfl, _, rfl, _, rfl, _, rfl, _, rfl⟩
          obtain ⟨d, hd, r1, hr1, r2, hr2, r3, hr3, r4, hr4, sd, hsd⟩ := hdd.out
          rw [← hd, ← hr1, ← hr2, ← hr3, ← hr4, ← hsd] at HLf
          have HDD := Lib.hid (⟨hd, hr1, hr2, hr3, hr4, hsd⟩ : _ ∧ _ ∧ _ ∧ _ ∧ _ ∧ _)
          clear hdd hd hr1 hr2 hr3 hr4 hsd
          repeat (quiet_step ((go_at_call 128; with_reducible exact HLf.out _)))
          refine wpQuiet_nil ?_
          rintro W3 ⟨x3, rfl⟩
          simp only [List.drop_succ_cons, List.drop_zero]
          have hN3 := HN.out.ext x3.property
          have hT3 := HT.out.ext x3.property
          have hX3 := Ext.trans HX.out x3.property
          have hD3 : ∀ m, m < j → NodeAt x3.val gl (f + m) (ndOf (blk bs m)) := fun m hm => (HD.out m hm).ext x3.property
          generalize x3.val = W3 at *
          have HN3 := Lib.hid hN3
          have HT3 := Lib.hid hT3
          have HX3 := Lib.hid hX3
          have HD3 := Lib.hid hD3
          obtain ⟨cs, hcs, hsz⟩ := hN3.ex
          have hk0 : W3.cell? ⟨gl, (f + j) * 3, none⟩ = some (cs[(f + j) * 3]'(by omega)) := (hcs.cell _).trans (Array.getElem?_eq_getElem _)
          have hk1 : W3.cell? ⟨gl, (f + j) * 3 + 1, none⟩ = some (cs[(f + j) * 3 + 1]'(by omega)) := (hcs.cell _).trans (Array.getElem?_eq_getElem _)
          have hk2 : W3.cell? ⟨gl, (f + j) * 3 + 2, none⟩ = some (cs[(f + j) * 3 + 2]'(by omega)) := (hcs.cell _).trans (Array.getElem?_eq_getElem _)
          have hfn : ∀ i, W3.frozen? ⟨gl, i, none⟩ = false := hcs.frozen
          generalize cs[(f + j) * 3]'(by omega) = c0 at *
          generalize cs[(f + j) * 3 + 1]'(by omega) = c1 at *
          generalize cs[(f + j) * 3 + 2]'(by omega) = c2 at *
          clear hN3 hT3 hX3 hD3 hcs hsz hx1 hx2 HLf HT HN HD HX
          go_wp2_with fail
          obtain ⟨n1, n2, n3⟩ := node_set HN3.out hi3 sd r1 r2 r3 r4 (ndOf (blk bs j)) (by obtain ⟨rfl, rfl, rfl, rfl, rfl, rfl⟩ := HDD.out; exact ⟨rfl, rfl, rfl, rfl, rfl⟩)
          refine ⟨⟨j + 1, hjf, by congr 1, ((HT3.out.other (Nat.ne_of_lt HWs.out) _).other (Nat.ne_of_lt HWs.out) _).other (Nat.ne_of_lt HWs.out) _, n1, fun m hm => ?_, Ext.set (Ext.set (Ext.set HX3.out (Nat.le_of_lt HWs.out) _) (Nat.le_of_lt HWs.out) _) (Nat.le_of_lt HWs.out) _⟩, by simp [intOf]; omega⟩
          by_cases hmj : m = j
          · rw [hmj]; exact n2
          · exact n3 _ _ (by omega) (HD3.out m (by omega))
        · obtain rfl : j = f := by omega
          clear hjf hj
          have hc2 := HT.out.cell 2
          simp at hc2
          go_wp2_with fail
          go_loopw [5] (fun i wr => ∃ k : Nat, k < j ∧ i = .int .i64 (k : Nat) ∧ Blk wr w.heap.size 221 #[.pointer (some p), .slice (some ⟨gl, 0, none⟩) (2 * j) (2 * j), .int .i64 j] ∧ Nodes wr gl j ∧ (∀ m, k < m → m < 2 * j → NodeAt wr gl m (ndOf (tseg bs j m))) ∧ Ext w wr) (fun i _ => (intOf i).toNat)
          case atStart =>
            refine ⟨j - 1, by omega, by congr 1; omega, HT.out, HN.out, fun m h1 h2 => ?_, HX.out⟩
            have := HD.out (m - j) (by omega)
            rw [show j + (m - j) = m by omega] at this
            rw [tseg, if_pos (.inl (by omega))]; exact this
          case round =>
            clear HT HN HD HX hc2
            obtain ⟨k, hk, rfl, hT, hN, hD, hX⟩ := hrel
            have HT := Lib.hid hT
            have HN := Lib.hid hN
            have HD := Lib.hid hD
            have HX := Lib.hid hX
            clear hT hN hD hX
            by_cases hk0 : 0 < k
            · have hm7 : IntKind.i64.wrap (2 * (k : Int)) = 2 * (k : Int) := IntWalk.i64_in _ (by omega)
              have hm8 : IntKind.i64.wrap (2 * (k : Int) + 1) = 2 * (k : Int) + 1 := IntWalk.i64_in _ (by omega)
              have hm9 : IntKind.i64.wrap ((k : Int) - 1) = (k : Int) - 1 := IntWalk.i64_in _ (by omega)
              have hx1 : ∀ x : ExtW wr, x.val.cell? ⟨w.heap.size, 1, none⟩ = some (.slice (some ⟨gl, 0, none⟩) (2 * j) (2 * j)) := fun x => Ext.cell x.property (HT.out.cell 1)
              have hcb : decide ((0 : Int) < (k : Int)) = true := by simp; omega
              have hst := store_complex
              have hi1 : (0 : Int) ≤ 2 * (k : Int) := by omega
              have hi2 : (2 * (k : Int)).toNat = 2 * k := by omega
              have hi3 : 2 * k < 2 * j := by omega
              have hi4 : 2 * k + 1 < 2 * j := by omega
              have hi5 : (2 * (k : Int) + 1).toNat = 2 * k + 1 := by omega
              have hi6 : 2 * (k : Int) < 2 * (j : Int) := by omega
              have hi7 : 2 * (k : Int) + 1 < 2 * (j : Int) := by omega
              have hi8 : (0 : Int) ≤ 2 * (k : Int) + 1 := by omega
              have hj2 : Hid (k < 2 * j) := Lib.hid (by omega)
              have HLj : Hid (∀ x : ExtW wr, Calls Tryz.prog 129 #[(ndOf (tseg bs j (2 * k))).val, (ndOf (tseg bs j (2 * k + 1))).val] x.val fun e w'' => e = .returned (ndOf (tseg bs j k)).val ∧ ∃ y : ExtW wr, w'' = y.val) :=
                Lib.hid fun x => quiet_ext (by
                  have hl1 := nd_lt (tseg bs j (2 * k)) (by have := tseg_len bs K (2 * k) (by omega) (by rw [← HF.out]; omega); rw [← HF.out] at this; omega)
                  have hl2 := nd_lt (tseg bs j (2 * k + 1)) (by have := tseg_len bs K (2 * k + 1) (by omega) (by rw [← HF.out]; omega); rw [← HF.out] at this; omega)
                  have := join_call _ _ x.val hl1 hl2
                  rw [← nd_app] at this
                  rwa [tseg.eq_1 bs j k, if_neg (by omega)])
              unfold ND.val at HLj
              have hdd : Hid (∃ d1, d1 = ndOf (tseg bs j (2 * k)) ∧ ∃ d2, d2 = ndOf (tseg bs j (2 * k + 1)) ∧ ∃ d, d = ndOf (tseg bs j k) ∧ ∃ r1, r1 = d.flo.f ∧ ∃ r2, r2 = d.fhi.f ∧ ∃ r3, r3 = d.blo.f ∧ ∃ r4, r4 = d.bhi.f ∧ ∃ s, s = d.sum) := Lib.hid ⟨_, rfl, _, rfl, _, rfl, _, rfl, _, rfl, _, rfl, _, rfl, _, rfl⟩
              obtain ⟨d1, hd1, d2, hd2, d, hd, r1, hr1, r2, hr2, r3, hr3, r4, hr4, sd, hsd⟩ := hdd.out
              have HN1 := HD.out (2 * k) (by omega) hi3
              have HN2 := HD.out (2 * k + 1) (by omega) hi4
              rw [← hd1] at HN1
              rw [← hd2] at HN2
              rw [← hd, ← hd1, ← hd2, ← hr1, ← hr2, ← hr3, ← hr4, ← hsd] at HLj
              have HDD := Lib.hid (⟨hd, hr1, hr2, hr3, hr4, hsd⟩ : _ ∧ _ ∧ _ ∧ _ ∧ _ ∧ _)
              clear hdd hd hr1 hr2 hr3 hr4 hsd hd1 hd2
              obtain ⟨a1, a2, a3⟩ := HN1
              obtain ⟨b1, b2, b3⟩ := HN2
              have ha1 : ∀ x : ExtW wr, x.val.cell? ⟨gl, 2 * k * 3, none⟩ = _ := fun x => Ext.cell x.property a1
              have ha2 : ∀ x : ExtW wr, x.val.cell? ⟨gl, 2 * k * 3 + 1, none⟩ = _ := fun x => Ext.cell x.property a2
              have ha3 : ∀ x : ExtW wr, x.val.cell? ⟨gl, 2 * k * 3 + 2, none⟩ = _ := fun x => Ext.cell x.property a3
              have hb1 : ∀ x : ExtW wr, x.val.cell? ⟨gl, (2 * k + 1) * 3, none⟩ = _ := fun x => Ext.cell x.property b1
              have hb2 : ∀ x : ExtW wr, x.val.cell? ⟨gl, (2 * k + 1) * 3 + 1, none⟩ = _ := fun x => Ext.cell x.property b2
              have hb3 : ∀ x : ExtW wr, x.val.cell? ⟨gl, (2 * k + 1) * 3 + 2, none⟩ = _ := fun x => Ext.cell x.property b3
              generalize d1.flo.f = f1 at *
              generalize d1.fhi.f = f2 at *
              generalize d1.blo.f = f3 at *
              generalize d1.bhi.f = f4 at *
              generalize d1.sum = f0 at *
              generalize d2.flo.f = g1 at *
              generalize d2.fhi.f = g2 at *
              generalize d2.blo.f = g3 at *
              generalize d2.bhi.f = g4 at *
              generalize d2.sum = g0 at *
              clear a1 a2 a3 b1 b2 b3
              go_wp2_with fail
              refine wp_region_quiet_tail (C := fun w' => ∃ x : ExtW wr, w' = x.val) 23 (by kernel_rfl) (by kernel_rfl) (ExtC.start _) ?_
              simp only [List.take_succ_cons, List.take_zero]
              repeat (quiet_step ((go_at_call 129; with_reducible exact HLj.out _)))
              refine wpQuiet_nil ?_
              rintro W3 ⟨x3, rfl⟩
              simp only [List.drop_succ_cons, List.drop_zero]
              have hN3 := HN.out.ext x3.property
              have hT3 := HT.out.ext x3.property
              have hX3 := Ext.trans HX.out x3.property
              have hD3 : ∀ m, k < m → m < 2 * j → NodeAt x3.val gl m (ndOf (tseg bs j m)) := fun m hm hm2 => (HD.out m hm hm2).ext x3.property
              generalize x3.val = W3 at *
              have HN3 := Lib.hid hN3
              have HT3 := Lib.hid hT3
              have HX3 := Lib.hid hX3
              have HD3 := Lib.hid hD3
              have hk2j := hj2.out
              obtain ⟨cs, hcs, hsz⟩ := hN3.ex
              have hk0' : W3.cell? ⟨gl, k * 3, none⟩ = some (cs[k * 3]'(by omega)) := (hcs.cell _).trans (Array.getElem?_eq_getElem _)
              have hk1' : W3.cell? ⟨gl, k * 3 + 1, none⟩ = some (cs[k * 3 + 1]'(by omega)) := (hcs.cell _).trans (Array.getElem?_eq_getElem _)
              have hk2' : W3.cell? ⟨gl, k * 3 + 2, none⟩ = some (cs[k * 3 + 2]'(by omega)) := (hcs.cell _).trans (Array.getElem?_eq_getElem _)
              have hfn : ∀ i, W3.frozen? ⟨gl, i, none⟩ = false := hcs.frozen
              generalize cs[k * 3]'(by omega) = c0 at *
              generalize cs[k * 3 + 1]'(by omega) = c1 at *
              generalize cs[k * 3 + 2]'(by omega) = c2 at *
              clear hN3 hT3 hX3 hD3 hcs hsz hx1 HLj HT HN HD HX ha1 ha2 ha3 hb1 hb2 hb3
              go_wp2_with fail
              obtain ⟨n1, n2, n3⟩ := node_set HN3.out hj2.out sd r1 r2 r3 r4 (ndOf (tseg bs j k)) (by obtain ⟨rfl, rfl, rfl, rfl, rfl, rfl⟩ := HDD.out; exact ⟨rfl, rfl, rfl, rfl, rfl⟩)
              refine ⟨⟨k - 1, by omega, by congr 1; omega, ((HT3.out.other (Nat.ne_of_lt HWs.out) _).other (Nat.ne_of_lt HWs.out) _).other (Nat.ne_of_lt HWs.out) _, n1, fun m hm hm2 => ?_, Ext.set (Ext.set (Ext.set HX3.out (Nat.le_of_lt HWs.out) _) (Nat.le_of_lt HWs.out) _) (Nat.le_of_lt HWs.out) _⟩, by simp [intOf]; omega⟩
              by_cases hmj : m = k
              · rw [hmj]; exact n2
              · exact n3 _ _ hmj (HD3.out m (by omega) hm2)
            · obtain rfl : k = 0 := by omega
              go_wp2_with fail
              go_ret
              refine ⟨⟨w.heap.size, 0, none⟩, j, rfl, ⟨⟨w.heap.size, gl, K, rfl, HF.out, HT.out, HN.out, fun m h1 h2 => HD.out m (by omega) h2⟩, by omega, HF1.out⟩, HX.out⟩
end Go.Proofs.Lw
namespace Go.Proofs.Lw
open Go Go.RowKit

/-- a list that is balanced -/
def balB (bs : List Bool) : Bool := bs.isEmpty || (exB bs == 0 && decide (0 ≤ loB bs))

theorem geq_fl (n : Int) (h : n.natAbs < 2 ^ 53) : (FloatKind.f64.format.order (fl n) 0 == some .gt || FloatKind.f64.format.order (fl n) 0 == some .eq) = decide (0 ≤ n) := by
  have ho := fl_order n 0 h (by decide)
  rw [fl_zero, cmp_eq] at ho
  have ho' : FloatKind.f64.format.order (fl n) 0 = _ := ho
  rw [ho']
  by_cases h1 : n < 0
  · rw [if_pos h1, decide_eq_false (by omega)]; rfl
  · rw [if_neg h1, decide_eq_true (by omega)]
    split <;> rfl
theorem balanced_call (pt p : Addr) (bs : List Bool) (f : Nat) (w : World) (h : IsTree w pt p bs f) (hr : RowB w p bs) (hb : bs.length ≤ 1073741824) :
    Calls Tryz.prog 86 #[.pointer (some pt)] w fun e w' => e = .returned (.bool (balB bs)) ∧ w = w' := by
  have HL := Lib.hid (rowlen_call p bs w hr)
  obtain ⟨g0, gl, K, rfl, hf, hB, hN, hD⟩ := h.ex
  have hc0 := hB.cell 0
  have hc1 := hB.cell 1
  simp at hc0 hc1
  have hK : 0 < 2 ^ K := Nat.pow_pos (by omega)
  have hn := hD 1 (Nat.le_refl _) (by omega)
  rw [hf, tseg_root bs K (by rw [← hf]; exact h.big)] at hn
  obtain ⟨a1, a2, a3⟩ := hn
  have hi : (1 : Int) < 2 * (f : Int) := by omega
  clear h hD a3 hN hB hr
  simp only [Nat.one_mul] at a1 a2
  by_cases h0 : bs = []
  · subst h0
    go_enter Tryz.func86, Tryz.ntmps86
    go_wp2_with (go_at_call 126; refine HL.out.mono ?_; rintro e w' ⟨rfl, rfl⟩)
    go_ret
    exact ⟨rfl, rfl⟩
  · have hq : ((bs.length : Int) == 0) = false := by rw [beq_eq_false_iff_ne]; have := List.length_pos_iff.2 h0; omega
    have hbl := loB_bd bs h0
    have hg := geq_fl (loB bs) (by omega)
    have e1 : (ndOf bs).flo.f = fl (loB bs) := by simp only [ndOf, foLo, if_neg h0]; rfl
    have e2 : (ndOf bs).sum = exB bs := rfl
    have HBl : Hid (balB bs = (exB bs == 0 && decide (0 ≤ loB bs))) := Lib.hid (by unfold balB; rw [List.isEmpty_eq_false_iff.2 h0]; rfl)
    rw [e1] at a2
    rw [e2] at a1
    generalize balB bs = bb at *
    generalize fl (loB bs) = fv at *
    generalize loB bs = lv at *
    generalize (ndOf bs).fhi.f = fh at *
    generalize exB bs = ev at *
    by_cases hz : ev = 0
    · subst hz
      go_enter Tryz.func86, Tryz.ntmps86
      go_wp2_with (go_at_call 126; refine HL.out.mono ?_; rintro e w' ⟨rfl, rfl⟩)
      go_ret
      rw [HBl.out]
      exact ⟨ret_bool (by simp), rfl⟩
    · have hq2 : (ev == 0) = false := by rw [beq_eq_false_iff_ne]; exact hz
      go_enter Tryz.func86, Tryz.ntmps86
      go_wp2_with (go_at_call 126; refine HL.out.mono ?_; rintro e w' ⟨rfl, rfl⟩)
      go_ret
      rw [HBl.out]
      exact ⟨ret_bool (by rw [hq2]; rfl), rfl⟩

/-- a nest behind a pointer -/
def IsNest (w : World) (pn p : Addr) (bs : List Bool) : Prop :=
  ∃ gn pt pc f, pn = ⟨gn, 0, none⟩ ∧ Blk w gn 173 #[.pointer (some p), .pointer (some pt), .pointer (some pc)] ∧ IsTree w pt p bs f ∧ IsChooser w pc p bs
theorem IsTree.ext {w w' : World} {pt p : Addr} {bs : List Bool} {f : Nat} (h : IsTree w pt p bs f) (e : Ext w w') : IsTree w' pt p bs f := by
  obtain ⟨g0, gl, K, a, b, c, d, n⟩ := h.ex
  exact ⟨⟨g0, gl, K, a, b, c.ext e, d.ext e, fun k h1 h2 => (n k h1 h2).ext e⟩, h.big, h.small⟩
theorem nestNew_call (p : Addr) (bs : List Bool) (w : World) (hr : RowB w p bs) (hb : bs.length ≤ 1073741824) :
    Calls Tryz.prog 43 #[.pointer (some p)] w fun e w' => Ext w w' ∧ ((balB bs = false ∧ e = .returned (.tuple #[.pointer none, .int .i64 3])) ∨
      (balB bs = true ∧ ∃ pn, e = .returned (.tuple #[.pointer (some pn), .int .i64 0]) ∧ IsNest w' pn p bs)) := by
  have HR := Lib.hid hr
  clear hr
  cases hbal : balB bs with
  | false =>
    go_enter Tryz.func43, Tryz.ntmps43
    go_wp2_with (first
      | (go_at_call 85; refine (minmaxNew_call p bs _ HR.out hb).mono ?_; rintro e w1 ⟨pt, f, rfl, hT, hX⟩; have HT := Lib.hid hT; have HX := Lib.hid hX; clear hT hX)
      | (go_at_call 86; refine (balanced_call pt p bs f _ HT.out (HR.out.ext HX.out) hb).mono ?_; rw [hbal]; rintro e w' ⟨rfl, rfl⟩))
    go_ret2
    exact ⟨HX.out, .inl ⟨trivial, rfl⟩⟩
  | true =>
    go_enter Tryz.func43, Tryz.ntmps43
    go_wp2_with (first
      | (go_at_call 85; refine (minmaxNew_call p bs _ HR.out hb).mono ?_; rintro e w1 ⟨pt, f, rfl, hT, hX⟩; have HT := Lib.hid hT; have HX := Lib.hid hX; clear hT hX)
      | (go_at_call 86; refine (balanced_call pt p bs f _ HT.out (HR.out.ext HX.out) hb).mono ?_; rw [hbal]; rintro e w' ⟨rfl, rfl⟩)
      | (go_at_call 87; refine (chooser_call p bs _ (HR.out.ext HX.out)).mono ?_; rintro e w2 ⟨pc, rfl, hC, hX2⟩; have HC := Lib.hid hC; have HX2 := Lib.hid hX2; clear hC hX2))
    go_ret2
    exact ⟨Ext.trans (Ext.trans HX.out HX2.out) (Ext.alloc _ _),     .inr ⟨trivial, _, rfl, ⟨_, pt, pc, f, rfl, Blk.new _ _ _, (HT.out.ext HX2.out).ext (Ext.alloc _ _), HC.out.ext (Ext.alloc _ _)⟩⟩⟩
end Go.Proofs.Lw
