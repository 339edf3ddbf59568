/- split.Records, split.Text. load.Build, told only as far as its records and that it ends. -/
import Derived.Test.YtaejhdmkjodefaaGreatDoorJSplit
import Derived.Test.YtaejhdmkjodefaaGreatDoorJValid
set_option linter.unusedSimpArgs false
set_option linter.unusedVariables false
namespace Go.Proofs.Lw
open Go Go.RowKit

/-- a slice value that reads as these spans -/
def IsSpans (w : World) (v : Value) (l : List (Nat × Nat)) : Prop :=
  ∃ A c, v = .slice A l.length c ∧ l.length ≤ c ∧ c ≤ maxLen ∧ (0 < l.length → ∃ g cs, A = some ⟨g, 0, none⟩ ∧ Blk w g 57 cs ∧ ∀ i (h : i < l.length), cs[i * 2]? = some (.int .i64 (l[i].1 : Nat)) ∧ cs[i * 2 + 1]? = some (.int .i64 (l[i].2 : Nat)))
theorem flatSpan_get : ∀ (l : List (Nat × Nat)) (i : Nat) (h : i < l.length), (l.flatMap spanC)[i * 2]? = some (.int .i64 (l[i].1 : Nat)) ∧ (l.flatMap spanC)[i * 2 + 1]? = some (.int .i64 (l[i].2 : Nat))
  | [], i, h => absurd h (Nat.not_lt_zero _)
  | x :: r, 0, h => by simp [spanC]
  | x :: r, i + 1, h => by
    have := flatSpan_get r i (by simpa using h)
    simp only [List.flatMap_cons, spanC, List.getElem_cons_succ]
    rw [show (i + 1) * 2 = i * 2 + 2 by omega]
    simpa using this
theorem spans_of_row {w : World} {base : Nat} {v : Value} {l : List (Nat × Nat)} (h : w.ownsRow base 57 2 v l.length (l.flatMap spanC)) : IsSpans w v l := by
  rcases h.2 with ⟨rfl, h0⟩ | ⟨g, cap, cur, rfl, _, hg, hc1, hc2, _, ht⟩
  · exact ⟨none, 0, by rw [h0], by omega, by decide, fun h => by omega⟩
  · refine ⟨some ⟨g, 0, none⟩, cap, rfl, hc1, hc2, fun _ => ⟨g, cur, rfl, hg, fun i hi => ?_⟩⟩
    obtain ⟨h1, h2⟩ := flatSpan_get l i hi
    rw [← ht, List.getElem?_take, if_pos (by omega), Array.getElem?_toList] at h1 h2
    exact ⟨h1, h2⟩
theorem IsSpans.ext {w w' : World} {v : Value} {l : List (Nat × Nat)} (h : IsSpans w v l) (e : Ext w w') : IsSpans w' v l := by
  obtain ⟨A, c, h1, h2, h3, h4⟩ := h
  exact ⟨A, c, h1, h2, h3, fun h0 => by obtain ⟨g, cs, a, b, d⟩ := h4 h0; exact ⟨g, cs, a, b.ext e, d⟩⟩
theorem IsSpans.cells {w : World} {A : Option Addr} {n c : Nat} {l : List (Nat × Nat)} (h : IsSpans w (.slice A n c) l) {k : Nat} (hk : k < l.length) :
    ∃ g, A = some ⟨g, 0, none⟩ ∧ w.cell? ⟨g, k * 2, none⟩ = some (.int .i64 (l[k].1 : Nat)) ∧ w.cell? ⟨g, k * 2 + 1, none⟩ = some (.int .i64 (l[k].2 : Nat)) := by
  obtain ⟨A', c', h1, _, _, h4⟩ := h
  obtain ⟨g, cs, rfl, hb, hc⟩ := h4 (by omega)
  injection h1 with e1 e2 e3
  exact ⟨g, e1, (hb.cell _).trans (hc k hk).1, (hb.cell _).trans (hc k hk).2⟩

theorem own_extR {w w' : World} {base : Nat} {e : TypeId} {size n : Nat} {v : Value} {xs : List Value} (h : w.ownsRow base e size v n xs) (x : Ext w w') : w'.ownsRow base e size v n xs := by
  refine ⟨h.1, ?_⟩
  rcases h.2 with h2 | ⟨g', cap, cur, rfl, hb, hh, r⟩
  · exact .inl h2
  · exact .inr ⟨g', cap, cur, rfl, hb, (Blk.ext (w := w) (t := e) (cs := cur) hh x), r⟩
theorem own_mono {w : World} {base base' : Nat} {e : TypeId} {size n : Nat} {v : Value} {xs : List Value} (h : w.ownsRow base e size v n xs) (hb : base' ≤ base) : w.ownsRow base' e size v n xs := by
  refine ⟨h.1, ?_⟩
  rcases h.2 with h2 | ⟨g', cap, cur, rfl, hb', r⟩
  · exact .inl h2
  · exact .inr ⟨g', cap, cur, rfl, Nat.le_trans hb hb', r⟩
theorem own_form {w : World} {base : Nat} {e : TypeId} {size n : Nat} {v : Value} {xs : List Value} (h : w.ownsRow base e size v n xs) : ∃ A c, v = .slice A n c := by
  rcases h.2 with ⟨rfl, h0⟩ | ⟨g', cap, cur, rfl, _⟩
  · exact ⟨none, 0, by rw [h0]⟩
  · exact ⟨_, _, rfl⟩
/-- a record: its span, verdict, and what stands beside it -/
structure Rec where
  from_ : Nat
  to_ : Nat
  verdict : Nat
  at_ : Nat
def recC (r : Rec) : List Value := [.int .i64 r.from_, .int .i64 r.to_, .int .i64 r.verdict, .int .i64 r.at_]
def recV (r : Rec) : Value := .agg #[.int .i64 r.from_, .int .i64 r.to_, .int .i64 r.verdict, .int .i64 r.at_]
def recAt (s : ByteArray) (deep : Nat) (p : Nat × Nat) : Rec := ⟨p.1, p.2, (validS (s.extract p.1 p.2) deep).1, (validS (s.extract p.1 p.2) deep).2⟩
def recsOf (s : ByteArray) (deep : Nat) : List Rec := (linesOf s).map (recAt s deep)
set_option maxRecDepth 100000 in
theorem stext_call (s : ByteArray) (r : Rec) (h1 : r.from_ ≤ r.to_) (h2 : r.to_ ≤ s.size) (hs : s.size ≤ 1073741824) (w : World) :
    Calls Tryz.prog 19 #[.string s, recV r] w fun e w' => e = .returned (.string (s.extract r.from_ r.to_)) ∧ Ext w w' := by
  obtain ⟨a, b, vd, at_⟩ := r
  dsimp only at h1 h2
  simp only [recV]
  have m1 : max (a : Int) 0 = (a : Int) := by omega
  have m2 : min (a : Int) (s.size : Int) = (a : Int) := by omega
  have m3 : max (b : Int) (a : Int) = (b : Int) := by omega
  have m4 : min (b : Int) (s.size : Int) = (b : Int) := by omega
  go_enter Tryz.func19, Tryz.ntmps19
  go_wp2_with fail
  go_ret
  exact ⟨rfl, Ext.alloc _ _⟩
theorem rec_info : (Tryz.prog.info? 59).map (fun i => (i.zero, i.size, i.bytes)) = some (some (.agg #[.int .i64 0, .int .i64 0, .int .i64 0, .int .i64 0]), 4, 32) := by kernel_rfl
set_option maxRecDepth 100000 in
set_option maxHeartbeats 2000000 in
theorem records_call (s : ByteArray) (deep : Nat) (hs : s.size ≤ 1048576) (hd1 : 1 ≤ deep) (hd2 : deep ≤ 4096) (hm : (linesOf s).length ≤ 4096) (w : World) :
    Calls Tryz.prog 17 #[.string s, .int .i64 deep] w fun e W' => ∃ v, e = .returned (.tuple #[v, .int .i64 0]) ∧ W'.ownsRow w.heap.size 59 4 v (recsOf s deep).length ((recsOf s deep).flatMap recC) ∧ Ext w W' := by
  obtain ⟨i0, hi, hz0, hz1, hz2⟩ := info_parts rec_info
  have HI := Lib.hid hi
  have HZ0 := Lib.hid hz0
  have HZ1 := Lib.hid hz1
  have HZ2 := Lib.hid hz2
  clear hi hz0 hz1 hz2
  have HL := Lib.hid (fun W => lines_call s hs hm W)
  have HV := Lib.hid (fun t (ht : t.size ≤ 1073741824) W => validate_call t deep hd1 hd2 ht W)
  have HIn := Lib.hid (linesF_in s (s.size + 1) 0)
  change Hid (∀ x ∈ linesOf s, x.1 ≤ x.2 ∧ x.2 ≤ s.size) at HIn
  have HR : Hid (recsOf s deep = (linesOf s).map (recAt s deep)) := Lib.hid rfl
  generalize recsOf s deep = R at *
  generalize linesOf s = L at *
  go_enter Tryz.func17, Tryz.ntmps17
  go_wp2_with (go_at_call 23; refine (HL.out _).mono ?_; rintro e w1 ⟨v, rfl, hrow, hx⟩; have HSp := Lib.hid (spans_of_row hrow); have HX := Lib.hid hx; clear hrow hx; obtain ⟨A, c, rfl, _, _, _⟩ := HSp.out)
  go_loopw [8, 30] (fun out i wr => ∃ j : Nat, j ≤ L.length ∧ i = .int .i64 (j : Nat) ∧ wr.ownsRow w1.heap.size 59 4 out j (((L.take j).map (recAt s deep)).flatMap recC) ∧ Ext w1 wr) (fun _ i _ => L.length - (intOf i).toNat)
  case atStart => exact ⟨0, Nat.zero_le _, rfl, World.ownsRow_nil _ _ _ _, Ext.refl _⟩
  case round =>
    obtain ⟨j, hj, rfl, hown, hX2⟩ := hrel
    have HOw := Lib.hid hown
    have HX2 := Lib.hid hX2
    clear hown hX2
    by_cases hjl : j < L.length
    · obtain ⟨g, rfl, hc0, hc1⟩ := (HSp.out.ext HX2.out).cells hjl
      obtain ⟨hle, hle2⟩ := HIn.out _ (List.getElem_mem hjl)
      have HT := Lib.hid (List.take_succ_eq_append_getElem hjl)
      have HRA : Hid (recAt s deep L[j] = ⟨L[j].1, L[j].2, (validS (s.extract L[j].1 L[j].2) deep).1, (validS (s.extract L[j].1 L[j].2) deep).2⟩) := Lib.hid rfl
      generalize L[j] = x at *
      obtain ⟨a, b⟩ := x
      dsimp only at hc0 hc1 hle hle2 HRA
      have HVx := Lib.hid (HV.out (s.extract a b) (by simp; omega))
      generalize validS (s.extract a b) deep = vd at *
      obtain ⟨A2, c2, rfl⟩ := own_form HOw.out
      go_wp2_with (first
        | (go_at_call 36; refine (HVx.out _).mono ?_; rintro e w3 ⟨rfl, hx3⟩; have d0 := hx3.cell (p := ⟨wr.heap.size, 0, none⟩) (Blk.cell (Blk.new wr 57 #[.int .i64 (a : Nat), .int .i64 (b : Nat)]) 0); have d1 := hx3.cell (p := ⟨wr.heap.size, 1, none⟩) (Blk.cell (Blk.new wr 57 #[.int .i64 (a : Nat), .int .i64 (b : Nat)]) 1); have HX3 := Lib.hid ((Ext.alloc wr _).trans hx3); clear hx3)
        | (at_builtin; go_loud (refine wpList_append_own _ rfl (.tmp 46) (.tmp 51) 50 rfl w1.heap.size 59 i0 (.agg #[.int .i64 0, .int .i64 0, .int .i64 0, .int .i64 0]) 4 32 Tryz.underlying50 HI.out HZ0.out HZ1.out HZ2.out rfl (by decide) _ j _ rfl ((own_extR HOw.out HX3.out).alloc _) ⟨w3.heap.size, 0, none⟩ 1 1 [.int .i64 (a : Nat), .int .i64 (b : Nat), .int .i64 (vd.1 : Nat), .int .i64 (vd.2 : Nat)] rfl rfl (cells_new _ _ _) (by simp [Value.oneCell']) (by unfold maxLen; omega) (by omega) (by have := HX2.out.size; have := HX3.out.size; simp; omega) ?_); intro v' w4 hown' hgrow _; have HOw' := Lib.hid hown'; have HGr := Lib.hid hgrow; clear hown' hgrow))
      have hb3 : Below w1.heap.size w1 w3 := Ext.trans HX2.out HX3.out
      have hx4 : Ext w1 w4 := (hb3.alloc hb3.size _).grown HGr.out (by have := hb3.size; simp; omega) (fun k hk => (HOw.out.lt k hk).1)
      refine ⟨⟨j + 1, hjl, by congr 1, ?_, hx4⟩, by simp [intOf]; omega⟩
      rw [HT.out, List.map_append, List.flatMap_append]
      have := HOw'.out
      simpa [HRA.out, recC] using this
    · obtain rfl : j = L.length := by omega
      rw [List.take_length] at HOw
      obtain ⟨A2, c2, rfl⟩ := own_form HOw.out
      have HOw2 : Hid (wr.ownsRow w1.heap.size 59 4 (.slice A2 L.length c2) R.length (R.flatMap recC)) := Lib.hid (by rw [HR.out, List.length_map]; exact HOw.out)
      go_wp2_with fail
      go_ret2
      exact ⟨_, rfl, own_mono HOw2.out HX.out.size, Ext.trans HX.out HX2.out⟩
end Go.Proofs.Lw
namespace Go.Proofs.Lw
open Go Go.RowKit

theorem make_any (s : ByteArray) (hs : s.size ≤ 1048576) (w : World) :
    Calls Tryz.prog 18 #[.string s] w fun e w' => (∃ p k, e = .returned (.tuple #[.pointer p, .int .i64 k])) ∧ Ext w w' := by
  have hV := verdict_holds s (by omega)
  by_cases h : lookE (vdOf s) = 0
  · refine (makeGood_call s _ hV h hs w).mono ?_
    rintro e w' ⟨hx, ⟨_, rfl⟩ | ⟨_, p, rfl, _⟩⟩
    · exact ⟨⟨_, _, rfl⟩, hx⟩
    · exact ⟨⟨_, _, rfl⟩, hx⟩
  · exact (makeBad_call s _ hV h w).mono fun e w' ⟨a, b⟩ => ⟨⟨_, _, a⟩, b⟩
/-- a slice value that reads as these records -/
def IsRecs (w : World) (v : Value) (l : List Rec) : Prop :=
  ∃ A c, v = .slice A l.length c ∧ l.length ≤ c ∧ c ≤ maxLen ∧ (0 < l.length → ∃ g cs, A = some ⟨g, 0, none⟩ ∧ Blk w g 59 cs ∧ ∀ i (h : i < l.length), cs[i * 4]? = some (.int .i64 (l[i].from_ : Nat)) ∧ cs[i * 4 + 1]? = some (.int .i64 (l[i].to_ : Nat)) ∧ cs[i * 4 + 2]? = some (.int .i64 (l[i].verdict : Nat)) ∧ cs[i * 4 + 3]? = some (.int .i64 (l[i].at_ : Nat)))
theorem flatRec_get : ∀ (l : List Rec) (i : Nat) (h : i < l.length), (l.flatMap recC)[i * 4]? = some (.int .i64 (l[i].from_ : Nat)) ∧ (l.flatMap recC)[i * 4 + 1]? = some (.int .i64 (l[i].to_ : Nat)) ∧ (l.flatMap recC)[i * 4 + 2]? = some (.int .i64 (l[i].verdict : Nat)) ∧ (l.flatMap recC)[i * 4 + 3]? = some (.int .i64 (l[i].at_ : Nat))
  | [], i, h => absurd h (Nat.not_lt_zero _)
  | x :: r, 0, h => by simp [recC]
  | x :: r, i + 1, h => by
    have := flatRec_get r i (by simpa using h)
    simp only [List.flatMap_cons, recC, List.getElem_cons_succ]
    rw [show (i + 1) * 4 = i * 4 + 4 by omega]
    simpa using this
theorem recs_of_row {w : World} {base : Nat} {v : Value} {l : List Rec} (h : w.ownsRow base 59 4 v l.length (l.flatMap recC)) : IsRecs w v l := by
  rcases h.2 with ⟨rfl, h0⟩ | ⟨g, cap, cur, rfl, _, hg, hc1, hc2, _, ht⟩
  · exact ⟨none, 0, by rw [h0], by omega, by decide, fun h => by omega⟩
  · refine ⟨some ⟨g, 0, none⟩, cap, rfl, hc1, hc2, fun _ => ⟨g, cur, rfl, hg, fun i hi => ?_⟩⟩
    obtain ⟨h1, h2, h3, h4⟩ := flatRec_get l i hi
    rw [← ht, List.getElem?_take, if_pos (by omega), Array.getElem?_toList] at h1 h2 h3 h4
    exact ⟨h1, h2, h3, h4⟩
theorem IsRecs.ext {w w' : World} {v : Value} {l : List Rec} (h : IsRecs w v l) (e : Ext w w') : IsRecs w' v l := by
  obtain ⟨A, c, h1, h2, h3, h4⟩ := h
  exact ⟨A, c, h1, h2, h3, fun h0 => by obtain ⟨g, cs, a, b, d⟩ := h4 h0; exact ⟨g, cs, a, b.ext e, d⟩⟩
theorem IsRecs.cells {w : World} {A : Option Addr} {n c : Nat} {l : List Rec} (h : IsRecs w (.slice A n c) l) {k : Nat} (hk : k < l.length) :
    ∃ g, A = some ⟨g, 0, none⟩ ∧ w.cell? ⟨g, k * 4, none⟩ = some (.int .i64 (l[k].from_ : Nat)) ∧ w.cell? ⟨g, k * 4 + 1, none⟩ = some (.int .i64 (l[k].to_ : Nat)) ∧ w.cell? ⟨g, k * 4 + 2, none⟩ = some (.int .i64 (l[k].verdict : Nat)) ∧ w.cell? ⟨g, k * 4 + 3, none⟩ = some (.int .i64 (l[k].at_ : Nat)) := by
  obtain ⟨A', c', h1, _, _, h4⟩ := h
  obtain ⟨g, cs, rfl, hb, hc⟩ := h4 (by omega)
  injection h1 with e1 e2 e3
  obtain ⟨q1, q2, q3, q4⟩ := hc k hk
  exact ⟨g, e1, (hb.cell _).trans q1, (hb.cell _).trans q2, (hb.cell _).trans q3, (hb.cell _).trans q4⟩
theorem recsOf_in (s : ByteArray) (deep : Nat) : ∀ r ∈ recsOf s deep, r.from_ ≤ r.to_ ∧ r.to_ ≤ s.size := by
  intro r hr
  obtain ⟨p, hp, rfl⟩ := List.mem_map.1 hr
  exact linesF_in s (s.size + 1) 0 p hp
/-- a set behind a pointer -/
def IsSet (w : World) (p : Addr) (s : ByteArray) (deep : Nat) (l : List Rec) : Prop :=
  ∃ g v idx xs, p = ⟨g, 0, none⟩ ∧ Blk w g 55 #[.string s, .int .i64 (deep : Nat), v, idx] ∧ IsRecs w v l ∧ w.ownsRow g 60 1 idx l.length xs
theorem ptr_info : (Tryz.prog.info? 60).map (fun i => (i.zero, i.size, i.bytes)) = some (some (.pointer none), 1, 8) := by kernel_rfl
set_option maxRecDepth 100000 in
set_option maxHeartbeats 4000000 in
theorem loadBuild_call (s : ByteArray) (deep : Nat) (hs : s.size ≤ 1048576) (hd1 : 1 ≤ deep) (hd2 : deep ≤ 4096) (hm : (linesOf s).length ≤ 4096) (w : World) :
    Calls Tryz.prog 11 #[.string s, .int .i64 deep] w fun e W' => ∃ p, e = .returned (.tuple #[.pointer (some p), .int .i64 0]) ∧ IsSet W' p s deep (recsOf s deep) ∧ Ext w W' := by
  obtain ⟨i0, hi, hz0, hz1, hz2⟩ := info_parts ptr_info
  have HI := Lib.hid hi
  have HZ0 := Lib.hid hz0
  have HZ1 := Lib.hid hz1
  have HZ2 := Lib.hid hz2
  clear hi hz0 hz1 hz2
  have HR := Lib.hid (fun W => records_call s deep hs hd1 hd2 hm W)
  have HIn := Lib.hid (recsOf_in s deep)
  have HMk := Lib.hid (fun t (ht : t.size ≤ 1048576) W => make_any t ht W)
  have hRl : (recsOf s deep).length ≤ 4096 := by rw [recsOf, List.length_map]; exact hm
  generalize recsOf s deep = R at *
  clear hm
  go_enter Tryz.func11, Tryz.ntmps11
  go_wp2_with (go_at_call 17; refine (HR.out _).mono ?_; rintro e w1 ⟨v, rfl, hrow, hx⟩; have HSp := Lib.hid (recs_of_row hrow); have HX := Lib.hid hx; clear hrow hx; obtain ⟨A, c, rfl, _, _, _⟩ := HSp.out)
  go_loopw [28] (fun i wr => ∃ (j : Nat) (idx : Value) (xs : List Value), j ≤ R.length ∧ i = .int .i64 (j : Nat) ∧ Blk wr w1.heap.size 55 #[.string s, .int .i64 (deep : Nat), .slice A R.length c, idx] ∧ wr.ownsRow w1.heap.size 60 1 idx j xs ∧ Ext w1 wr) (fun i _ => R.length - (intOf i).toNat)
  case atStart => exact ⟨0, _, [], Nat.zero_le _, rfl, Blk.new _ _ _, World.ownsRow_nil _ _ _ _, Ext.alloc _ _⟩
  case round =>
    obtain ⟨j, idx, xs, hj, rfl, hB, hown, hX2⟩ := hrel
    have HB := Lib.hid hB
    have HOw := Lib.hid hown
    have HX2 := Lib.hid hX2
    clear hB hown hX2
    by_cases hjl : j < R.length
    · obtain ⟨g, rfl, hc0, hc1, hc2, hc3⟩ := (HSp.out.ext HX2.out).cells hjl
      obtain ⟨hle, hle2⟩ := HIn.out _ (List.getElem_mem hjl)
      have HTx := Lib.hid (fun W => stext_call s R[j] hle hle2 (by omega) W)
      generalize R[j] = x at *
      obtain ⟨a, b, vd, at_⟩ := x
      dsimp only at hc0 hc1 hc2 hc3 hle hle2
      simp only [recV] at HTx
      have HMx := Lib.hid (HMk.out (s.extract a b) (by simp; omega))
      obtain ⟨A2, c2, rfl⟩ := own_form HOw.out
      have hgS := HB.out.lt
      have d3 := HB.out.cell 3
      simp at d3
      by_cases hv : vd = 1
      · have hq : ((vd : Int) == 1) = true := by rw [hv]; rfl
        clear hv
        go_wp2_with (first
          | (go_at_call 19; (with_reducible refine (HTx.out _).mono ?_); rintro e w3 ⟨rfl, hx3⟩)
          | (go_at_call 18; (with_reducible refine (HMx.out _).mono ?_); rintro e w4 ⟨⟨p, k, rfl⟩, hx4⟩; have HX4 := Lib.hid (Ext.trans (Ext.trans (Ext.alloc wr _) hx3) hx4); have HB4 := Lib.hid (HB.out.ext HX4.out); have d4 := HB4.out.cell 3; have df4 : ∀ i, w4.frozen? ⟨w1.heap.size, i, none⟩ = false := HB4.out.frozen; simp at d4; clear hx3 hx4)
          | (at_builtin; go_loud (refine wpList_append_own _ rfl (.tmp 46) (.tmp 48) 53 rfl w1.heap.size 60 i0 (.pointer none) 1 8 Tryz.underlying53 HI.out HZ0.out HZ1.out HZ2.out rfl (by decide) _ j _ rfl ((own_extR HOw.out HX4.out).alloc _) ⟨w4.heap.size, 0, none⟩ 1 1 [.pointer p] rfl rfl (cell_one_new _ _ _) (by simp [Value.oneCell']) (by unfold maxLen; omega) (by omega) (by have := HX2.out.size; have := HX4.out.size; simp; omega) ?_); intro v' w5 hown' hgrow _; have HB5 := Lib.hid (Blk.kept HB4.out hgrow (own_ne (own_extR HOw.out HX4.out) HB4.out (by decide))); have HOw' := Lib.hid hown'; have HGr := Lib.hid hgrow; have df5 : ∀ i, w5.frozen? ⟨w1.heap.size, i, none⟩ = false := HB5.out.frozen; have d5 := HB5.out.cell 3; simp at d5; obtain ⟨A5, c5, rfl⟩ := own_form hown'; clear hown' hgrow))
        have hb3 : Below w1.heap.size w1 w4 := Ext.trans HX2.out HX4.out
        have hx5 : Below w1.heap.size w1 w5 := (hb3.alloc hb3.size _).grown HGr.out (by have := hb3.size; simp; omega) (fun k hk => (HOw.out.lt k hk).1)
        refine ⟨⟨j + 1, _, _, hjl, by congr 1, HB5.out.set_ 3 _, ownsRow_setCell_other HOw'.out ?_ _, hx5.setCell (p := ⟨w1.heap.size, 3, none⟩) (Nat.le_refl _) _⟩, by simp [intOf]; omega⟩
        exact own_ne HOw'.out HB5.out (by decide)
      · have hq : ((vd : Int) == 1) = false := by rw [beq_eq_false_iff_ne]; omega
        have HX4 := Lib.hid (Ext.alloc wr (.cells #[.int .i64 (a : Nat), .int .i64 (b : Nat), .int .i64 (vd : Nat), .int .i64 (at_ : Nat)] 59))
        have HB4 := Lib.hid (HB.out.ext HX4.out)
        have d4 := HB4.out.cell 3
        simp at d4
        go_wp2_with (at_builtin; go_loud (refine wpList_append_own _ rfl (.tmp 46) (.tmp 48) 53 rfl w1.heap.size 60 i0 (.pointer none) 1 8 Tryz.underlying53 HI.out HZ0.out HZ1.out HZ2.out rfl (by decide) _ j _ rfl ((own_extR HOw.out HX4.out).alloc _) ⟨wr.heap.size + 1, 0, none⟩ 1 1 [.pointer none] rfl rfl (by have := cell_one_new (wr.alloc (.cells #[.int .i64 (a : Nat), .int .i64 (b : Nat), .int .i64 (vd : Nat), .int .i64 (at_ : Nat)] 59)) (.pointer none) 60; rwa [World.size_alloc] at this) (by simp [Value.oneCell']) (by unfold maxLen; omega) (by omega) (by have := HX2.out.size; have := HX4.out.size; simp; omega) ?_); intro v' w5 hown' hgrow _; have HB5 := Lib.hid (Blk.kept HB4.out hgrow (own_ne (own_extR HOw.out HX4.out) HB4.out (by decide))); have HOw' := Lib.hid hown'; have HGr := Lib.hid hgrow; have df5 : ∀ i, w5.frozen? ⟨w1.heap.size, i, none⟩ = false := HB5.out.frozen; have d5 := HB5.out.cell 3; simp at d5; obtain ⟨A5, c5, rfl⟩ := own_form hown'; clear hown' hgrow)
        have hb3 : Below w1.heap.size w1 _ := Ext.trans HX2.out HX4.out
        have hx5 : Below w1.heap.size w1 w5 := (hb3.alloc hb3.size _).grown HGr.out (by have := hb3.size; simp; omega) (fun k hk => (HOw.out.lt k hk).1)
        refine ⟨⟨j + 1, _, _, hjl, by congr 1, HB5.out.set_ 3 _, ownsRow_setCell_other HOw'.out ?_ _, hx5.setCell (p := ⟨w1.heap.size, 3, none⟩) (Nat.le_refl _) _⟩, by simp [intOf]; omega⟩
        exact own_ne HOw'.out HB5.out (by decide)
    · obtain rfl : j = R.length := by omega
      obtain ⟨A2, c2, rfl⟩ := own_form HOw.out
      go_wp2_with fail
      go_ret2
      exact ⟨_, rfl, ⟨w1.heap.size, _, _, xs, rfl, HB.out, HSp.out.ext HX2.out, HOw.out⟩, HX.out.trans HX2.out⟩
end Go.Proofs.Lw
