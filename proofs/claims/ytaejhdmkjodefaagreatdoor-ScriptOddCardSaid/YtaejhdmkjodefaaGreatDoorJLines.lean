/- script.ok at one number, load.Set's Len, script.records. script.open without an index, script.Run over what the lines answer. The odd lines: each is answered with form. laceworklaw28.awake, ScriptOdd: the walks. -/
import Derived.Test.YtaejhdmkjodefaaGreatDoorJCmds
import Derived.Test.YtaejhdmkjodefaaGreatDoorJLoad
set_option linter.unusedSimpArgs false
set_option linter.unusedVariables false
namespace Go.Proofs.Lw
open Go Go.RowKit

/-- Go's table of powers of ten lies as it is laid -/
abbrev PowTab (w : World) : Prop := Lib.TabIs Tryz.prog w "internal/strconv.uint64pow10" .u64 Lib.pow10Tab
theorem PowTab.ext {w w' : World} (h : PowTab w) (e : Ext w w') : PowTab w' := by
  unfold PowTab Lib.TabIs World.var? at *
  cases hg : Tryz.prog.globalNamed "internal/strconv.uint64pow10" with
  | none => rw [hg] at h; cases h
  | some g =>
    rw [hg] at h
    simp only [Option.bind_some] at h ⊢
    cases hb : w.heap[g]? with
    | none => rw [hb] at h; cases h
    | some o =>
      have hlt : g < w.heap.size := by
        rcases Nat.lt_or_ge g w.heap.size with h1 | h1
        · exact h1
        · rw [Array.getElem?_eq_none h1] at hb; cases hb
      rw [e.block g hlt]; exact h
theorem Ext.grow {w0 w : World} (os : Array Obj) (h : Ext w0 w) : Ext w0 (Go.Sort.grow w os) := by
  refine ⟨h.os, h.tape, h.output, ?_, fun i hi => ?_⟩
  · have := h.size
    simp only [Go.Sort.grow, Array.size_append]; omega
  · have := h.size
    simp only [Go.Sort.grow]
    rw [Array.getElem?_append_left (by omega)]
    exact h.block i hi
theorem decDigits_le : ∀ u : Nat, (Lib.decDigits u).length ≤ u + 1 := by
  intro u
  induction u using Nat.strongRecOn with
  | _ u ih =>
    rw [Lib.decDigits]
    split
    · simp
    · have := ih (u / 10) (by omega)
      simp only [List.length_append, List.length_cons, List.length_nil]; omega
theorem itoa_le (n : Nat) : (Lib.itoa n).length ≤ n + 1 := by
  unfold Lib.itoa
  rw [if_neg (by omega)]
  exact decDigits_le n
theorem itoa_call (n : Nat) (hn : n ≤ 1073741824) (w : World) (ht : PowTab w) :
    Calls Tryz.prog 64 #[.int .i64 n] w fun e w' => e = .returned (.string ⟨(Lib.itoa n).toArray⟩) ∧ Ext w w' :=
  (Tryz.strconv_Itoa n (by omega) (by omega) w ht).mono fun e w' ⟨a, k, os, b⟩ => ⟨a, by rw [b]; exact Ext.grow os (Ext.drewN w k)⟩
/-- "ok " and a number -/
def okB (n : Nat) : ByteArray := ⟨#[111, 107]⟩ ++ (⟨#[32]⟩ ++ ⟨(Lib.itoa n).toArray⟩)
set_option maxRecDepth 100000 in
theorem okOne_call (n b : Nat) (hn : n ≤ 1073741824) (w : World) (ht : PowTab w) (hc : w.cell? ⟨b, 0, none⟩ = some (.int .i64 (n : Nat))) :
    Calls Tryz.prog 60 #[.slice (some ⟨b, 0, none⟩) 1 1] w fun e w' => e = .returned (.string (okB n)) ∧ Ext w w' := by
  have HI := Lib.hid (itoa_call n hn w ht)
  have HO : Hid (okB n = ⟨#[111, 107]⟩ ++ (⟨#[32]⟩ ++ ⟨(Lib.itoa n).toArray⟩)) := Lib.hid rfl
  generalize okB n = r at *
  have hts : (⟨(Lib.itoa n).toArray⟩ : ByteArray).size ≤ 1073741825 := by
    have := itoa_le n
    show (Lib.itoa n).toArray.size ≤ _
    rw [List.size_toArray]; omega
  generalize (⟨(Lib.itoa n).toArray⟩ : ByteArray) = t at *
  go_enter Tryz.func60, Tryz.ntmps60
  go_wp2_with fail
  refine wp_loop_rounds 2 ?_
  rw [rounds_succ]
  go_wp2_with (go_at_call 64; (with_reducible refine HI.out.mono ?_); rintro e w1 ⟨rfl, hx⟩)
  rw [rounds_succ]
  go_wp2_with fail
  go_ret
  rw [HO.out]
  exact ⟨rfl, hx⟩
theorem setLen_call (p : Addr) (s : ByteArray) (deep : Nat) (l : List Rec) (w : World) (h : IsSet w p s deep l) :
    Calls Tryz.prog 61 #[.pointer (some p)] w fun e w' => e = .returned (.int .i64 (l.length : Nat)) ∧ w = w' := by
  obtain ⟨g, v, idx, xs, rfl, hb, hr, _⟩ := h
  obtain ⟨A, c, rfl, _⟩ := hr
  have hc2 := hb.cell 2
  simp at hc2
  go_enter Tryz.func61, Tryz.ntmps61
  go_wp2
  go_ret
  exact ⟨rfl, rfl⟩
theorem IsSet.ext {w w' : World} {p : Addr} {s : ByteArray} {deep : Nat} {l : List Rec} (h : IsSet w p s deep l) (e : Ext w w') : IsSet w' p s deep l := by
  obtain ⟨g, v, idx, xs, a, hb, hr, ho⟩ := h
  exact ⟨g, v, idx, xs, a, hb.ext e, hr.ext e, own_extR ho e⟩
set_option maxRecDepth 100000 in
theorem records_ok (p : Addr) (s rest : ByteArray) (deep : Nat) (l : List Rec) (w : World) (h : IsSet w p s deep l) (hl : l.length ≤ 1073741824) (ht : PowTab w) :
    Calls Tryz.prog 27 #[.agg #[.pointer (some p)], .string rest, .bool false] w fun e w' => e = .returned (.string (okB l.length)) ∧ Ext w w' := by
  have HL := Lib.hid (fun W (hx : Ext w W) => setLen_call p s deep l W (h.ext hx))
  have HO : Hid (∀ (W : World) (b : Nat), Ext w W → W.heap.size = b → Calls Tryz.prog 60 #[.slice (some ⟨b, 0, none⟩) 1 1] (W.alloc (.cells #[.int .i64 (l.length : Nat)] 3)) fun e w' => e = .returned (.string (okB l.length)) ∧ Ext (W.alloc (.cells #[.int .i64 (l.length : Nat)] 3)) w') :=
    Lib.hid (fun W b hx e => e ▸ okOne_call l.length W.heap.size hl _ (ht.ext (Ext.trans hx (Ext.alloc _ _))) (Blk.cell (Blk.new W 3 #[.int .i64 (l.length : Nat)]) 0))
  clear h ht
  generalize okB l.length = r at *
  generalize l.length = n at *
  go_enter Tryz.func27, Tryz.ntmps27
  go_wp2_with (first
    | (go_at_call 61; (with_reducible refine (HL.out _ (Ext.alloc _ _)).mono ?_); rintro e w1 ⟨rfl, rfl⟩)
    | (go_at_call 60; refine (HO.out _ _ (Ext.alloc _ _) (by simp)).mono ?_; rintro e w2 ⟨rfl, hx⟩))
  go_ret
  exact ⟨rfl, Ext.trans (Ext.trans (Ext.alloc _ _) (Ext.alloc _ _)) hx⟩
end Go.Proofs.Lw
namespace Go.Proofs.Lw
open Go Go.RowKit

/-- a slice value that reads as these strings -/
def IsStrs (w : World) (v : Value) (l : List ByteArray) : Prop :=
  ∃ A c, v = .slice A l.length c ∧ l.length ≤ c ∧ c ≤ maxLen ∧ (0 < l.length → ∃ g cs, A = some ⟨g, 0, none⟩ ∧ Blk w g 9 cs ∧ ∀ i (h : i < l.length), cs[i]? = some (.string l[i]))
theorem IsStrs.ext {w w' : World} {v : Value} {l : List ByteArray} (h : IsStrs w v l) (e : Ext w w') : IsStrs w' v l := by
  obtain ⟨A, c, h1, h2, h3, h4⟩ := h
  exact ⟨A, c, h1, h2, h3, fun h0 => by obtain ⟨g, cs, a, b, d⟩ := h4 h0; exact ⟨g, cs, a, b.ext e, d⟩⟩
theorem IsStrs.cell {w : World} {A : Option Addr} {n c : Nat} {l : List ByteArray} (h : IsStrs w (.slice A n c) l) {k : Nat} (hk : k < l.length) : ∃ g, A = some ⟨g, 0, none⟩ ∧ w.cell? ⟨g, k, none⟩ = some (.string l[k]) := by
  obtain ⟨A', c', h1, _, _, h4⟩ := h
  obtain ⟨g, cs, rfl, hb, hc⟩ := h4 (by omega)
  injection h1 with e1 e2 e3
  exact ⟨g, e1, (hb.cell k).trans (hc k hk)⟩
set_option maxRecDepth 100000 in
theorem open_call (s : ByteArray) (deep : Nat) (lv : Value) (hs : s.size ≤ 1048576) (hd1 : 1 ≤ deep) (hd2 : deep ≤ 4096) (hm : (linesOf s).length ≤ 4096) (w : World) :
    Calls Tryz.prog 8 #[.agg #[.string s, .int .i64 deep, .string ⟨#[]⟩, lv]] w fun e W' => ∃ p, e = .returned (.tuple #[.pointer (some p), .int .i64 0]) ∧ IsSet W' p s deep (recsOf s deep) ∧ Ext w W' := by
  have HB := Lib.hid (fun W => loadBuild_call s deep hs hd1 hd2 hm W)
  generalize recsOf s deep = R at *
  clear hm
  go_enter Tryz.func8, Tryz.ntmps8
  go_wp2_with (go_at_call 11; (with_reducible refine (HB.out _).mono ?_); rintro e w1 ⟨p, rfl, hset, hx⟩; have HS := Lib.hid hset; have HX := Lib.hid hx; clear hset hx)
  go_ret2
  exact ⟨p, rfl, HS.out, Ext.trans (Ext.alloc _ _) HX.out⟩
theorem str_info : (Tryz.prog.info? 9).map (fun i => (i.zero, i.size, i.bytes)) = some (some (.string ⟨#[]⟩), 1, 16) := by kernel_rfl
set_option maxRecDepth 100000 in
set_option maxHeartbeats 4000000 in
theorem run_call (s : ByteArray) (deep : Nat) (lv : Value) (L : List ByteArray) (ans : ByteArray → ByteArray) (hs : s.size ≤ 1048576) (hd1 : 1 ≤ deep) (hd2 : deep ≤ 4096) (hm : (linesOf s).length ≤ 4096) (hL : L.length ≤ 1000)
    (hdo : ∀ line ∈ L, ∀ p W, IsSet W p s deep (recsOf s deep) → PowTab W → Calls Tryz.prog 10 #[.agg #[.pointer (some p)], .string line] W fun e w' => e = .returned (.string (ans line)) ∧ Ext W w')
    (w : World) (hl : IsStrs w lv L) (ht : PowTab w) :
    Calls Tryz.prog 6 #[.agg #[.string s, .int .i64 deep, .string ⟨#[]⟩, lv]] w fun e W' => ∃ v, e = .returned v ∧ W'.ownsRow w.heap.size 9 1 v L.length ((L.map ans).map Value.string) ∧ Ext w W' := by
  obtain ⟨i0, hi, hz0, hz1, hz2⟩ := info_parts str_info
  have HI := Lib.hid hi
  have HZ0 := Lib.hid hz0
  have HZ1 := Lib.hid hz1
  have HZ2 := Lib.hid hz2
  clear hi hz0 hz1 hz2
  have HOp := Lib.hid (fun W => open_call s deep lv hs hd1 hd2 hm W)
  have HDo := Lib.hid hdo
  have HL := Lib.hid hl
  have HT := Lib.hid ht
  generalize recsOf s deep = R at *
  obtain ⟨A, c, rfl, _, _, _⟩ := hl
  clear hm hdo ht
  go_enter Tryz.func6, Tryz.ntmps6
  go_wp2_with (go_at_call 8; (with_reducible refine (HOp.out _).mono ?_); rintro e w1 ⟨p, rfl, hset, hx⟩; have HS := Lib.hid hset; have hx1 : Ext w w1 := Ext.trans (Ext.alloc _ _) hx; have HX := Lib.hid hx1; have hcl := hx.cell (p := ⟨w.heap.size, 3, none⟩) (Blk.cell (Blk.new w 26 #[.string s, .int .i64 (deep : Nat), .string ⟨#[]⟩, .slice A L.length c]) 3); clear hset hx hx1)
  go_loopw [5, 16] (fun out i wr => ∃ j : Nat, j ≤ L.length ∧ i = .int .i64 (j : Nat) ∧ wr.ownsRow w1.heap.size 9 1 out j (((L.take j).map ans).map Value.string) ∧ Ext w1 wr) (fun _ i _ => L.length - (intOf i).toNat)
  case atStart => exact ⟨0, Nat.zero_le _, rfl, World.ownsRow_nil _ _ _ _, Ext.refl _⟩
  case round =>
    obtain ⟨j, hj, rfl, hown, hX2⟩ := hrel
    have HOw := Lib.hid hown
    have HX2 := Lib.hid hX2
    clear hown hX2
    obtain ⟨A2, c2, rfl⟩ := own_form HOw.out
    by_cases hjl : j < L.length
    · obtain ⟨g, rfl, hc0⟩ := (HL.out.ext (Ext.trans HX.out HX2.out)).cell hjl
      have HDx := Lib.hid (HDo.out _ (List.getElem_mem hjl) p wr (HS.out.ext HX2.out) (HT.out.ext (Ext.trans HX.out HX2.out)))
      have HTk := Lib.hid (List.take_succ_eq_append_getElem hjl)
      generalize L[j] = line at *
      generalize hal : ans line = al at *
      have HAl := Lib.hid hal
      clear hal
      go_wp2_with (first
        | (go_at_call 10; (with_reducible refine HDx.out.mono ?_); rintro e w3 ⟨rfl, hx3⟩; have HX3 := Lib.hid hx3; clear hx3)
        | (at_builtin; go_loud (refine wpList_append_own _ rfl (.tmp 28) (.tmp 33) 23 rfl w1.heap.size 9 i0 (.string ⟨#[]⟩) 1 16 Tryz.underlying23 HI.out HZ0.out HZ1.out HZ2.out rfl (by decide) _ j _ rfl ((own_extR HOw.out HX3.out).alloc _) ⟨w3.heap.size, 0, none⟩ 1 1 [.string al] rfl rfl (cell_one_new _ _ _) (by simp [Value.oneCell']) (by unfold maxLen; omega) (by omega) (by have := HX2.out.size; have := HX3.out.size; simp; omega) ?_); intro v' w4 hown' hgrow _; have HOw' := Lib.hid hown'; have HGr := Lib.hid hgrow; clear hown' hgrow))
      have hb3 : Below w1.heap.size w1 w3 := Ext.trans HX2.out HX3.out
      have hx4 : Below w1.heap.size w1 w4 := (hb3.alloc hb3.size _).grown HGr.out (by have := hb3.size; simp; omega) (fun k hk => (HOw.out.lt k hk).1)
      refine ⟨⟨j + 1, hjl, by congr 1, ?_, hx4⟩, by simp [intOf]; omega⟩
      rw [HTk.out, List.map_append, List.map_append]
      have := HOw'.out
      simpa [HAl.out] using this
    · obtain rfl : j = L.length := by omega
      rw [List.take_length] at HOw
      go_wp2_with fail
      go_ret
      exact ⟨_, rfl, own_mono HOw.out HX.out.size, Ext.trans HX.out HX2.out⟩
end Go.Proofs.Lw
namespace Go.Proofs.Lw
open Go Go.RowKit

theorem odd0 (p : Addr) (w : World) : Calls Tryz.prog 10 #[.agg #[.pointer (some p)], .string ⟨#[]⟩] w fun e w' => e = .returned (.string formB) ∧ Ext w w' :=
  do_none p ⟨#[]⟩ ⟨#[]⟩ ⟨#[]⟩ false w (by decide) (by decide +kernel) (by decide) (by decide +kernel)
theorem odd1 (p : Addr) (w : World) : Calls Tryz.prog 10 #[.agg #[.pointer (some p)], .string ⟨#[32]⟩] w fun e w' => e = .returned (.string formB) ∧ Ext w w' :=
  do_none p ⟨#[32]⟩ ⟨#[]⟩ ⟨#[]⟩ true w (by decide) (by decide +kernel) (by decide) (by decide +kernel)
theorem odd2 (p : Addr) (w : World) : Calls Tryz.prog 10 #[.agg #[.pointer (some p)], .string ⟨#[114, 101, 99, 111, 114, 100, 115, 32]⟩] w fun e w' => e = .returned (.string formB) ∧ Ext w w' :=
  do_cmd _ 27 p ⟨#[114, 101, 99, 111, 114, 100, 115, 32]⟩ ⟨#[114, 101, 99, 111, 114, 100, 115]⟩ ⟨#[]⟩ true w (by decide) (by decide +kernel) (by decide) (by decide +kernel) (by rfl) (enters_of Tryz.func27 (by kernel_rfl) rfl) fun W hx => (records_form p ⟨#[]⟩ W).mono fun e w' ⟨a, b⟩ => ⟨⟨_, a⟩, a, Ext.trans hx b⟩
theorem odd3 (p : Addr) (w : World) : Calls Tryz.prog 10 #[.agg #[.pointer (some p)], .string ⟨#[32, 114, 101, 99, 111, 114, 100, 115]⟩] w fun e w' => e = .returned (.string formB) ∧ Ext w w' :=
  do_none p ⟨#[32, 114, 101, 99, 111, 114, 100, 115]⟩ ⟨#[]⟩ ⟨#[114, 101, 99, 111, 114, 100, 115]⟩ true w (by decide) (by decide +kernel) (by decide) (by decide +kernel)
theorem odd4 (p : Addr) (w : World) : Calls Tryz.prog 10 #[.agg #[.pointer (some p)], .string ⟨#[114, 101, 99, 111, 114, 100]⟩] w fun e w' => e = .returned (.string formB) ∧ Ext w w' :=
  do_cmd _ 28 p ⟨#[114, 101, 99, 111, 114, 100]⟩ ⟨#[114, 101, 99, 111, 114, 100]⟩ ⟨#[]⟩ false w (by decide) (by decide +kernel) (by decide) (by decide +kernel) (by rfl) (enters_of Tryz.func28 (by kernel_rfl) rfl) fun W hx => (record_form p ⟨#[]⟩ 0 false num_empty W).mono fun e w' ⟨a, b⟩ => ⟨⟨_, a⟩, a, Ext.trans hx b⟩
theorem odd5 (p : Addr) (w : World) : Calls Tryz.prog 10 #[.agg #[.pointer (some p)], .string ⟨#[114, 101, 99, 111, 114, 100, 32]⟩] w fun e w' => e = .returned (.string formB) ∧ Ext w w' :=
  do_cmd _ 28 p ⟨#[114, 101, 99, 111, 114, 100, 32]⟩ ⟨#[114, 101, 99, 111, 114, 100]⟩ ⟨#[]⟩ true w (by decide) (by decide +kernel) (by decide) (by decide +kernel) (by rfl) (enters_of Tryz.func28 (by kernel_rfl) rfl) fun W hx => (record_form p ⟨#[]⟩ 0 true num_empty W).mono fun e w' ⟨a, b⟩ => ⟨⟨_, a⟩, a, Ext.trans hx b⟩
theorem odd6 (p : Addr) (w : World) : Calls Tryz.prog 10 #[.agg #[.pointer (some p)], .string ⟨#[114, 101, 99, 111, 114, 100, 32, 48, 49]⟩] w fun e w' => e = .returned (.string formB) ∧ Ext w w' :=
  do_cmd _ 28 p ⟨#[114, 101, 99, 111, 114, 100, 32, 48, 49]⟩ ⟨#[114, 101, 99, 111, 114, 100]⟩ ⟨#[48, 49]⟩ true w (by decide) (by decide +kernel) (by decide) (by decide +kernel) (by rfl) (enters_of Tryz.func28 (by kernel_rfl) rfl) fun W hx => (record_form p ⟨#[48, 49]⟩ 0 true num_o1 W).mono fun e w' ⟨a, b⟩ => ⟨⟨_, a⟩, a, Ext.trans hx b⟩
theorem odd7 (p : Addr) (w : World) : Calls Tryz.prog 10 #[.agg #[.pointer (some p)], .string ⟨#[114, 101, 99, 111, 114, 100, 32, 49, 50, 51, 52, 53, 54, 55, 56, 57, 48]⟩] w fun e w' => e = .returned (.string formB) ∧ Ext w w' :=
  do_cmd _ 28 p ⟨#[114, 101, 99, 111, 114, 100, 32, 49, 50, 51, 52, 53, 54, 55, 56, 57, 48]⟩ ⟨#[114, 101, 99, 111, 114, 100]⟩ ⟨#[49, 50, 51, 52, 53, 54, 55, 56, 57, 48]⟩ true w (by decide) (by decide +kernel) (by decide) (by decide +kernel) (by rfl) (enters_of Tryz.func28 (by kernel_rfl) rfl) fun W hx => (record_form p ⟨#[49, 50, 51, 52, 53, 54, 55, 56, 57, 48]⟩ 0 true num_long W).mono fun e w' ⟨a, b⟩ => ⟨⟨_, a⟩, a, Ext.trans hx b⟩
theorem odd8 (p : Addr) (w : World) : Calls Tryz.prog 10 #[.agg #[.pointer (some p)], .string ⟨#[114, 101, 99, 111, 114, 100, 32, 45, 49]⟩] w fun e w' => e = .returned (.string formB) ∧ Ext w w' :=
  do_cmd _ 28 p ⟨#[114, 101, 99, 111, 114, 100, 32, 45, 49]⟩ ⟨#[114, 101, 99, 111, 114, 100]⟩ ⟨#[45, 49]⟩ true w (by decide) (by decide +kernel) (by decide) (by decide +kernel) (by rfl) (enters_of Tryz.func28 (by kernel_rfl) rfl) fun W hx => (record_form p ⟨#[45, 49]⟩ 0 true num_minus W).mono fun e w' ⟨a, b⟩ => ⟨⟨_, a⟩, a, Ext.trans hx b⟩
theorem odd9 (p : Addr) (w : World) : Calls Tryz.prog 10 #[.agg #[.pointer (some p)], .string ⟨#[114, 101, 99, 111, 114, 100, 32, 48, 32]⟩] w fun e w' => e = .returned (.string formB) ∧ Ext w w' :=
  do_cmd _ 28 p ⟨#[114, 101, 99, 111, 114, 100, 32, 48, 32]⟩ ⟨#[114, 101, 99, 111, 114, 100]⟩ ⟨#[48, 32]⟩ true w (by decide) (by decide +kernel) (by decide) (by decide +kernel) (by rfl) (enters_of Tryz.func28 (by kernel_rfl) rfl) fun W hx => (record_form p ⟨#[48, 32]⟩ 0 true num_blank W).mono fun e w' ⟨a, b⟩ => ⟨⟨_, a⟩, a, Ext.trans hx b⟩
theorem odd10 (p : Addr) (w : World) : Calls Tryz.prog 10 #[.agg #[.pointer (some p)], .string ⟨#[97, 115, 107, 32, 48]⟩] w fun e w' => e = .returned (.string formB) ∧ Ext w w' :=
  do_cmd _ 29 p ⟨#[97, 115, 107, 32, 48]⟩ ⟨#[97, 115, 107]⟩ ⟨#[48]⟩ true w (by decide) (by decide +kernel) (by decide) (by decide +kernel) (by rfl) (enters_of Tryz.func29 (by kernel_rfl) rfl) fun W hx => (ask_form p ⟨#[48]⟩ ⟨#[]⟩ ⟨#[]⟩ 0 0 false false true (cutIs ⟨#[48]⟩ ⟨#[48]⟩ ⟨#[]⟩ false 0 true (by decide) (by decide +kernel) num_zero) (cutIs ⟨#[]⟩ ⟨#[]⟩ ⟨#[]⟩ false 0 false (by decide) (by decide +kernel) num_empty) (by decide) W).mono fun e w' ⟨a, b⟩ => ⟨⟨_, a⟩, a, Ext.trans hx b⟩
theorem odd11 (p : Addr) (w : World) : Calls Tryz.prog 10 #[.agg #[.pointer (some p)], .string ⟨#[97, 115, 107, 32, 48, 32, 53]⟩] w fun e w' => e = .returned (.string formB) ∧ Ext w w' :=
  do_cmd _ 29 p ⟨#[97, 115, 107, 32, 48, 32, 53]⟩ ⟨#[97, 115, 107]⟩ ⟨#[48, 32, 53]⟩ true w (by decide) (by decide +kernel) (by decide) (by decide +kernel) (by rfl) (enters_of Tryz.func29 (by kernel_rfl) rfl) fun W hx => (ask_form p ⟨#[48, 32, 53]⟩ ⟨#[53]⟩ ⟨#[]⟩ 0 5 true false true (cutIs ⟨#[48, 32, 53]⟩ ⟨#[48]⟩ ⟨#[53]⟩ true 0 true (by decide) (by decide +kernel) num_zero) (cutIs ⟨#[53]⟩ ⟨#[53]⟩ ⟨#[]⟩ false 5 true (by decide) (by decide +kernel) num_five) (by decide) W).mono fun e w' ⟨a, b⟩ => ⟨⟨_, a⟩, a, Ext.trans hx b⟩
theorem odd12 (p : Addr) (w : World) : Calls Tryz.prog 10 #[.agg #[.pointer (some p)], .string ⟨#[97, 115, 107, 32, 32, 48, 32, 53, 32, 36]⟩] w fun e w' => e = .returned (.string formB) ∧ Ext w w' :=
  do_cmd _ 29 p ⟨#[97, 115, 107, 32, 32, 48, 32, 53, 32, 36]⟩ ⟨#[97, 115, 107]⟩ ⟨#[32, 48, 32, 53, 32, 36]⟩ true w (by decide) (by decide +kernel) (by decide) (by decide +kernel) (by rfl) (enters_of Tryz.func29 (by kernel_rfl) rfl) fun W hx => (ask_form p ⟨#[32, 48, 32, 53, 32, 36]⟩ ⟨#[48, 32, 53, 32, 36]⟩ ⟨#[53, 32, 36]⟩ 0 0 false true true (cutIs ⟨#[32, 48, 32, 53, 32, 36]⟩ ⟨#[]⟩ ⟨#[48, 32, 53, 32, 36]⟩ true 0 false (by decide) (by decide +kernel) num_empty) (cutIs ⟨#[48, 32, 53, 32, 36]⟩ ⟨#[48]⟩ ⟨#[53, 32, 36]⟩ true 0 true (by decide) (by decide +kernel) num_zero) (by decide) W).mono fun e w' ⟨a, b⟩ => ⟨⟨_, a⟩, a, Ext.trans hx b⟩
theorem odd13 (p : Addr) (w : World) : Calls Tryz.prog 10 #[.agg #[.pointer (some p)], .string ⟨#[118, 97, 108, 117, 101, 115, 32, 48, 32, 120, 32, 36]⟩] w fun e w' => e = .returned (.string formB) ∧ Ext w w' :=
  do_cmd _ 30 p ⟨#[118, 97, 108, 117, 101, 115, 32, 48, 32, 120, 32, 36]⟩ ⟨#[118, 97, 108, 117, 101, 115]⟩ ⟨#[48, 32, 120, 32, 36]⟩ true w (by decide) (by decide +kernel) (by decide) (by decide +kernel) (by rfl) (enters_of Tryz.func30 (by kernel_rfl) rfl) fun W hx => (values_form p ⟨#[48, 32, 120, 32, 36]⟩ ⟨#[120, 32, 36]⟩ ⟨#[36]⟩ 0 0 true false true (cutIs ⟨#[48, 32, 120, 32, 36]⟩ ⟨#[48]⟩ ⟨#[120, 32, 36]⟩ true 0 true (by decide) (by decide +kernel) num_zero) (cutIs ⟨#[120, 32, 36]⟩ ⟨#[120]⟩ ⟨#[36]⟩ true 0 false (by decide) (by decide +kernel) num_x) (by decide) W).mono fun e w' ⟨a, b⟩ => ⟨⟨_, a⟩, a, Ext.trans hx b⟩
theorem odd14 (p : Addr) (w : World) : Calls Tryz.prog 10 #[.agg #[.pointer (some p)], .string ⟨#[97, 108, 108]⟩] w fun e w' => e = .returned (.string formB) ∧ Ext w w' :=
  do_cmd _ 31 p ⟨#[97, 108, 108]⟩ ⟨#[97, 108, 108]⟩ ⟨#[]⟩ false w (by decide) (by decide +kernel) (by decide) (by decide +kernel) (by rfl) (enters_of Tryz.func31 (by kernel_rfl) rfl) fun W hx => (all_form p ⟨#[]⟩ ⟨#[]⟩ 0 false (cutIs ⟨#[]⟩ ⟨#[]⟩ ⟨#[]⟩ false 0 false (by decide) (by decide +kernel) num_empty) W).mono fun e w' ⟨a, b⟩ => ⟨⟨_, a⟩, a, Ext.trans hx b⟩
theorem odd15 (p : Addr) (w : World) : Calls Tryz.prog 10 #[.agg #[.pointer (some p)], .string ⟨#[97, 108, 108, 32, 53]⟩] w fun e w' => e = .returned (.string formB) ∧ Ext w w' :=
  do_cmd _ 31 p ⟨#[97, 108, 108, 32, 53]⟩ ⟨#[97, 108, 108]⟩ ⟨#[53]⟩ true w (by decide) (by decide +kernel) (by decide) (by decide +kernel) (by rfl) (enters_of Tryz.func31 (by kernel_rfl) rfl) fun W hx => (all_form p ⟨#[53]⟩ ⟨#[]⟩ 5 true (cutIs ⟨#[53]⟩ ⟨#[53]⟩ ⟨#[]⟩ false 5 true (by decide) (by decide +kernel) num_five) W).mono fun e w' ⟨a, b⟩ => ⟨⟨_, a⟩, a, Ext.trans hx b⟩
theorem odd16 (p : Addr) (w : World) : Calls Tryz.prog 10 #[.agg #[.pointer (some p)], .string ⟨#[99, 111, 117, 110, 116]⟩] w fun e w' => e = .returned (.string formB) ∧ Ext w w' :=
  do_cmd _ 32 p ⟨#[99, 111, 117, 110, 116]⟩ ⟨#[99, 111, 117, 110, 116]⟩ ⟨#[]⟩ false w (by decide) (by decide +kernel) (by decide) (by decide +kernel) (by rfl) (enters_of Tryz.func32 (by kernel_rfl) rfl) fun W hx => (count_form p ⟨#[]⟩ W).mono fun e w' ⟨a, b⟩ => ⟨⟨_, a⟩, a, Ext.trans hx b⟩
theorem odd17 (p : Addr) (w : World) : Calls Tryz.prog 10 #[.agg #[.pointer (some p)], .string ⟨#[116, 101, 120, 116, 32, 48]⟩] w fun e w' => e = .returned (.string formB) ∧ Ext w w' :=
  do_cmd _ 33 p ⟨#[116, 101, 120, 116, 32, 48]⟩ ⟨#[116, 101, 120, 116]⟩ ⟨#[48]⟩ true w (by decide) (by decide +kernel) (by decide) (by decide +kernel) (by rfl) (enters_of Tryz.func33 (by kernel_rfl) rfl) fun W hx => (text_form p ⟨#[48]⟩ ⟨#[]⟩ 0 true (cutIs ⟨#[48]⟩ ⟨#[48]⟩ ⟨#[]⟩ false 0 true (by decide) (by decide +kernel) num_zero) W).mono fun e w' ⟨a, b⟩ => ⟨⟨_, a⟩, a, Ext.trans hx b⟩
theorem odd18 (p : Addr) (w : World) : Calls Tryz.prog 10 #[.agg #[.pointer (some p)], .string ⟨#[116, 101, 120, 116, 32, 120, 32, 36]⟩] w fun e w' => e = .returned (.string formB) ∧ Ext w w' :=
  do_cmd _ 33 p ⟨#[116, 101, 120, 116, 32, 120, 32, 36]⟩ ⟨#[116, 101, 120, 116]⟩ ⟨#[120, 32, 36]⟩ true w (by decide) (by decide +kernel) (by decide) (by decide +kernel) (by rfl) (enters_of Tryz.func33 (by kernel_rfl) rfl) fun W hx => (text_form p ⟨#[120, 32, 36]⟩ ⟨#[36]⟩ 0 true (cutIs ⟨#[120, 32, 36]⟩ ⟨#[120]⟩ ⟨#[36]⟩ true 0 false (by decide) (by decide +kernel) num_x) W).mono fun e w' ⟨a, b⟩ => ⟨⟨_, a⟩, a, Ext.trans hx b⟩
theorem odd19 (p : Addr) (w : World) : Calls Tryz.prog 10 #[.agg #[.pointer (some p)], .string ⟨#[115, 97, 118, 101, 32]⟩] w fun e w' => e = .returned (.string formB) ∧ Ext w w' :=
  do_cmd _ 34 p ⟨#[115, 97, 118, 101, 32]⟩ ⟨#[115, 97, 118, 101]⟩ ⟨#[]⟩ true w (by decide) (by decide +kernel) (by decide) (by decide +kernel) (by rfl) (enters_of Tryz.func34 (by kernel_rfl) rfl) fun W hx => (save_form p ⟨#[]⟩ W).mono fun e w' ⟨a, b⟩ => ⟨⟨_, a⟩, a, Ext.trans hx b⟩
theorem odd20 (p : Addr) (w : World) : Calls Tryz.prog 10 #[.agg #[.pointer (some p)], .string ⟨#[83, 97, 118, 101]⟩] w fun e w' => e = .returned (.string formB) ∧ Ext w w' :=
  do_none p ⟨#[83, 97, 118, 101]⟩ ⟨#[83, 97, 118, 101]⟩ ⟨#[]⟩ false w (by decide) (by decide +kernel) (by decide) (by decide +kernel)
theorem odd21 (p : Addr) (w : World) : Calls Tryz.prog 10 #[.agg #[.pointer (some p)], .string ⟨#[102, 105, 110, 100, 32, 48, 32, 36]⟩] w fun e w' => e = .returned (.string formB) ∧ Ext w w' :=
  do_none p ⟨#[102, 105, 110, 100, 32, 48, 32, 36]⟩ ⟨#[102, 105, 110, 100]⟩ ⟨#[48, 32, 36]⟩ true w (by decide) (by decide +kernel) (by decide) (by decide +kernel)
theorem odd22 (p : Addr) (w : World) : Calls Tryz.prog 10 #[.agg #[.pointer (some p)], .string ⟨#[114, 101, 99, 111, 114, 100, 32, 48, 10]⟩] w fun e w' => e = .returned (.string formB) ∧ Ext w w' :=
  do_cmd _ 28 p ⟨#[114, 101, 99, 111, 114, 100, 32, 48, 10]⟩ ⟨#[114, 101, 99, 111, 114, 100]⟩ ⟨#[48, 10]⟩ true w (by decide) (by decide +kernel) (by decide) (by decide +kernel) (by rfl) (enters_of Tryz.func28 (by kernel_rfl) rfl) fun W hx => (record_form p ⟨#[48, 10]⟩ 0 true num_nl W).mono fun e w' ⟨a, b⟩ => ⟨⟨_, a⟩, a, Ext.trans hx b⟩
theorem recs_do (p : Addr) (s : ByteArray) (deep : Nat) (l : List Rec) (w : World) (h : IsSet w p s deep l) (hl : l.length ≤ 1073741824) (ht : PowTab w) :
    Calls Tryz.prog 10 #[.agg #[.pointer (some p)], .string ⟨#[114, 101, 99, 111, 114, 100, 115]⟩] w fun e w' => e = .returned (.string (okB l.length)) ∧ Ext w w' :=
  do_cmd _ 27 p ⟨#[114, 101, 99, 111, 114, 100, 115]⟩ ⟨#[114, 101, 99, 111, 114, 100, 115]⟩ ⟨#[]⟩ false w (by decide) (by decide +kernel) (by decide) (by decide +kernel) (by rfl) (enters_of Tryz.func27 (by kernel_rfl) rfl) fun W hx => (records_ok p s ⟨#[]⟩ deep l W (h.ext hx) hl (ht.ext hx)).mono fun e w' ⟨a, b⟩ => ⟨⟨_, a⟩, a, Ext.trans hx b⟩
def oddLines : List ByteArray := [⟨#[]⟩, ⟨#[32]⟩, ⟨#[114, 101, 99, 111, 114, 100, 115, 32]⟩, ⟨#[32, 114, 101, 99, 111, 114, 100, 115]⟩, ⟨#[114, 101, 99, 111, 114, 100]⟩, ⟨#[114, 101, 99, 111, 114, 100, 32]⟩, ⟨#[114, 101, 99, 111, 114, 100, 32, 48, 49]⟩, ⟨#[114, 101, 99, 111, 114, 100, 32, 49, 50, 51, 52, 53, 54, 55, 56, 57, 48]⟩, ⟨#[114, 101, 99, 111, 114, 100, 32, 45, 49]⟩, ⟨#[114, 101, 99, 111, 114, 100, 32, 48, 32]⟩, ⟨#[97, 115, 107, 32, 48]⟩, ⟨#[97, 115, 107, 32, 48, 32, 53]⟩, ⟨#[97, 115, 107, 32, 32, 48, 32, 53, 32, 36]⟩, ⟨#[118, 97, 108, 117, 101, 115, 32, 48, 32, 120, 32, 36]⟩, ⟨#[97, 108, 108]⟩, ⟨#[97, 108, 108, 32, 53]⟩, ⟨#[99, 111, 117, 110, 116]⟩, ⟨#[116, 101, 120, 116, 32, 48]⟩, ⟨#[116, 101, 120, 116, 32, 120, 32, 36]⟩, ⟨#[115, 97, 118, 101, 32]⟩, ⟨#[83, 97, 118, 101]⟩, ⟨#[102, 105, 110, 100, 32, 48, 32, 36]⟩, ⟨#[114, 101, 99, 111, 114, 100, 32, 48, 10]⟩]
def recordsB : ByteArray := ⟨#[114, 101, 99, 111, 114, 100, 115]⟩
theorem odd_do (k : Nat) (hk : k < 23) (p : Addr) (w : World) : Calls Tryz.prog 10 #[.agg #[.pointer (some p)], .string (oddLines.getD k ⟨#[]⟩)] w fun e w' => e = .returned (.string formB) ∧ Ext w w' := by
  rcases (by omega : k = 0 ∨ k = 1 ∨ k = 2 ∨ k = 3 ∨ k = 4 ∨ k = 5 ∨ k = 6 ∨ k = 7 ∨ k = 8 ∨ k = 9 ∨ k = 10 ∨ k = 11 ∨ k = 12 ∨ k = 13 ∨ k = 14 ∨ k = 15 ∨ k = 16 ∨ k = 17 ∨ k = 18 ∨ k = 19 ∨ k = 20 ∨ k = 21 ∨ k = 22) with rfl | rfl | rfl | rfl | rfl | rfl | rfl | rfl | rfl | rfl | rfl | rfl | rfl | rfl | rfl | rfl | rfl | rfl | rfl | rfl | rfl | rfl | rfl
  · exact odd0 p w
  · exact odd1 p w
  · exact odd2 p w
  · exact odd3 p w
  · exact odd4 p w
  · exact odd5 p w
  · exact odd6 p w
  · exact odd7 p w
  · exact odd8 p w
  · exact odd9 p w
  · exact odd10 p w
  · exact odd11 p w
  · exact odd12 p w
  · exact odd13 p w
  · exact odd14 p w
  · exact odd15 p w
  · exact odd16 p w
  · exact odd17 p w
  · exact odd18 p w
  · exact odd19 p w
  · exact odd20 p w
  · exact odd21 p w
  · exact odd22 p w
end Go.Proofs.Lw
namespace Go.Proofs.Lw
open Go Go.RowKit

theorem linesOf_le (s : ByteArray) : (linesOf s).length ≤ s.size := by
  have := linesF_len s (s.size + 1) 0
  exact this
theorem recsOf_len (s : ByteArray) (deep : Nat) : (recsOf s deep).length = (linesOf s).length := by rw [recsOf, List.length_map]
/-- what Run hands back, cell by cell -/
theorem run_cells (s : ByteArray) (deep : Nat) (lv : Value) (L : List ByteArray) (ans : ByteArray → ByteArray) (hs : s.size ≤ 4096) (hd1 : 1 ≤ deep) (hd2 : deep ≤ 4096) (hL : L.length ≤ 1000) (hL0 : 0 < L.length)
    (hdo : ∀ line ∈ L, ∀ p W, IsSet W p s deep (recsOf s deep) → PowTab W → Calls Tryz.prog 10 #[.agg #[.pointer (some p)], .string line] W fun e w' => e = .returned (.string (ans line)) ∧ Ext W w')
    (w : World) (hl : IsStrs w lv L) (ht : PowTab w) :
    Calls Tryz.prog 6 #[.agg #[.string s, .int .i64 deep, .string ⟨#[]⟩, lv]] w fun e W' => ∃ g c, e = .returned (.slice (some ⟨g, 0, none⟩) L.length c) ∧ (∀ i (h : i < L.length), W'.cell? ⟨g, i, none⟩ = some (.string (ans L[i]))) ∧ Ext w W' := by
  refine (run_call s deep lv L ans (by omega) hd1 hd2 (Nat.le_trans (linesOf_le s) hs) hL hdo w hl ht).mono ?_
  rintro e W' ⟨v, rfl, hown, hx⟩
  obtain ⟨g, c, rfl, _, _⟩ := hown.form hL0
  refine ⟨g, c, rfl, fun i h => ?_, hx⟩
  rw [hown.cellAt i (by omega)]
  simp [h]
theorem ok1 : okB 1 = ⟨#[111, 107, 32, 49]⟩ := by
  unfold okB Lib.itoa
  rw [if_neg (by omega), show ((1 : Nat) : Int).toNat = 1 from rfl, Lib.decDigits_one (by omega)]
  decide +kernel
theorem awake_lines : (linesOf ⟨#[91, 53, 93]⟩).length = 1 := by decide +kernel
def ansOf (n : Nat) (l : ByteArray) : ByteArray := if l = recordsB then okB n else formB
theorem strs_one (w : World) (s : ByteArray) : IsStrs (w.alloc (.cells #[.string s] 9)) (.slice (some ⟨w.heap.size, 0, none⟩) 1 1) [s] :=
  ⟨_, 1, rfl, Nat.le_refl _, by decide, fun _ => ⟨_, _, rfl, Blk.new _ _ _, fun i hi => by
    obtain rfl : i = 0 := by simpa using hi
    rfl⟩⟩
theorem strs_two (w : World) (s t : ByteArray) : IsStrs (w.alloc (.cells #[.string s, .string t] 9)) (.slice (some ⟨w.heap.size, 0, none⟩) 2 2) [s, t] :=
  ⟨_, 2, rfl, Nat.le_refl _, by decide, fun _ => ⟨_, _, rfl, Blk.new _ _ _, fun i hi => by
    rcases (by simp at hi; omega : i = 0 ∨ i = 1) with rfl | rfl <;> rfl⟩⟩
set_option maxRecDepth 100000 in
theorem awake_call (w : World) (ht : PowTab w) : Calls Tryz.prog 5 #[] w fun e w' => e = .returned (.bool true) ∧ Ext w w' := by
  have HR : Hid (∀ (W : World) (b : Nat), PowTab W → W.heap.size = b → Calls Tryz.prog 6 #[.agg #[.string ⟨#[91, 53, 93]⟩, .int .i64 3, .string ⟨#[]⟩, .slice (some ⟨b, 0, none⟩) 1 1]] (W.alloc (.cells #[.string ⟨#[114, 101, 99, 111, 114, 100, 115]⟩] 9))
      fun e W' => ∃ g c, e = .returned (.slice (some ⟨g, 0, none⟩) 1 c) ∧ W'.cell? ⟨g, 0, none⟩ = some (.string ⟨#[111, 107, 32, 49]⟩) ∧ Ext W W') := Lib.hid (fun W b hW e => by
    subst e
    have := run_cells ⟨#[91, 53, 93]⟩ 3 _ [recordsB] (ansOf 1) (by decide) (by omega) (by omega) (by decide) (by decide) (fun line hl p W hS hP => by
      obtain rfl : line = recordsB := by simpa using hl
      have h1 := recs_do p _ 3 _ W hS (by rw [recsOf_len, awake_lines]; omega) hP
      rw [recsOf_len, awake_lines] at h1
      exact h1) (W.alloc (.cells #[.string recordsB] 9)) (strs_one W recordsB) (hW.ext (Ext.alloc _ _))
    refine this.mono ?_
    rintro e W' ⟨g, c, rfl, hc, hx⟩
    refine ⟨g, c, rfl, ?_, Ext.trans (Ext.alloc _ _) hx⟩
    rw [hc 0 (by decide)]
    show some (Value.string (ansOf 1 recordsB)) = _
    rw [ansOf, if_pos rfl, ok1])
  go_enter Tryz.func5, Tryz.ntmps5
  go_wp2_with (go_at_call 6; (with_reducible refine (HR.out _ _ ht rfl).mono ?_); rintro e w1 ⟨g, c, rfl, hc, hx⟩; have HX := Lib.hid hx; clear hx)
  go_ret
  exact ⟨rfl, HX.out⟩
def oddArr : Array Value := #[.string ⟨#[]⟩, .string ⟨#[32]⟩, .string ⟨#[114, 101, 99, 111, 114, 100, 115, 32]⟩, .string ⟨#[32, 114, 101, 99, 111, 114, 100, 115]⟩, .string ⟨#[114, 101, 99, 111, 114, 100]⟩, .string ⟨#[114, 101, 99, 111, 114, 100, 32]⟩, .string ⟨#[114, 101, 99, 111, 114, 100, 32, 48, 49]⟩, .string ⟨#[114, 101, 99, 111, 114, 100, 32, 49, 50, 51, 52, 53, 54, 55, 56, 57, 48]⟩, .string ⟨#[114, 101, 99, 111, 114, 100, 32, 45, 49]⟩, .string ⟨#[114, 101, 99, 111, 114, 100, 32, 48, 32]⟩, .string ⟨#[97, 115, 107, 32, 48]⟩, .string ⟨#[97, 115, 107, 32, 48, 32, 53]⟩, .string ⟨#[97, 115, 107, 32, 32, 48, 32, 53, 32, 36]⟩, .string ⟨#[118, 97, 108, 117, 101, 115, 32, 48, 32, 120, 32, 36]⟩, .string ⟨#[97, 108, 108]⟩, .string ⟨#[97, 108, 108, 32, 53]⟩, .string ⟨#[99, 111, 117, 110, 116]⟩, .string ⟨#[116, 101, 120, 116, 32, 48]⟩, .string ⟨#[116, 101, 120, 116, 32, 120, 32, 36]⟩, .string ⟨#[115, 97, 118, 101, 32]⟩, .string ⟨#[83, 97, 118, 101]⟩, .string ⟨#[102, 105, 110, 100, 32, 48, 32, 36]⟩, .string ⟨#[114, 101, 99, 111, 114, 100, 32, 48, 10]⟩]
theorem oddArr_get (k : Nat) (hk : k < 23) : oddArr[k]? = some (.string (oddLines.getD k ⟨#[]⟩)) := by
  rcases (by omega : k = 0 ∨ k = 1 ∨ k = 2 ∨ k = 3 ∨ k = 4 ∨ k = 5 ∨ k = 6 ∨ k = 7 ∨ k = 8 ∨ k = 9 ∨ k = 10 ∨ k = 11 ∨ k = 12 ∨ k = 13 ∨ k = 14 ∨ k = 15 ∨ k = 16 ∨ k = 17 ∨ k = 18 ∨ k = 19 ∨ k = 20 ∨ k = 21 ∨ k = 22) with rfl | rfl | rfl | rfl | rfl | rfl | rfl | rfl | rfl | rfl | rfl | rfl | rfl | rfl | rfl | rfl | rfl | rfl | rfl | rfl | rfl | rfl | rfl <;> rfl
theorem odd_ne : ∀ k : Fin 23, oddLines.getD k.val ⟨#[]⟩ ≠ recordsB := by decide +kernel
theorem ok_ne (n : Nat) : okB n ≠ formB := by
  intro e
  have : (okB n).data.toList.head? = formB.data.toList.head? := by rw [e]
  simp [okB, formB] at this
set_option maxRecDepth 100000 in
set_option maxHeartbeats 2000000 in
theorem odd_law (s : ByteArray) (n : Nat) (hn : n < 256) (hs : s.size ≤ 9223372036854775807) (w : World) (ht : PowTab w) :
    Calls Tryz.prog 3 #[.string s, .int .u8 n] w fun e w' => e = .returned (.bool true) ∧ Ext w w' := by
  have HA := Lib.hid (fun W (hx : Ext w W) => awake_call W (ht.ext hx))
  by_cases hbig : 400 < s.size
  · clear hn
    go_enter Tryz.func3, Tryz.ntmps3
    go_wp2_with (first
      | (go_at_call 5; (with_reducible refine (HA.out _ (Ext.refl w)).mono ?_); rintro e w1 ⟨rfl, hx1⟩; have HX1 := Lib.hid hx1; clear hx1)
      | (go_at_call 5; (with_reducible refine (HA.out _ HX1.out).mono ?_); rintro e w2 ⟨rfl, hx2⟩; have HX2 := Lib.hid hx2; clear hx2))
    go_ret
    exact ⟨rfl, Ext.trans HX1.out HX2.out⟩
  · have hk := oddArr_get (n % 23) (Nat.mod_lt _ (by omega))
    unfold oddArr at hk
    have hne := odd_ne ⟨n % 23, Nat.mod_lt _ (by omega)⟩
    dsimp only at hne
    have hodd := fun p W => odd_do (n % 23) (Nat.mod_lt _ (by omega)) p W
    generalize oddLines.getD (n % 23) ⟨#[]⟩ = line at *
    have HR : Hid (∀ (W : World) (b : Nat), PowTab W → W.heap.size = b → Calls Tryz.prog 6 #[.agg #[.string s, .int .i64 9, .string ⟨#[]⟩, .slice (some ⟨b, 0, none⟩) 2 2]] (W.alloc (.cells #[.string line, .string ⟨#[114, 101, 99, 111, 114, 100, 115]⟩] 9))
        fun e W' => ∃ g c, e = .returned (.slice (some ⟨g, 0, none⟩) 2 c) ∧ W'.cell? ⟨g, 0, none⟩ = some (.string formB) ∧ W'.cell? ⟨g, 1, none⟩ = some (.string (okB (linesOf s).length)) ∧ Ext W W') := Lib.hid (fun W b hW e => by
      subst e
      have := run_cells s 9 _ [line, recordsB] (ansOf (linesOf s).length) (by omega) (by omega) (by omega) (by simp) (by simp) (fun l hl p W hS hP => by
        by_cases hl2 : l = recordsB
        · subst hl2
          have h1 := recs_do p _ 9 _ W hS (by rw [recsOf_len]; have := linesOf_le s; omega) hP
          rw [recsOf_len] at h1
          rw [ansOf, if_pos rfl]
          exact h1
        · obtain rfl : l = line := by
            rcases List.mem_cons.1 hl with h | h
            · exact h
            · exact absurd (by simpa using h) hl2
          rw [ansOf, if_neg hl2]
          exact hodd p W) (W.alloc (.cells #[.string line, .string recordsB] 9)) (strs_two W line recordsB) (hW.ext (Ext.alloc _ _))
      refine this.mono ?_
      rintro e W' ⟨g, c, rfl, hc, hx⟩
      refine ⟨g, c, rfl, ?_, ?_, Ext.trans (Ext.alloc _ _) hx⟩
      · rw [hc 0 (by simp)]
        show some (Value.string (ansOf _ line)) = _
        rw [ansOf, if_neg hne]
      · rw [hc 1 (by simp)]
        show some (Value.string (ansOf _ recordsB)) = _
        rw [ansOf, if_pos rfl])
    have hok := ok_ne (linesOf s).length
    generalize okB (linesOf s).length = r at *
    unfold formB at HR hok
    have HNe := Lib.hid hok
    clear hok hodd hne
    have h0 : (0 : Int) ≤ (n : Int) % 23 := by omega
    have h1 : (n : Int) % 23 < 23 := by omega
    have h2 : ((n : Int) % 23).toNat = n % 23 := by omega
    go_enter Tryz.func3, Tryz.ntmps3
    go_wp2_with (first
      | (go_at_call 5; (with_reducible refine (HA.out _ (Ext.refl w)).mono ?_); rintro e w1 ⟨rfl, hx1⟩; have HX1 := Lib.hid hx1; have HT1 := Lib.hid (ht.ext (Ext.trans hx1 (Ext.alloc w1 (.cells #[.string ⟨#[]⟩, .string ⟨#[32]⟩, .string ⟨#[114, 101, 99, 111, 114, 100, 115, 32]⟩, .string ⟨#[32, 114, 101, 99, 111, 114, 100, 115]⟩, .string ⟨#[114, 101, 99, 111, 114, 100]⟩, .string ⟨#[114, 101, 99, 111, 114, 100, 32]⟩, .string ⟨#[114, 101, 99, 111, 114, 100, 32, 48, 49]⟩, .string ⟨#[114, 101, 99, 111, 114, 100, 32, 49, 50, 51, 52, 53, 54, 55, 56, 57, 48]⟩, .string ⟨#[114, 101, 99, 111, 114, 100, 32, 45, 49]⟩, .string ⟨#[114, 101, 99, 111, 114, 100, 32, 48, 32]⟩, .string ⟨#[97, 115, 107, 32, 48]⟩, .string ⟨#[97, 115, 107, 32, 48, 32, 53]⟩, .string ⟨#[97, 115, 107, 32, 32, 48, 32, 53, 32, 36]⟩, .string ⟨#[118, 97, 108, 117, 101, 115, 32, 48, 32, 120, 32, 36]⟩, .string ⟨#[97, 108, 108]⟩, .string ⟨#[97, 108, 108, 32, 53]⟩, .string ⟨#[99, 111, 117, 110, 116]⟩, .string ⟨#[116, 101, 120, 116, 32, 48]⟩, .string ⟨#[116, 101, 120, 116, 32, 120, 32, 36]⟩, .string ⟨#[115, 97, 118, 101, 32]⟩, .string ⟨#[83, 97, 118, 101]⟩, .string ⟨#[102, 105, 110, 100, 32, 48, 32, 36]⟩, .string ⟨#[114, 101, 99, 111, 114, 100, 32, 48, 10]⟩] 9)))); clear hx1)
      | (go_at_call 6; refine (HR.out _ _ HT1.out (by simp)).mono ?_; rintro e w2 ⟨g, c, rfl, hc0, hc1, hx2⟩; have HX2 := Lib.hid hx2; clear hx2))
    go_ret
    refine ⟨ret_bool ?_, Ext.trans HX1.out (Ext.trans (Ext.alloc _ _) HX2.out)⟩
    rw [Bool.not_eq_true', beq_eq_false_iff_ne]
    intro e
    apply HNe.out
    rw [Lib.toList_data] at e
    have e2 : r.data = #[101, 114, 114, 111, 114, 32, 102, 111, 114, 109, 32, 48] := Array.toList_inj.1 e
    cases r
    dsimp only at e2
    rw [e2]
end Go.Proofs.Lw
