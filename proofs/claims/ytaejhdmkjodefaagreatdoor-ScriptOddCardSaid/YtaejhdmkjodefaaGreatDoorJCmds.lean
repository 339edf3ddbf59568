/- strings.Cut at one byte; script.name, fault, form at literals. script.commands: the map of the commands; what stands under a word. script's runner.do: by the line's first word. script.number at the words that are met; script.cut; the commands where they are none. script.cut; the commands where a line is none. -/
import Derived.Test.YtaejhdmkjodefaaGreatDoorJScan
import Derived.Test.YtaejhdmkjodefaaGreatDoorJShelfI
import Derived.Lib.IndexMore
import Derived.Maps.Own
import Derived.Maps.OwnOps
import Derived.Maps.OwnSet
set_option linter.unusedSimpArgs false
set_option linter.unusedVariables false
namespace Go.Proofs.Lw
open Go Go.RowKit

/-- ahead of the first such byte, behind it, whether there is one -/
def cutS (s : ByteArray) (c : UInt8) : ByteArray × ByteArray × Bool :=
  if Lib.indexByte s.data.toList c < 0 then (s, ⟨#[]⟩, false)
  else (s.extract 0 (Lib.indexByte s.data.toList c).toNat, s.extract ((Lib.indexByte s.data.toList c).toNat + 1) s.size, true)
theorem slCut_call (s : ByteArray) (c : UInt8) (w : World) (hs : s.size ≤ 1073741824) :
    Calls Tryz.prog 26 #[.string s, .string ⟨#[c]⟩] w fun e w' => e = .returned (.tuple #[.string (cutS s c).1, .string (cutS s c).2.1, .bool (cutS s c).2.2]) ∧ ∃ n, w' = w.drewN n := by
  have HC : Hid (cutS s c = if Lib.indexByte s.data.toList c < 0 then (s, ⟨#[]⟩, false) else (s.extract 0 (Lib.indexByte s.data.toList c).toNat, s.extract ((Lib.indexByte s.data.toList c).toNat + 1) s.size, true)) := Lib.hid rfl
  have HI := Lib.hid (fun W => (Tryz.stringslite_Index_one s c W))
  have hlt : Lib.indexByte s.data.toList c < s.size := by
    rcases (by omega : Lib.indexByte s.data.toList c < 0 ∨ 0 ≤ Lib.indexByte s.data.toList c) with h | h
    · omega
    · obtain ⟨o, ho⟩ := Int.eq_ofNat_of_zero_le h
      have := (Lib.indexByte_some ho).1
      have h2 : o < s.data.toList.length := by
        rcases Nat.lt_or_ge o s.data.toList.length with h3 | h3
        · exact h3
        · rw [List.getElem?_eq_none h3] at this; cases this
      have h3 : s.data.toList.length = s.size := by simp
      omega
  generalize Lib.indexByte s.data.toList c = i at *
  generalize cutS s c = C at *
  by_cases h0 : i < 0
  · rw [if_pos h0] at HC
    go_enter Tryz.func26, Tryz.ntmps26
    go_wp2_with (go_at_call 59; refine (HI.out _).mono ?_; rintro e w' ⟨rfl, rfl⟩)
    go_ret3
    rw [HC.out]
    exact ⟨rfl, 0, rfl⟩
  · rw [if_neg h0] at HC
    obtain ⟨k, rfl⟩ := Int.eq_ofNat_of_zero_le (by omega : 0 ≤ i)
    have h1 : IntKind.i64.wrap ((k : Int) + 1) = (k : Int) + 1 := IntWalk.i64_in _ (by omega)
    have h2 : (0 : Int) ≤ (k : Int) + 1 := by omega
    have h3 : (k : Int) + 1 ≤ (s.size : Int) := by omega
    have h4 : ((k : Int) + 1).toNat = k + 1 := by omega
    clear h0 hlt
    go_enter Tryz.func26, Tryz.ntmps26
    go_wp2_with (go_at_call 59; refine (HI.out _).mono ?_; rintro e w' ⟨rfl, rfl⟩)
    go_quiet (fail)
    go_wp2_with fail
    go_ret3
    rw [HC.out]
    exact ⟨rfl, _, rfl⟩
theorem cut_call (s : ByteArray) (c : UInt8) (w : World) (hs : s.size ≤ 1073741824) :
    Calls Tryz.prog 14 #[.string s, .string ⟨#[c]⟩] w fun e w' => e = .returned (.tuple #[.string (cutS s c).1, .string (cutS s c).2.1, .bool (cutS s c).2.2]) ∧ ∃ n, w' = w.drewN n := by
  have HI := Lib.hid (fun W => slCut_call s c W hs)
  generalize cutS s c = C at *
  go_enter Tryz.func14, Tryz.ntmps14
  go_wp2_with (go_at_call 26; refine (HI.out _).mono ?_; rintro e w' ⟨rfl, n, rfl⟩)
  go_ret3
  exact ⟨rfl, _, rfl⟩
def errNames : Value := .agg #[.string ⟨#[]⟩, .string ⟨#[97, 114, 103]⟩, .string ⟨#[114, 97, 110, 103, 101]⟩, .string ⟨#[102, 111, 114, 109]⟩, .string ⟨#[108, 111, 110, 103]⟩, .string ⟨#[100, 101, 101, 112]⟩, .string ⟨#[105, 110, 116]⟩, .string ⟨#[110, 111, 110, 101]⟩, .string ⟨#[107, 105, 110, 100]⟩, .string ⟨#[109, 97, 110, 121]⟩, .string ⟨#[119, 111, 114, 107]⟩, .string ⟨#[115, 117, 109]⟩, .string ⟨#[115, 116, 97, 108, 101]⟩]
theorem errName3 (w : World) : (Instr.index 42 errNames (.int .i64 3)).run Tryz.prog w = .ok (.string ⟨#[102, 111, 114, 109]⟩) w := by kernel_rfl
set_option maxRecDepth 100000 in
theorem nameForm_call (w : World) : Calls Tryz.prog 9 #[.int .i64 3] w fun e w' => e = .returned (.string ⟨#[102, 111, 114, 109]⟩) ∧ w = w' := by
  have hk := errName3
  unfold errNames at hk
  go_enter Tryz.func9, Tryz.ntmps9
  go_wp2_with fail
  go_ret
  exact ⟨rfl, rfl⟩
/-- "error form 0" -/
def formB : ByteArray := ⟨#[101, 114, 114, 111, 114, 32, 102, 111, 114, 109, 32, 48]⟩
theorem dec0 : Lib.decDigits 0 = [48] := by rw [Lib.decDigits]; rfl
set_option maxRecDepth 100000 in
theorem fault3_call (w : World) : Calls Tryz.prog 35 #[.agg #[.int .i64 3, .int .i64 0]] w fun e w' => e = .returned (.string formB) ∧ Ext w w' := by
  have HN := Lib.hid (fun W => nameForm_call W)
  have HI : Hid (∀ W, Calls Tryz.prog 64 #[.int .i64 0] W fun e w' => e = .returned (.string ⟨#[48]⟩) ∧ W = w') := Lib.hid (fun W => (Tryz.strconv_Itoa_small 0 (by omega) W).mono fun e w' ⟨a, b⟩ => ⟨by rw [a, dec0], b.symm⟩)
  go_enter Tryz.func35, Tryz.ntmps35
  go_wp2_with fail
  go_quiet ((first | (go_at_call 9; exact Calls.quiet_of_same ((HN.out _).mono fun e w' ⟨a, b⟩ => ⟨a, b.symm⟩)) | (go_at_call 64; exact Calls.quiet_of_same ((HI.out _).mono fun e w' ⟨a, b⟩ => ⟨a, b.symm⟩))))
  go_wp2_with fail
  go_ret
  exact ⟨rfl, (Ext.alloc _ _).trans (Ext.drewN _ _)⟩
theorem form_call (w : World) : Calls Tryz.prog 16 #[] w fun e w' => e = .returned (.string formB) ∧ Ext w w' := by
  have HF := Lib.hid (fun W => fault3_call W)
  go_enter Tryz.func16, Tryz.ntmps16
  go_wp2_with (go_at_call 35; refine (HF.out _).mono ?_; rintro e w' ⟨rfl, hx⟩)
  go_ret
  exact ⟨rfl, hx⟩
end Go.Proofs.Lw
namespace Go.Proofs.Lw
open Go Go.RowKit

/-- how a plain function reads: by its number -/
def funElem : Value → Option (DataW Unit × List MemPlace)
  | .func (.func k) a b => if a.size = 0 ∧ b.size = 0 then some (.lit (.int .i64 k), []) else none
  | .nilFunc => some (.nil, [])
  | _ => none
theorem funElem_mk (k : Nat) : funElem (.func (.func k) #[] #[]) = some (.lit (.int .i64 k), []) := by simp [funElem]
theorem funElem_inv {v : Value} {k : Nat} {ps : List MemPlace} (h : funElem v = some (.lit (.int .i64 k), ps)) : v = .func (.func k) #[] #[] := by
  unfold funElem at h
  split at h
  · split at h
    · rename_i ha
      obtain ⟨h1, h2⟩ := ha
      injection h with h; injection h with h _; injection h with h; injection h with _ h
      rw [Array.eq_empty_of_size_eq_zero h1, Array.eq_empty_of_size_eq_zero h2, Int.ofNat.inj h]
    · cases h
  · injection h with h; injection h with h _; cases h
  · cases h
theorem keyStr (s : ByteArray) (hs : s.size ≤ maxLen) : keyOf Tryz.prog 9 (.string s) = some (.string s.data.toList) := WideMaps.keyOf_string_mk Tryz.underlying9 hs
theorem strKeyed : Maps.Keyed Tryz.prog 9 := Maps.string_keyed Tryz.underlying9
/-- the datum of the commands -/
def cmdD : DataW Unit := (DataW.put (DataW.put (DataW.put (DataW.put (DataW.put (DataW.put (DataW.put (DataW.put (DataW.map []) (.string [114, 101, 99, 111, 114, 100, 115]) (.lit (.int .i64 27))) (.string [114, 101, 99, 111, 114, 100]) (.lit (.int .i64 28))) (.string [97, 115, 107]) (.lit (.int .i64 29))) (.string [118, 97, 108, 117, 101, 115]) (.lit (.int .i64 30))) (.string [97, 108, 108]) (.lit (.int .i64 31))) (.string [99, 111, 117, 110, 116]) (.lit (.int .i64 32))) (.string [116, 101, 120, 116]) (.lit (.int .i64 33))) (.string [115, 97, 118, 101]) (.lit (.int .i64 34)))
theorem cmd_put {w : World} {b n : Nat} {D : DataW Unit} (h : w.ownsMap Tryz.prog 9 funElem b n D) (s : ByteArray) (k : Nat) (hs : s.size ≤ maxLen) (hn : n < maxLen) :
    ∃ w', (Instr.mapUpdate 48 (.map (some b)) (.string s) (.func (.func k) #[] #[])).run Tryz.prog w = .ok () w' ∧ w'.ownsMap Tryz.prog 9 funElem b (n + 1) (D.put (.string s.data.toList) (.lit (.int .i64 k))) ∧ w.grownBy w' (some b) :=
  h.update strKeyed Tryz.underlying48 hn (keyStr s hs) (funElem_mk k)
theorem Below.of_grownB {w w' : World} {b B : Nat} (h : w.grownBy w' (some b)) (hb : B ≤ b) (hB : B ≤ w.heap.size) : Below B w w' :=
  ⟨h.os, h.tape, h.output, h.size, fun i hi => h.block i (by omega) (fun e => by cases e; omega)⟩
set_option maxHeartbeats 1000000 in
set_option maxRecDepth 100000 in
theorem commands_call (w : World) : Calls Tryz.prog 15 #[] w fun e w' => e = .returned (.map (some w.heap.size)) ∧ w'.ownsMap Tryz.prog 9 funElem w.heap.size 8 cmdD ∧ Ext w w' := by
  have hmm := @run_makeMap Tryz.prog
  have hown0 := World.ownsMap_made w Tryz.prog 9 funElem
  obtain ⟨w1, hr1, hown1, hg1⟩ := cmd_put hown0 ⟨#[114, 101, 99, 111, 114, 100, 115]⟩ 27 (by decide) (by decide)
  obtain ⟨w2, hr2, hown2, hg2⟩ := cmd_put hown1 ⟨#[114, 101, 99, 111, 114, 100]⟩ 28 (by decide) (by decide)
  obtain ⟨w3, hr3, hown3, hg3⟩ := cmd_put hown2 ⟨#[97, 115, 107]⟩ 29 (by decide) (by decide)
  obtain ⟨w4, hr4, hown4, hg4⟩ := cmd_put hown3 ⟨#[118, 97, 108, 117, 101, 115]⟩ 30 (by decide) (by decide)
  obtain ⟨w5, hr5, hown5, hg5⟩ := cmd_put hown4 ⟨#[97, 108, 108]⟩ 31 (by decide) (by decide)
  obtain ⟨w6, hr6, hown6, hg6⟩ := cmd_put hown5 ⟨#[99, 111, 117, 110, 116]⟩ 32 (by decide) (by decide)
  obtain ⟨w7, hr7, hown7, hg7⟩ := cmd_put hown6 ⟨#[116, 101, 120, 116]⟩ 33 (by decide) (by decide)
  obtain ⟨w8, hr8, hown8, hg8⟩ := cmd_put hown7 ⟨#[115, 97, 118, 101]⟩ 34 (by decide) (by decide)
  have HB : Hid (Ext w w8) := Lib.hid (by
    have h0 : Below w.heap.size w (w.alloc (.map #[] 0)) := (Below.refl _ w).alloc (Nat.le_refl _) _
    have s0 : w.heap.size ≤ (w.alloc (.map #[] 0)).heap.size := h0.size
    have h1 := Below.of_grownB hg1 (Nat.le_refl _) s0
    have s1 : w.heap.size ≤ w1.heap.size := Nat.le_trans s0 h1.size
    have h2 := Below.of_grownB hg2 (Nat.le_refl _) s1
    have s2 : w.heap.size ≤ w2.heap.size := Nat.le_trans s1 h2.size
    have h3 := Below.of_grownB hg3 (Nat.le_refl _) s2
    have s3 : w.heap.size ≤ w3.heap.size := Nat.le_trans s2 h3.size
    have h4 := Below.of_grownB hg4 (Nat.le_refl _) s3
    have s4 : w.heap.size ≤ w4.heap.size := Nat.le_trans s3 h4.size
    have h5 := Below.of_grownB hg5 (Nat.le_refl _) s4
    have s5 : w.heap.size ≤ w5.heap.size := Nat.le_trans s4 h5.size
    have h6 := Below.of_grownB hg6 (Nat.le_refl _) s5
    have s6 : w.heap.size ≤ w6.heap.size := Nat.le_trans s5 h6.size
    have h7 := Below.of_grownB hg7 (Nat.le_refl _) s6
    have s7 : w.heap.size ≤ w7.heap.size := Nat.le_trans s6 h7.size
    have h8 := Below.of_grownB hg8 (Nat.le_refl _) s7
    exact (((((((h0.trans h1).trans h2).trans h3).trans h4).trans h5).trans h6).trans h7).trans h8)
  have HO := Lib.hid hown8
  clear hown0 hown1 hown2 hown3 hown4 hown5 hown6 hown7 hown8 hg1 hg2 hg3 hg4 hg5 hg6 hg7 hg8
  go_enter Tryz.func15, Tryz.ntmps15
  go_wp2_with fail
  go_ret
  exact ⟨rfl, HO.out, HB.out⟩
end Go.Proofs.Lw
namespace Go.Proofs.Lw
open Go Go.RowKit

theorem cmd_zero (w : World) : (zeroValue 46).run Tryz.prog w = .ok .nilFunc w := by kernel_rfl
theorem cmd_look {w : World} {b : Nat} (h : w.ownsMap Tryz.prog 9 funElem b 8 cmdD) (s : ByteArray) (hs : s.size ≤ maxLen) :
    ∃ v ps, (Instr.lookup 48 (.map (some b)) (.string s) true).run Tryz.prog w = .ok (.tuple #[v, .bool (Maps.has cmdD (.string s.data.toList))]) w ∧ funElem v = some (cmdD.atKey (.string s.data.toList) .nil, ps) :=
  h.look_ok strKeyed Tryz.underlying48 (cmd_zero w) (by rfl) (keyStr s hs)
set_option maxRecDepth 100000 in
theorem do_none (p : Addr) (line word rest : ByteArray) (more : Bool) (w : World) (hl : line.size ≤ 1073741824) (hc : cutS line 32 = (word, rest, more)) (hw : word.size ≤ 1073741824) (hn : Maps.has cmdD (.string word.data.toList) = false) :
    Calls Tryz.prog 10 #[.agg #[.pointer (some p)], .string line] w fun e w' => e = .returned (.string formB) ∧ Ext w w' := by
  have HC : Hid (∀ W, Calls Tryz.prog 14 #[.string line, .string ⟨#[32]⟩] W fun e w' => e = .returned (.tuple #[.string word, .string rest, .bool more]) ∧ ∃ n, w' = W.drewN n) := Lib.hid (fun W => by have := cut_call line 32 W hl; rwa [hc] at this)
  have HF := Lib.hid (fun W => form_call W)
  have HM : Hid (∀ (W : World) (b : Nat), W.heap.size = b → Calls Tryz.prog 15 #[] W fun e w' => e = .returned (.map (some b)) ∧ w'.ownsMap Tryz.prog 9 funElem b 8 cmdD ∧ Ext W w') := Lib.hid (fun W b e => e ▸ commands_call W)
  have HN := Lib.hid hn
  have hwm : word.size ≤ maxLen := Nat.le_trans hw (by decide)
  clear hc hn
  go_enter Tryz.func10, Tryz.ntmps10
  go_wp2_with (first
    | (go_at_call 14; (with_reducible refine (HC.out _).mono ?_); rintro e w1 ⟨rfl, n, rfl⟩)
    | (go_at_call 15; refine (HM.out _ (w.heap.size + 1) (by simp)).mono ?_; rintro e w2 ⟨rfl, hown, hx2⟩; obtain ⟨v, ps, hrun, hv⟩ := cmd_look hown word hwm; rw [HN.out] at hrun; have HX2 := Lib.hid hx2; clear hown hx2 hv)
    | (go_at_call 16; (with_reducible refine (HF.out _).mono ?_); rintro e w3 ⟨rfl, hx3⟩))
  go_ret
  exact ⟨rfl, (((Ext.alloc _ _).trans (Ext.drewN _ _)).trans HX2.out).trans hx3⟩
set_option maxRecDepth 100000 in
theorem do_cmd (Q : Ending → World → Prop) (k : Nat) (p : Addr) (line word rest : ByteArray) (more : Bool) (w : World) (hl : line.size ≤ 1073741824) (hc : cutS line 32 = (word, rest, more)) (hw : word.size ≤ 1073741824)
    (hn : Maps.has cmdD (.string word.data.toList) = true) (hk : cmdD.atKey (.string word.data.toList) .nil = .lit (.int .i64 k))
    (hen : ∀ args W, (callFunc k args).run Tryz.prog W = .ok (.enter k args) W)
    (hq : ∀ W, Ext w W → Calls Tryz.prog k #[.agg #[.pointer (some p)], .string rest, .bool more] W fun e w' => (∃ r, e = .returned (.string r)) ∧ Q e w') :
    Calls Tryz.prog 10 #[.agg #[.pointer (some p)], .string line] w Q := by
  have HC : Hid (∀ W, Calls Tryz.prog 14 #[.string line, .string ⟨#[32]⟩] W fun e w' => e = .returned (.tuple #[.string word, .string rest, .bool more]) ∧ ∃ n, w' = W.drewN n) := Lib.hid (fun W => by have := cut_call line 32 W hl; rwa [hc] at this)
  have HM : Hid (∀ (W : World) (b : Nat), W.heap.size = b → Calls Tryz.prog 15 #[] W fun e w' => e = .returned (.map (some b)) ∧ w'.ownsMap Tryz.prog 9 funElem b 8 cmdD ∧ Ext W w') := Lib.hid (fun W b e => e ▸ commands_call W)
  have HN := Lib.hid hn
  have HK := Lib.hid hk
  have HQ := Lib.hid hq
  have hwm : word.size ≤ maxLen := Nat.le_trans hw (by decide)
  clear hc hn hk hq
  go_enter Tryz.func10, Tryz.ntmps10
  go_wp2_with (first
    | (go_at_call 14; (with_reducible refine (HC.out _).mono ?_); rintro e w1 ⟨rfl, n, rfl⟩)
    | (go_at_call 15; refine (HM.out _ (w.heap.size + 1) (by simp)).mono ?_; rintro e w2 ⟨rfl, hown, hx2⟩; obtain ⟨v, ps, hrun, hv⟩ := cmd_look hown word hwm; rw [HN.out] at hrun; rw [HK.out] at hv; obtain rfl := funElem_inv hv; have HX2 := Lib.hid hx2; have hcell := hx2.cell (p := ⟨w.heap.size, 0, none⟩) (cell_of_row _ _ 0 _ _ _ (Blk.new w 37 #[.pointer (some p)])); simp at hcell; clear hown hx2 hv)
    | ((with_reducible refine (HQ.out _ (((Ext.alloc _ _).trans (Ext.drewN _ _)).trans HX2.out)).mono ?_); rintro e w3 ⟨⟨r, rfl⟩, hQ⟩))
  exact hQ
end Go.Proofs.Lw
namespace Go.Proofs.Lw
open Go Go.RowKit

set_option maxRecDepth 100000 in
theorem num_empty (w : World) : Calls Tryz.prog 62 #[.string ⟨#[]⟩] w fun e w' => e = .returned (.tuple #[.int .i64 0, .bool false]) ∧ w = w' := by
  go_enter Tryz.func62, Tryz.ntmps62
  go_wp2_with fail
  go_ret2
  exact ⟨rfl, rfl⟩
set_option maxRecDepth 100000 in
theorem num_o1 (w : World) : Calls Tryz.prog 62 #[.string ⟨#[48, 49]⟩] w fun e w' => e = .returned (.tuple #[.int .i64 0, .bool false]) ∧ w = w' := by
  go_enter Tryz.func62, Tryz.ntmps62
  go_wp2_with fail
  go_ret2
  exact ⟨rfl, rfl⟩
set_option maxRecDepth 100000 in
theorem num_long (w : World) : Calls Tryz.prog 62 #[.string ⟨#[49, 50, 51, 52, 53, 54, 55, 56, 57, 48]⟩] w fun e w' => e = .returned (.tuple #[.int .i64 0, .bool false]) ∧ w = w' := by
  go_enter Tryz.func62, Tryz.ntmps62
  go_wp2_with fail
  go_ret2
  exact ⟨rfl, rfl⟩
set_option maxRecDepth 100000 in
theorem num_blank (w : World) : Calls Tryz.prog 62 #[.string ⟨#[48, 32]⟩] w fun e w' => e = .returned (.tuple #[.int .i64 0, .bool false]) ∧ w = w' := by
  go_enter Tryz.func62, Tryz.ntmps62
  go_wp2_with fail
  go_ret2
  exact ⟨rfl, rfl⟩
set_option maxRecDepth 100000 in
theorem num_nl (w : World) : Calls Tryz.prog 62 #[.string ⟨#[48, 10]⟩] w fun e w' => e = .returned (.tuple #[.int .i64 0, .bool false]) ∧ w = w' := by
  go_enter Tryz.func62, Tryz.ntmps62
  go_wp2_with fail
  go_ret2
  exact ⟨rfl, rfl⟩
set_option maxRecDepth 100000 in
theorem num_minus (w : World) : Calls Tryz.prog 62 #[.string ⟨#[45, 49]⟩] w fun e w' => e = .returned (.tuple #[.int .i64 0, .bool false]) ∧ w = w' := by
  go_enter Tryz.func62, Tryz.ntmps62
  go_wp2_with fail
  refine wp_loop_rounds 2 ?_
  rw [rounds_succ]
  go_wp2_with fail
  go_ret2
  exact ⟨rfl, rfl⟩
set_option maxRecDepth 100000 in
theorem num_x (w : World) : Calls Tryz.prog 62 #[.string ⟨#[120]⟩] w fun e w' => e = .returned (.tuple #[.int .i64 0, .bool false]) ∧ w = w' := by
  go_enter Tryz.func62, Tryz.ntmps62
  go_wp2_with fail
  refine wp_loop_rounds 2 ?_
  rw [rounds_succ]
  go_wp2_with fail
  go_ret2
  exact ⟨rfl, rfl⟩
set_option maxRecDepth 100000 in
theorem num_zero (w : World) : Calls Tryz.prog 62 #[.string ⟨#[48]⟩] w fun e w' => e = .returned (.tuple #[.int .i64 0, .bool true]) ∧ w = w' := by
  go_enter Tryz.func62, Tryz.ntmps62
  go_wp2_with fail
  refine wp_loop_rounds 2 ?_
  rw [rounds_succ]
  go_wp2_with fail
  rw [rounds_succ]
  go_wp2_with fail
  go_ret2
  exact ⟨rfl, rfl⟩
set_option maxRecDepth 100000 in
theorem num_five (w : World) : Calls Tryz.prog 62 #[.string ⟨#[53]⟩] w fun e w' => e = .returned (.tuple #[.int .i64 5, .bool true]) ∧ w = w' := by
  go_enter Tryz.func62, Tryz.ntmps62
  go_wp2_with fail
  refine wp_loop_rounds 2 ?_
  rw [rounds_succ]
  go_wp2_with fail
  rw [rounds_succ]
  go_wp2_with fail
  go_ret2
  exact ⟨rfl, rfl⟩
end Go.Proofs.Lw
namespace Go.Proofs.Lw
open Go Go.RowKit

/-- script.number answers this at a word -/
abbrev NumIs (word : ByteArray) (n : Int) (is : Bool) : Prop := ∀ w : World, Calls Tryz.prog 62 #[.string word] w fun e w' => e = .returned (.tuple #[.int .i64 n, .bool is]) ∧ w = w'
/-- script.cut answers this at a text -/
abbrev CutIs (s : ByteArray) (n : Int) (rest : ByteArray) (is : Bool) : Prop := ∀ w : World, Calls Tryz.prog 68 #[.string s] w fun e w' => e = .returned (.tuple #[.int .i64 n, .string rest, .bool is]) ∧ ∃ k, w' = w.drewN k
theorem cutIs (s word rest : ByteArray) (more : Bool) (n : Int) (is : Bool) (hs : s.size ≤ 1073741824) (hc : cutS s 32 = (word, rest, more)) (hn : NumIs word n is) : CutIs s n rest (is && more) := by
  intro w
  have HC : Hid (∀ W, Calls Tryz.prog 14 #[.string s, .string ⟨#[32]⟩] W fun e w' => e = .returned (.tuple #[.string word, .string rest, .bool more]) ∧ ∃ n, w' = W.drewN n) := Lib.hid (fun W => by have := cut_call s 32 W hs; rwa [hc] at this)
  have HN := Lib.hid hn
  clear hc hn
  cases is <;> cases more
  all_goals
    go_enter Tryz.func68, Tryz.ntmps68
    go_wp2_with (first
      | (go_at_call 14; (with_reducible refine (HC.out _).mono ?_); rintro e w1 ⟨rfl, n, rfl⟩)
      | (go_at_call 62; refine (HN.out _).mono ?_; rintro e w2 ⟨rfl, rfl⟩))
    go_ret3
    exact ⟨rfl, _, rfl⟩
set_option maxRecDepth 100000 in
theorem asked_form (p : Addr) (rest r1 r2 : ByteArray) (n1 n2 : Int) (b1 b2 : Bool) (f : Value) (h1 : CutIs rest n1 r1 b1) (h2 : CutIs r1 n2 r2 b2) (hb : (b1 && b2) = false) (w : World) :
    Calls Tryz.prog 65 #[.agg #[.pointer (some p)], .string rest, f] w fun e w' => e = .returned (.string formB) ∧ Ext w w' := by
  have H1 := Lib.hid h1
  have H2 := Lib.hid h2
  have HF := Lib.hid (fun W => form_call W)
  clear h1 h2
  cases b1 <;> cases b2
  case true.true => exact absurd hb (by decide)
  all_goals
    clear hb
    go_enter Tryz.func65, Tryz.ntmps65
    go_wp2_with (first
      | (go_at_call 68; (with_reducible refine (H1.out _).mono ?_); rintro e w1 ⟨rfl, k1, rfl⟩; clear H1)
      | (go_at_call 68; (with_reducible refine (H2.out _).mono ?_); rintro e w2 ⟨rfl, k2, rfl⟩)
      | (go_at_call 16; (with_reducible refine (HF.out _).mono ?_); rintro e w3 ⟨rfl, hx3⟩))
    go_ret
    exact ⟨rfl, ((Ext.alloc _ _).trans (Ext.drewN _ _)).trans hx3⟩
/-- a command that answers with form -/
abbrev FormAt (k : Nat) (p : Addr) (rest : ByteArray) (more : Bool) : Prop := ∀ w : World, Calls Tryz.prog k #[.agg #[.pointer (some p)], .string rest, .bool more] w fun e w' => e = .returned (.string formB) ∧ Ext w w'
set_option maxRecDepth 100000 in
theorem ask_form (p : Addr) (rest r1 r2 : ByteArray) (n1 n2 : Int) (b1 b2 more : Bool) (h1 : CutIs rest n1 r1 b1) (h2 : CutIs r1 n2 r2 b2) (hb : (b1 && b2) = false) : FormAt 29 p rest more := by
  intro w
  have HA := Lib.hid (fun W => asked_form p rest r1 r2 n1 n2 b1 b2 (.func (.func 66) #[] #[]) h1 h2 hb W)
  clear h1 h2 hb
  go_enter Tryz.func29, Tryz.ntmps29
  go_wp2_with (go_at_call 65; (with_reducible refine (HA.out _).mono ?_); rintro e w1 ⟨rfl, hx⟩)
  go_ret
  exact ⟨rfl, (Ext.alloc _ _).trans hx⟩
set_option maxRecDepth 100000 in
theorem values_form (p : Addr) (rest r1 r2 : ByteArray) (n1 n2 : Int) (b1 b2 more : Bool) (h1 : CutIs rest n1 r1 b1) (h2 : CutIs r1 n2 r2 b2) (hb : (b1 && b2) = false) : FormAt 30 p rest more := by
  intro w
  have HA := Lib.hid (fun W => asked_form p rest r1 r2 n1 n2 b1 b2 (.func (.func 67) #[] #[]) h1 h2 hb W)
  clear h1 h2 hb
  go_enter Tryz.func30, Tryz.ntmps30
  go_wp2_with (go_at_call 65; (with_reducible refine (HA.out _).mono ?_); rintro e w1 ⟨rfl, hx⟩)
  go_ret
  exact ⟨rfl, (Ext.alloc _ _).trans hx⟩
set_option maxRecDepth 100000 in
theorem all_form (p : Addr) (rest r1 : ByteArray) (n1 : Int) (more : Bool) (h1 : CutIs rest n1 r1 false) : FormAt 31 p rest more := by
  intro w
  have H1 := Lib.hid h1
  have HF := Lib.hid (fun W => form_call W)
  clear h1
  go_enter Tryz.func31, Tryz.ntmps31
  go_wp2_with (first
    | (go_at_call 68; (with_reducible refine (H1.out _).mono ?_); rintro e w1 ⟨rfl, k1, rfl⟩)
    | (go_at_call 16; (with_reducible refine (HF.out _).mono ?_); rintro e w3 ⟨rfl, hx3⟩))
  go_ret
  exact ⟨rfl, ((Ext.alloc _ _).trans (Ext.drewN _ _)).trans hx3⟩
set_option maxRecDepth 100000 in
theorem text_form (p : Addr) (rest r1 : ByteArray) (n1 : Int) (more : Bool) (h1 : CutIs rest n1 r1 false) : FormAt 33 p rest more := by
  intro w
  have H1 := Lib.hid h1
  have HF := Lib.hid (fun W => form_call W)
  clear h1
  go_enter Tryz.func33, Tryz.ntmps33
  go_wp2_with (first
    | (go_at_call 68; (with_reducible refine (H1.out _).mono ?_); rintro e w1 ⟨rfl, k1, rfl⟩)
    | (go_at_call 16; (with_reducible refine (HF.out _).mono ?_); rintro e w3 ⟨rfl, hx3⟩))
  go_ret
  exact ⟨rfl, ((Ext.alloc _ _).trans (Ext.drewN _ _)).trans hx3⟩
set_option maxRecDepth 100000 in
theorem count_form (p : Addr) (rest : ByteArray) : FormAt 32 p rest false := by
  intro w
  have HF := Lib.hid (fun W => form_call W)
  go_enter Tryz.func32, Tryz.ntmps32
  go_wp2_with (go_at_call 16; (with_reducible refine (HF.out _).mono ?_); rintro e w3 ⟨rfl, hx3⟩)
  go_ret
  exact ⟨rfl, (Ext.alloc _ _).trans hx3⟩
theorem save_form (p : Addr) (rest : ByteArray) : FormAt 34 p rest true := by
  intro w
  have HF := Lib.hid (fun W => form_call W)
  go_enter Tryz.func34, Tryz.ntmps34
  go_wp2_with (go_at_call 16; (with_reducible refine (HF.out _).mono ?_); rintro e w3 ⟨rfl, hx3⟩)
  go_ret
  exact ⟨rfl, (Ext.alloc _ _).trans hx3⟩
theorem records_form (p : Addr) (rest : ByteArray) : FormAt 27 p rest true := by
  intro w
  have HF := Lib.hid (fun W => form_call W)
  go_enter Tryz.func27, Tryz.ntmps27
  go_wp2_with (go_at_call 16; (with_reducible refine (HF.out _).mono ?_); rintro e w3 ⟨rfl, hx3⟩)
  go_ret
  exact ⟨rfl, (Ext.alloc _ _).trans hx3⟩
set_option maxRecDepth 100000 in
theorem record_form (p : Addr) (rest : ByteArray) (n : Int) (more : Bool) (h : NumIs rest n false) : FormAt 28 p rest more := by
  intro w
  have HN := Lib.hid h
  have HF := Lib.hid (fun W => form_call W)
  clear h
  cases more
  all_goals
    go_enter Tryz.func28, Tryz.ntmps28
    go_wp2_with (first
      | (go_at_call 62; (with_reducible refine (HN.out _).mono ?_); rintro e w1 ⟨rfl, rfl⟩)
      | (go_at_call 16; (with_reducible refine (HF.out _).mono ?_); rintro e w3 ⟨rfl, hx3⟩))
    go_ret
    exact ⟨rfl, (Ext.alloc _ _).trans hx3⟩
end Go.Proofs.Lw
