/- scan: the small functions. scan.take. scan.digits. scan.hex. utf.first, utf.Step. scan.escape. -/
import Derived.Test.YtaejhdmkjodefaaGreatDoorJSemi
set_option linter.unusedSimpArgs false
set_option linter.unusedVariables false
namespace Go.Proofs.Lw
open Go Go.RowKit

/-- all blocks but g, of those that were there, are as they were -/
structure Onl (g : Nat) (w w' : World) : Prop where
  os : w'.os = w.os
  tape : w'.tape = w.tape
  output : w'.output = w.output
  size : w.heap.size ≤ w'.heap.size
  block : ∀ i, i < w.heap.size → i ≠ g → w'.heap[i]? = w.heap[i]?
theorem Onl.refl (g : Nat) (w : World) : Onl g w w := ⟨rfl, rfl, rfl, Nat.le_refl _, fun _ _ _ => rfl⟩
theorem Onl.trans {g : Nat} {a b c : World} (h : Onl g a b) (k : Onl g b c) : Onl g a c :=
  ⟨k.os.trans h.os, k.tape.trans h.tape, k.output.trans h.output, Nat.le_trans h.size k.size, fun i hi hg => (k.block i (Nat.lt_of_lt_of_le hi h.size) hg).trans (h.block i hi hg)⟩
theorem Onl.of_ext {g : Nat} {w w' : World} (h : Ext w w') : Onl g w w' := ⟨h.os, h.tape, h.output, h.size, fun i hi _ => h.block i hi⟩
theorem Onl.setCell {g : Nat} {w w' : World} (h : Onl g w w') {p : Addr} (hp : p.block = g) (u : Value) : Onl g w (w'.setCell p u) :=
  ⟨h.os, h.tape, h.output, by simpa [World.setCell] using h.size, fun i hi hg => (Below.heap_setCell w' p u i (by rw [hp]; exact hg)).trans (h.block i hi hg)⟩
theorem Onl.below {g : Nat} {w w' : World} (h : Onl g w w') (hg : g ≤ w.heap.size) : Below g w w' := ⟨h.os, h.tape, h.output, h.size, fun i hi => h.block i (by omega) (by omega)⟩

/-- a scan behind a pointer: where it stands -/
def ScanB (w : World) (g : Nat) (s : ByteArray) (at_ : Nat) (v : Value) (depth most : Nat) : Prop :=
  Blk w g 154 #[.string s, .int .i64 (at_ : Nat), v, .int .i64 (depth : Nat), .int .i64 (most : Nat)]
/-- the byte that comes next -/
def nxt (s : ByteArray) (k : Nat) : Nat := if h : k < s.size then s[k].toNat else 0
theorem next_call (g : Nat) (s : ByteArray) (k : Nat) (v : Value) (depth most : Nat) (w : World) (h : ScanB w g s k v depth most) (hs : s.size ≤ 1073741824) :
    Calls Tryz.prog 115 #[.pointer (some ⟨g, 0, none⟩)] w fun e w' => e = .returned (.int .u8 (nxt s k : Nat)) ∧ ∃ q, w' = w.drewN q := by
  have hc0 := Blk.cell h 0
  have hc1 := Blk.cell h 1
  simp at hc0 hc1
  by_cases hk : k < s.size
  · have HN : Hid (nxt s k = s[k].toNat) := Lib.hid (by unfold nxt; rw [dif_pos hk])
    go_enter Tryz.func115, Tryz.ntmps115
    go_wp2
    go_quiet (fail)
    go_wp2
    go_quiet (fail)
    go_wp2
    go_ret
    exact ⟨ret_int (by rw [HN.out]), _, World.drewN_drewN ..⟩
  · have HN : Hid (nxt s k = 0) := Lib.hid (by unfold nxt; rw [dif_neg hk])
    go_enter Tryz.func115, Tryz.ntmps115
    go_wp2
    go_quiet (fail)
    go_wp2
    go_ret
    exact ⟨ret_int (by rw [HN.out]; rfl), _, rfl⟩
theorem pop_call (g : Nat) (s : ByteArray) (k : Nat) (v : Value) (depth most : Nat) (w : World) (h : ScanB w g s k v (depth + 1) most) (hk : k ≤ 1073741824) (hd : depth ≤ 1073741824) :
    Calls Tryz.prog 120 #[.pointer (some ⟨g, 0, none⟩)] w fun e w' => e = .returned (.tuple #[]) ∧ ScanB w' g s (k + 1) v depth most ∧ Onl g w w' := by
  have hc1 := Blk.cell h 1
  have hc3 := Blk.cell h 3
  simp at hc1 hc3
  have hfz : ∀ i, w.frozen? ⟨g, i, none⟩ = false := Blk.frozen h
  have hb := (Blk.set_ h 3 (.int .i64 (depth : Nat))).set_ 1 (.int .i64 (k + 1 : Nat))
  have HB := Lib.hid hb
  clear hb
  go_enter Tryz.func120, Tryz.ntmps120
  go_wp2
  go_end0
  exact ⟨rfl, HB.out, ((Onl.refl g w).setCell (p := ⟨g, 3, none⟩) rfl _).setCell (p := ⟨g, 1, none⟩) rfl _⟩

def isBlank (c : Nat) : Bool := c == 32 || c == 9 || c == 10 || c == 13
/-- where the blanks end -/
def skipB (s : ByteArray) (k : Nat) : Nat := if h : k < s.size then if isBlank s[k].toNat then skipB s (k + 1) else k else k
termination_by s.size - k
theorem blank_key : ∀ c : Fin 256, decide (0 ≤ Lib.indexByte [32, 9, 10, 13] c.val.toUInt8) = isBlank c.val := by decide +kernel
theorem blanks_call (g : Nat) (s : ByteArray) (k : Nat) (v : Value) (depth most : Nat) (w : World) (h : ScanB w g s k v depth most) (hs : s.size ≤ 1073741824) (hk : k ≤ s.size) :
    Calls Tryz.prog 114 #[.pointer (some ⟨g, 0, none⟩)] w fun e w' => e = .returned (.tuple #[]) ∧ ScanB w' g s (skipB s k) v depth most ∧ Onl g w w' ∧ skipB s k ≤ s.size := by
  have H := Lib.hid h
  clear h
  go_enter Tryz.func114, Tryz.ntmps114
  go_wp2_with fail
  go_loopw [] (fun wr => ∃ j : Nat, j ≤ s.size ∧ ScanB wr g s j v depth most ∧ skipB s k = skipB s j ∧ Onl g w wr) (fun wr => s.size - (match wr.cell? ⟨g, 1, none⟩ with | some v => (intOf v).toNat | none => 0))
  case atStart => exact ⟨k, hk, H.out, rfl, Onl.refl _ _⟩
  case round =>
    obtain ⟨j, hj, hS, hE, hX⟩ := hrel
    have hc0 := Blk.cell hS 0
    have hc1 := Blk.cell hS 1
    simp at hc0 hc1
    have HS := Lib.hid hS
    have HE := Lib.hid hE
    have HX := Lib.hid hX
    clear hS hE hX
    have hfz : ∀ i, wr.frozen? ⟨g, i, none⟩ = false := Blk.frozen HS.out
    by_cases hjl : j < s.size
    · have hbk : decide (0 ≤ Lib.indexByte [32, 9, 10, 13] s[j]) = isBlank s[j].toNat := by
        have := blank_key ⟨s[j].toNat, UInt8.toNat_lt _⟩
        rwa [show s[j].toNat.toUInt8 = s[j] from UInt8.ofNat_toNat ..] at this
      cases hbl : isBlank s[j].toNat with
      | true =>
        rw [hbl] at hbk
        have hge := of_decide_eq_true hbk
        have HK : Hid (skipB s j = skipB s (j + 1)) := Lib.hid (by rw [skipB, dif_pos hjl, if_pos hbl])
        clear hbk hbl
        go_wp2_with fail
        go_quiet ((go_at_call 95; exact Calls.quiet_left ((Tryz.strings_IndexByte _ _ _).mono fun e w' ⟨a, b⟩ => ⟨a, b.symm⟩)))
        go_wp2_with fail
        have hb2 : ScanB ((wr.drewN nq).setCell ⟨g, 1, none⟩ (.int .i64 ((j : Int) + 1))) g s (j + 1) v depth most := Blk.set_ (Blk.drewN HS.out nq) 1 (.int .i64 ((j : Int) + 1))
        have e1 := Blk.cell hb2 1
        refine ⟨⟨j + 1, by omega, hb2, by rw [HE.out, HK.out], (HX.out.trans (Onl.of_ext (Ext.drewN wr nq))).setCell (p := ⟨g, 1, none⟩) rfl _⟩, ?_⟩
        rw [e1, hc1]
        show s.size - (intOf (.int .i64 ((j + 1 : Nat) : Int))).toNat < s.size - (intOf (.int .i64 (j : Int))).toNat
        have q1 : (intOf (.int .i64 ((j + 1 : Nat) : Int))).toNat = j + 1 := by simp [intOf] <;> omega
        have q2 : (intOf (.int .i64 (j : Int))).toNat = j := by simp [intOf]
        omega
      | false =>
        rw [hbl] at hbk
        have hlt : Lib.indexByte [32, 9, 10, 13] s[j] < 0 := by have := of_decide_eq_false hbk; omega
        have HK : Hid (skipB s j = j) := Lib.hid (by rw [skipB, dif_pos hjl, hbl]; rfl)
        clear hbk hbl
        go_wp2_with fail
        go_quiet ((go_at_call 95; exact Calls.quiet_left ((Tryz.strings_IndexByte _ _ _).mono fun e w' ⟨a, b⟩ => ⟨a, b.symm⟩)))
        go_wp2_with fail
        go_end0
        rw [HE.out, HK.out]
        exact ⟨rfl, Blk.drewN HS.out _, HX.out.trans (Onl.of_ext (Ext.drewN wr nq)), hj⟩
    · have HK : Hid (skipB s j = j) := Lib.hid (by rw [skipB, dif_neg hjl])
      go_wp2_with fail
      go_quiet (fail)
      go_wp2_with fail
      go_end0
      rw [HE.out, HK.out]
      exact ⟨rfl, Blk.drewN HS.out _, HX.out.trans (Onl.of_ext (Ext.drewN wr nq)), hj⟩
end Go.Proofs.Lw
namespace Go.Proofs.Lw
open Go Go.RowKit

/-- where a wanted text ends, and whether it is there -/
def takeS (s : ByteArray) (k : Nat) : List UInt8 → Nat × Bool
  | [] => (k, true)
  | c :: r => if nxt s k = c.toNat then takeS s (k + 1) r else (k, false)
theorem nxt_lt {s : ByteArray} {k : Nat} (h : nxt s k ≠ 0) : k < s.size := by
  unfold nxt at h
  split at h
  · assumption
  · exact absurd rfl h
theorem nxt_byte (s : ByteArray) (k : Nat) : nxt s k < 256 := by
  unfold nxt
  split
  · exact UInt8.toNat_lt _
  · omega
set_option maxHeartbeats 1000000 in
theorem take_call (g : Nat) (s want : ByteArray) (k : Nat) (v : Value) (depth most : Nat) (w : World) (h : ScanB w g s k v depth most) (hs : s.size ≤ 1073741824) (hk : k ≤ s.size) (hw : want.size ≤ 16) (hnz : ∀ c ∈ want.data.toList, c ≠ 0) :
    Calls Tryz.prog 119 #[.pointer (some ⟨g, 0, none⟩), .string want] w fun e w' => e = .returned (.bool (takeS s k want.data.toList).2) ∧ ScanB w' g s (takeS s k want.data.toList).1 v depth most ∧ Onl g w w' ∧ (takeS s k want.data.toList).1 ≤ s.size := by
  have H := Lib.hid h
  have HNZ := Lib.hid hnz
  clear h hnz
  generalize hT : takeS s k want.data.toList = T at *
  have HT := Lib.hid hT
  clear hT
  go_enter Tryz.func119, Tryz.ntmps119
  go_wp2_with fail
  go_loopw [8] (fun i wr => ∃ j k' : Nat, j ≤ want.size ∧ i = .int .i64 (j : Nat) ∧ k' ≤ s.size ∧ ScanB wr g s k' v depth most ∧ T = takeS s k' (want.data.toList.drop j) ∧ Onl g w wr) (fun i _ => want.size - (intOf i).toNat)
  case atStart => exact ⟨0, k, Nat.zero_le _, rfl, hk, H.out, HT.out.symm, Onl.refl _ _⟩
  case round =>
    obtain ⟨j, k', hj, rfl, hk', hS, hE, hX⟩ := hrel
    have hc1 := Blk.cell hS 1
    simp at hc1
    have hfz : ∀ i, wr.frozen? ⟨g, i, none⟩ = false := Blk.frozen hS
    have HS := Lib.hid hS
    have HE := Lib.hid hE
    have HX := Lib.hid hX
    clear hS hE hX
    by_cases hjl : j < want.size
    · have hdrop : want.data.toList.drop j = want[j] :: want.data.toList.drop (j + 1) := List.drop_eq_getElem_cons (l := want.data.toList) (i := j) (by simpa using hjl)
      have hmem : want[j] ∈ want.data.toList := by
        have : want[j] ∈ want.data.toList.drop j := by rw [hdrop]; exact List.mem_cons_self
        exact List.mem_of_mem_drop this
      have hz := HNZ.out _ hmem
      rw [hdrop, takeS] at HE
      clear hdrop hmem
      obtain ⟨c, hcc⟩ : ∃ c, want[j] = c := ⟨_, rfl⟩
      rw [hcc] at HE hz
      have hcb := UInt8.toNat_lt c
      have hnb := nxt_byte s k'
      have HNX : Hid (∀ m : Nat, Calls Tryz.prog 115 #[.pointer (some ⟨g, 0, none⟩)] (wr.drewN m) fun e w'' => e = .returned (.int .u8 (nxt s k' : Nat)) ∧ ∃ q, w'' = wr.drewN q) := Lib.hid (fun m => (next_call g s k' v depth most _ (Blk.drewN HS.out m) hs).mono fun e w'' ⟨a, q, b⟩ => ⟨a, m + q, by rw [b]; exact World.drewN_drewN ..⟩)
      have HLT : Hid (nxt s k' = c.toNat → k' < s.size) := Lib.hid (fun e => nxt_lt (by rw [e]; intro h0; exact hz (UInt8.toNat_inj.1 (by simpa using h0))))
      clear hz
      generalize nxt s k' = x at *
      by_cases hxc : x = c.toNat
      · have hlt := HLT.out hxc
        rw [if_pos hxc] at HE
        subst hxc
        go_wp2_with fail
        go_quiet ((go_at_call 115; with_reducible exact HNX.out _))
        go_wp2_with fail
        have hX2 : Onl g wr (wr.drewN nq) := Onl.of_ext (Ext.drewN wr nq)
        refine ⟨⟨j + 1, k' + 1, hjl, by congr 1, hlt, Blk.set_ (Blk.drewN HS.out nq) 1 (.int .i64 ((k' : Int) + 1)), HE.out, (HX.out.trans hX2).setCell (p := ⟨g, 1, none⟩) rfl _⟩, ?_⟩
        have q1 : (intOf (.int .i64 ((j : Int) + 1))).toNat = j + 1 := by simp [intOf] <;> omega
        have q2 : (intOf (.int .i64 (j : Int))).toNat = j := by simp [intOf]
        omega
      · have hq : ((x : Int) == (c.toNat : Int)) = false := by rw [beq_eq_false_iff_ne]; omega
        rw [if_neg hxc] at HE
        go_wp2_with fail
        go_quiet ((go_at_call 115; with_reducible exact HNX.out _))
        go_wp2_with fail
        have hX2 : Onl g wr (wr.drewN nq) := Onl.of_ext (Ext.drewN wr nq)
        go_ret
        rw [HE.out]
        exact ⟨rfl, Blk.drewN HS.out _, HX.out.trans hX2, hk'⟩
    · have hd : want.data.toList.drop j = [] := List.drop_eq_nil_of_le (by simpa using Nat.le_of_not_lt hjl)
      rw [hd, takeS] at HE
      go_wp2_with fail
      go_ret
      rw [HE.out]
      exact ⟨rfl, HS.out, HX.out, hk'⟩
end Go.Proofs.Lw
namespace Go.Proofs.Lw
open Go Go.RowKit

def isDig (c : Nat) : Bool := decide (48 ≤ c) && decide (c ≤ 57)
/-- where the digits end -/
def digS (s : ByteArray) (k : Nat) : Nat := if h : k < s.size then if isDig s[k].toNat then digS s (k + 1) else k else k
termination_by s.size - k
theorem digS_eq (s : ByteArray) (k : Nat) : digS s k = if isDig (nxt s k) then digS s (k + 1) else k := by
  rw [digS]
  by_cases h : k < s.size
  · rw [dif_pos h, nxt, dif_pos h]
  · rw [dif_neg h, nxt, dif_neg h]; rfl
set_option maxHeartbeats 1000000 in
theorem digits_call (g : Nat) (s : ByteArray) (k : Nat) (v : Value) (depth most : Nat) (w : World) (h : ScanB w g s k v depth most) (hs : s.size ≤ 1073741824) (hk : k ≤ s.size) :
    Calls Tryz.prog 219 #[.pointer (some ⟨g, 0, none⟩)] w fun e w' => e = .returned (.bool (decide (k < digS s k))) ∧ ScanB w' g s (digS s k) v depth most ∧ Onl g w w' ∧ digS s k ≤ s.size := by
  have hc1 := Blk.cell h 1
  simp at hc1
  have hgl := Blk.lt h
  have HN0 := Lib.hid (next_call g s k v depth most w h hs)
  have H := Lib.hid h
  clear h
  generalize hT : digS s k = T at *
  have HT := Lib.hid hT
  clear hT
  go_enter Tryz.func219, Tryz.ntmps219
  go_wp2_with (go_at_call 115; refine HN0.out.mono ?_; rintro e w' ⟨rfl, q, rfl⟩)
  go_loopw [4] (fun c wr => ∃ j : Nat, k ≤ j ∧ j ≤ s.size ∧ c = .int .u8 (nxt s j : Nat) ∧ ScanB wr g s j v depth most ∧ T = digS s j ∧ Onl g w wr) (fun _ wr => s.size - (match wr.cell? ⟨g, 1, none⟩ with | some v => (intOf v).toNat | none => 0))
  case atStart => exact ⟨k, Nat.le_refl _, hk, rfl, Blk.drewN H.out q, HT.out.symm, Onl.of_ext (Ext.drewN w q)⟩
  case round =>
    obtain ⟨j, hj1, hj2, rfl, hS, hE, hX⟩ := hrel
    clear hc1
    have hc1 := Blk.cell hS 1
    simp at hc1
    have hfz : ∀ i, wr.frozen? ⟨g, i, none⟩ = false := Blk.frozen hS
    have HS := Lib.hid hS
    have HX := Lib.hid hX
    have HE : Hid (T = if isDig (nxt s j) then digS s (j + 1) else j) := Lib.hid (by rw [← digS_eq]; exact hE)
    clear hS hE hX
    have HLT : Hid (48 ≤ nxt s j → j < s.size) := Lib.hid (fun e => nxt_lt (by omega))
    have hnb := nxt_byte s j
    have hb2 : ScanB (wr.setCell ⟨g, 1, none⟩ (.int .i64 ((j : Int) + 1))) g s (j + 1) v depth most := Blk.set_ HS.out 1 (.int .i64 ((j : Int) + 1))
    have HB2 := Lib.hid hb2
    clear hb2
    have HN1 := Lib.hid (next_call g s (j + 1) v depth most _ HB2.out hs)
    generalize hy : nxt s (j + 1) = y at *
    have HY := Lib.hid hy
    clear hy
    generalize nxt s j = x at *
    by_cases h1 : 48 ≤ x
    · have hlt := HLT.out h1
      by_cases h2 : x ≤ 57
      · have hd : isDig x = true := by unfold isDig; rw [decide_eq_true h1, decide_eq_true h2]; rfl
        rw [if_pos hd] at HE
        clear hd
        go_wp2_with (go_at_call 115; refine HN1.out.mono ?_; rintro e w' ⟨rfl, q2, rfl⟩)
        have hb3 := Blk.drewN HB2.out q2
        have hX2 : Onl g wr ((wr.setCell ⟨g, 1, none⟩ (.int .i64 ((j : Int) + 1))).drewN q2) := ((Onl.refl g wr).setCell (p := ⟨g, 1, none⟩) rfl _).trans (Onl.of_ext (Ext.drewN _ q2))
        have e1 := Blk.cell hb3 1
        refine ⟨⟨j + 1, by omega, hlt, by rw [HY.out], hb3, HE.out, HX.out.trans hX2⟩, ?_⟩
        rw [e1, hc1]
        show s.size - (intOf (.int .i64 ((j + 1 : Nat) : Int))).toNat < s.size - (intOf (.int .i64 (j : Int))).toNat
        have q1 : (intOf (.int .i64 ((j + 1 : Nat) : Int))).toNat = j + 1 := by simp [intOf] <;> omega
        have q2 : (intOf (.int .i64 (j : Int))).toNat = j := by simp [intOf]
        omega
      · have hd : isDig x = false := by unfold isDig; rw [decide_eq_false h2, Bool.and_false]
        rw [hd, if_neg (by decide)] at HE
        clear hd
        go_wp2_with fail
        go_ret
        rw [HE.out]
        exact ⟨ret_bool (by simp <;> omega), HS.out, HX.out, hj2⟩
    · have hd : isDig x = false := by unfold isDig; rw [decide_eq_false h1, Bool.false_and]
      rw [hd, if_neg (by decide)] at HE
      clear hd
      go_wp2_with fail
      go_ret
      rw [HE.out]
      exact ⟨ret_bool (by simp <;> omega), HS.out, HX.out, hj2⟩
end Go.Proofs.Lw
namespace Go.Proofs.Lw
open Go Go.RowKit

def isHex (c : Nat) : Bool := (decide (48 ≤ c) && decide (c ≤ 57)) || (decide (97 ≤ c) && decide (c ≤ 102)) || (decide (65 ≤ c) && decide (c ≤ 70))
theorem hex_call (c : Nat) (hc : c < 256) (w : World) : Calls Tryz.prog 220 #[.int .u8 c] w fun e w' => e = .returned (.bool (isHex c)) ∧ w = w' := by
  have HH : Hid (isHex c = ((decide (48 ≤ c) && decide (c ≤ 57)) || (decide (97 ≤ c) && decide (c ≤ 102)) || (decide (65 ≤ c) && decide (c ≤ 70)))) := Lib.hid rfl
  generalize isHex c = r at *
  rcases (by omega : c < 48 ∨ (48 ≤ c ∧ c ≤ 57) ∨ (57 < c ∧ c < 65) ∨ (65 ≤ c ∧ c ≤ 70) ∨ (70 < c ∧ c < 97) ∨ (97 ≤ c ∧ c ≤ 102) ∨ 102 < c) with h | ⟨h, h'⟩ | ⟨h, h'⟩ | ⟨h, h'⟩ | ⟨h, h'⟩ | ⟨h, h'⟩ | h
  all_goals
    go_enter Tryz.func220, Tryz.ntmps220
    go_wp2
    go_ret
    rw [HH.out]
    refine ⟨ret_bool ?_, rfl⟩
    rw [Bool.eq_iff_iff]
    simp only [Bool.or_eq_true, Bool.and_eq_true, decide_eq_true_eq, reduceCtorEq, false_iff, true_iff, iff_true, iff_false]
    omega
end Go.Proofs.Lw
namespace Go.Proofs.Lw
open Go Go.RowKit

/-- the state behind a scalar's first byte -/
def ufirst (b : Nat) : Nat :=
  if b < 128 then 0 else if b < 194 then 8 else if b < 224 then 1 else if b = 224 then 4 else if b < 237 then 2 else if b = 237 then 5 else if b < 240 then 2 else if b = 240 then 6 else if b < 244 then 3 else if b = 244 then 7 else 8
set_option maxHeartbeats 1000000 in
set_option maxRecDepth 100000 in
theorem ufirst_call (b : Nat) (hb : b < 256) (w : World) : Calls Tryz.prog 221 #[.int .u8 b] w fun e w' => e = .returned (.int .i64 (ufirst b : Nat)) ∧ w = w' := by
  rcases (by omega : b < 128 ∨ (128 ≤ b ∧ b < 194) ∨ (194 ≤ b ∧ b ≤ 223) ∨ b = 224 ∨ (225 ≤ b ∧ b < 237) ∨ b = 237 ∨ (237 < b ∧ b ≤ 239) ∨ b = 240 ∨ (241 ≤ b ∧ b ≤ 243) ∨ b = 244 ∨ 244 < b) with h | ⟨h, h'⟩ | ⟨h, h'⟩ | rfl | ⟨h, h'⟩ | rfl | ⟨h, h'⟩ | rfl | ⟨h, h'⟩ | rfl | h
  · have HU : Hid (ufirst b = 0) := Lib.hid (by unfold ufirst; (repeat' split) <;> omega)
    generalize ufirst b = r at *
    go_enter Tryz.func221, Tryz.ntmps221
    go_wp2
    go_ret
    exact ⟨ret_int (by rw [HU.out]; rfl), rfl⟩
  · have HU : Hid (ufirst b = 8) := Lib.hid (by unfold ufirst; (repeat' split) <;> omega)
    generalize ufirst b = r at *
    go_enter Tryz.func221, Tryz.ntmps221
    go_wp2
    go_ret
    exact ⟨ret_int (by rw [HU.out]; rfl), rfl⟩
  · have HU : Hid (ufirst b = 1) := Lib.hid (by unfold ufirst; (repeat' split) <;> omega)
    generalize ufirst b = r at *
    go_enter Tryz.func221, Tryz.ntmps221
    go_wp2
    go_ret
    exact ⟨ret_int (by rw [HU.out]; rfl), rfl⟩
  · have HU : Hid (ufirst 224 = 4) := Lib.hid (by decide)
    generalize ufirst 224 = r at *
    go_enter Tryz.func221, Tryz.ntmps221
    go_wp2
    go_ret
    exact ⟨ret_int (by rw [HU.out]; rfl), rfl⟩
  · have HU : Hid (ufirst b = 2) := Lib.hid (by unfold ufirst; (repeat' split) <;> omega)
    generalize ufirst b = r at *
    go_enter Tryz.func221, Tryz.ntmps221
    go_wp2
    go_ret
    exact ⟨ret_int (by rw [HU.out]; rfl), rfl⟩
  · have HU : Hid (ufirst 237 = 5) := Lib.hid (by decide)
    generalize ufirst 237 = r at *
    go_enter Tryz.func221, Tryz.ntmps221
    go_wp2
    go_ret
    exact ⟨ret_int (by rw [HU.out]; rfl), rfl⟩
  · have HU : Hid (ufirst b = 2) := Lib.hid (by unfold ufirst; (repeat' split) <;> omega)
    generalize ufirst b = r at *
    go_enter Tryz.func221, Tryz.ntmps221
    go_wp2
    go_ret
    exact ⟨ret_int (by rw [HU.out]; rfl), rfl⟩
  · have HU : Hid (ufirst 240 = 6) := Lib.hid (by decide)
    generalize ufirst 240 = r at *
    go_enter Tryz.func221, Tryz.ntmps221
    go_wp2
    go_ret
    exact ⟨ret_int (by rw [HU.out]; rfl), rfl⟩
  · have HU : Hid (ufirst b = 3) := Lib.hid (by unfold ufirst; (repeat' split) <;> omega)
    generalize ufirst b = r at *
    go_enter Tryz.func221, Tryz.ntmps221
    go_wp2
    go_ret
    exact ⟨ret_int (by rw [HU.out]; rfl), rfl⟩
  · have HU : Hid (ufirst 244 = 7) := Lib.hid (by decide)
    generalize ufirst 244 = r at *
    go_enter Tryz.func221, Tryz.ntmps221
    go_wp2
    go_ret
    exact ⟨ret_int (by rw [HU.out]; rfl), rfl⟩
  · have HU : Hid (ufirst b = 8) := Lib.hid (by unfold ufirst; (repeat' split) <;> omega)
    generalize ufirst b = r at *
    go_enter Tryz.func221, Tryz.ntmps221
    go_wp2
    go_ret
    exact ⟨ret_int (by rw [HU.out]; rfl), rfl⟩
def ulow (st : Nat) : Nat := if st = 4 then 160 else if st = 6 then 144 else 128
def uhigh (st : Nat) : Nat := if st = 5 then 159 else if st = 7 then 143 else 191
def unext (st : Nat) : Nat := if st = 4 ∨ st = 5 then 1 else if st = 6 ∨ st = 7 then 2 else if st = 1 ∨ st = 2 ∨ st = 3 then st - 1 else 8
/-- the state behind a byte -/
def ustep (st b : Nat) : Nat := if st = 0 then ufirst b else if b < ulow st then 8 else if uhigh st < b then 8 else unext st
theorem ufirst_le (b : Nat) : ufirst b ≤ 8 := by unfold ufirst; (repeat' split) <;> omega
theorem ustep_le (st b : Nat) (h : st ≤ 8) : ustep st b ≤ 8 := by
  unfold ustep unext
  have := ufirst_le b
  (repeat' split) <;> omega
set_option maxHeartbeats 2000000 in
theorem ustep_call (st b : Nat) (hs : st ≤ 7) (hb : b < 256) (w : World) : Calls Tryz.prog 165 #[.int .i64 st, .int .u8 b] w fun e w' => e = .returned (.int .i64 (ustep st b : Nat)) ∧ w = w' := by
  rcases (by omega : st = 0 ∨ st = 1 ∨ st = 2 ∨ st = 3 ∨ st = 4 ∨ st = 5 ∨ st = 6 ∨ st = 7) with rfl | rfl | rfl | rfl | rfl | rfl | rfl | rfl
  · have HU : Hid (ustep 0 b = ufirst b) := Lib.hid rfl
    have HF := Lib.hid (fun W => ufirst_call b hb W)
    generalize ustep 0 b = r at *
    generalize ufirst b = r2 at *
    go_enter Tryz.func165, Tryz.ntmps165
    go_wp2_with (go_at_call 221; refine (HF.out _).mono ?_; rintro e w' ⟨rfl, rfl⟩)
    go_ret
    exact ⟨ret_int (by rw [HU.out]), rfl⟩
  · rcases (by omega : b < 128 ∨ (128 ≤ b ∧ b ≤ 191) ∨ 191 < b) with h | ⟨h, h'⟩ | h
    · have HU : Hid (ustep 1 b = 8) := Lib.hid (by unfold ustep; rw [if_neg (by decide), if_pos (show b < ulow 1 from h)])
      generalize ustep 1 b = r at *
      go_enter Tryz.func165, Tryz.ntmps165
      go_wp2
      go_ret
      exact ⟨ret_int (by rw [HU.out]; rfl), rfl⟩
    · have HU : Hid (ustep 1 b = 0) := Lib.hid (by unfold ustep; rw [if_neg (by decide), if_neg (show ¬ b < ulow 1 from by show ¬ b < 128; omega), if_neg (show ¬ uhigh 1 < b from by show ¬ 191 < b; omega)]; rfl)
      generalize ustep 1 b = r at *
      go_enter Tryz.func165, Tryz.ntmps165
      go_wp2
      go_ret
      exact ⟨ret_int (by rw [HU.out]; rfl), rfl⟩
    · have HU : Hid (ustep 1 b = 8) := Lib.hid (by unfold ustep; rw [if_neg (by decide), if_neg (show ¬ b < ulow 1 from by show ¬ b < 128; omega), if_pos (show uhigh 1 < b from h)])
      generalize ustep 1 b = r at *
      go_enter Tryz.func165, Tryz.ntmps165
      go_wp2
      go_ret
      exact ⟨ret_int (by rw [HU.out]; rfl), rfl⟩
  · rcases (by omega : b < 128 ∨ (128 ≤ b ∧ b ≤ 191) ∨ 191 < b) with h | ⟨h, h'⟩ | h
    · have HU : Hid (ustep 2 b = 8) := Lib.hid (by unfold ustep; rw [if_neg (by decide), if_pos (show b < ulow 2 from h)])
      generalize ustep 2 b = r at *
      go_enter Tryz.func165, Tryz.ntmps165
      go_wp2
      go_ret
      exact ⟨ret_int (by rw [HU.out]; rfl), rfl⟩
    · have HU : Hid (ustep 2 b = 1) := Lib.hid (by unfold ustep; rw [if_neg (by decide), if_neg (show ¬ b < ulow 2 from by show ¬ b < 128; omega), if_neg (show ¬ uhigh 2 < b from by show ¬ 191 < b; omega)]; rfl)
      generalize ustep 2 b = r at *
      go_enter Tryz.func165, Tryz.ntmps165
      go_wp2
      go_ret
      exact ⟨ret_int (by rw [HU.out]; rfl), rfl⟩
    · have HU : Hid (ustep 2 b = 8) := Lib.hid (by unfold ustep; rw [if_neg (by decide), if_neg (show ¬ b < ulow 2 from by show ¬ b < 128; omega), if_pos (show uhigh 2 < b from h)])
      generalize ustep 2 b = r at *
      go_enter Tryz.func165, Tryz.ntmps165
      go_wp2
      go_ret
      exact ⟨ret_int (by rw [HU.out]; rfl), rfl⟩
  · rcases (by omega : b < 128 ∨ (128 ≤ b ∧ b ≤ 191) ∨ 191 < b) with h | ⟨h, h'⟩ | h
    · have HU : Hid (ustep 3 b = 8) := Lib.hid (by unfold ustep; rw [if_neg (by decide), if_pos (show b < ulow 3 from h)])
      generalize ustep 3 b = r at *
      go_enter Tryz.func165, Tryz.ntmps165
      go_wp2
      go_ret
      exact ⟨ret_int (by rw [HU.out]; rfl), rfl⟩
    · have HU : Hid (ustep 3 b = 2) := Lib.hid (by unfold ustep; rw [if_neg (by decide), if_neg (show ¬ b < ulow 3 from by show ¬ b < 128; omega), if_neg (show ¬ uhigh 3 < b from by show ¬ 191 < b; omega)]; rfl)
      generalize ustep 3 b = r at *
      go_enter Tryz.func165, Tryz.ntmps165
      go_wp2
      go_ret
      exact ⟨ret_int (by rw [HU.out]; rfl), rfl⟩
    · have HU : Hid (ustep 3 b = 8) := Lib.hid (by unfold ustep; rw [if_neg (by decide), if_neg (show ¬ b < ulow 3 from by show ¬ b < 128; omega), if_pos (show uhigh 3 < b from h)])
      generalize ustep 3 b = r at *
      go_enter Tryz.func165, Tryz.ntmps165
      go_wp2
      go_ret
      exact ⟨ret_int (by rw [HU.out]; rfl), rfl⟩
  · rcases (by omega : b < 160 ∨ (160 ≤ b ∧ b ≤ 191) ∨ 191 < b) with h | ⟨h, h'⟩ | h
    · have HU : Hid (ustep 4 b = 8) := Lib.hid (by unfold ustep; rw [if_neg (by decide), if_pos (show b < ulow 4 from h)])
      generalize ustep 4 b = r at *
      go_enter Tryz.func165, Tryz.ntmps165
      go_wp2
      go_ret
      exact ⟨ret_int (by rw [HU.out]; rfl), rfl⟩
    · have HU : Hid (ustep 4 b = 1) := Lib.hid (by unfold ustep; rw [if_neg (by decide), if_neg (show ¬ b < ulow 4 from by show ¬ b < 160; omega), if_neg (show ¬ uhigh 4 < b from by show ¬ 191 < b; omega)]; rfl)
      generalize ustep 4 b = r at *
      go_enter Tryz.func165, Tryz.ntmps165
      go_wp2
      go_ret
      exact ⟨ret_int (by rw [HU.out]; rfl), rfl⟩
    · have HU : Hid (ustep 4 b = 8) := Lib.hid (by unfold ustep; rw [if_neg (by decide), if_neg (show ¬ b < ulow 4 from by show ¬ b < 160; omega), if_pos (show uhigh 4 < b from h)])
      generalize ustep 4 b = r at *
      go_enter Tryz.func165, Tryz.ntmps165
      go_wp2
      go_ret
      exact ⟨ret_int (by rw [HU.out]; rfl), rfl⟩
  · rcases (by omega : b < 128 ∨ (128 ≤ b ∧ b ≤ 159) ∨ 159 < b) with h | ⟨h, h'⟩ | h
    · have HU : Hid (ustep 5 b = 8) := Lib.hid (by unfold ustep; rw [if_neg (by decide), if_pos (show b < ulow 5 from h)])
      generalize ustep 5 b = r at *
      go_enter Tryz.func165, Tryz.ntmps165
      go_wp2
      go_ret
      exact ⟨ret_int (by rw [HU.out]; rfl), rfl⟩
    · have HU : Hid (ustep 5 b = 1) := Lib.hid (by unfold ustep; rw [if_neg (by decide), if_neg (show ¬ b < ulow 5 from by show ¬ b < 128; omega), if_neg (show ¬ uhigh 5 < b from by show ¬ 159 < b; omega)]; rfl)
      generalize ustep 5 b = r at *
      go_enter Tryz.func165, Tryz.ntmps165
      go_wp2
      go_ret
      exact ⟨ret_int (by rw [HU.out]; rfl), rfl⟩
    · have HU : Hid (ustep 5 b = 8) := Lib.hid (by unfold ustep; rw [if_neg (by decide), if_neg (show ¬ b < ulow 5 from by show ¬ b < 128; omega), if_pos (show uhigh 5 < b from h)])
      generalize ustep 5 b = r at *
      go_enter Tryz.func165, Tryz.ntmps165
      go_wp2
      go_ret
      exact ⟨ret_int (by rw [HU.out]; rfl), rfl⟩
  · rcases (by omega : b < 144 ∨ (144 ≤ b ∧ b ≤ 191) ∨ 191 < b) with h | ⟨h, h'⟩ | h
    · have HU : Hid (ustep 6 b = 8) := Lib.hid (by unfold ustep; rw [if_neg (by decide), if_pos (show b < ulow 6 from h)])
      generalize ustep 6 b = r at *
      go_enter Tryz.func165, Tryz.ntmps165
      go_wp2
      go_ret
      exact ⟨ret_int (by rw [HU.out]; rfl), rfl⟩
    · have HU : Hid (ustep 6 b = 2) := Lib.hid (by unfold ustep; rw [if_neg (by decide), if_neg (show ¬ b < ulow 6 from by show ¬ b < 144; omega), if_neg (show ¬ uhigh 6 < b from by show ¬ 191 < b; omega)]; rfl)
      generalize ustep 6 b = r at *
      go_enter Tryz.func165, Tryz.ntmps165
      go_wp2
      go_ret
      exact ⟨ret_int (by rw [HU.out]; rfl), rfl⟩
    · have HU : Hid (ustep 6 b = 8) := Lib.hid (by unfold ustep; rw [if_neg (by decide), if_neg (show ¬ b < ulow 6 from by show ¬ b < 144; omega), if_pos (show uhigh 6 < b from h)])
      generalize ustep 6 b = r at *
      go_enter Tryz.func165, Tryz.ntmps165
      go_wp2
      go_ret
      exact ⟨ret_int (by rw [HU.out]; rfl), rfl⟩
  · rcases (by omega : b < 128 ∨ (128 ≤ b ∧ b ≤ 143) ∨ 143 < b) with h | ⟨h, h'⟩ | h
    · have HU : Hid (ustep 7 b = 8) := Lib.hid (by unfold ustep; rw [if_neg (by decide), if_pos (show b < ulow 7 from h)])
      generalize ustep 7 b = r at *
      go_enter Tryz.func165, Tryz.ntmps165
      go_wp2
      go_ret
      exact ⟨ret_int (by rw [HU.out]; rfl), rfl⟩
    · have HU : Hid (ustep 7 b = 2) := Lib.hid (by unfold ustep; rw [if_neg (by decide), if_neg (show ¬ b < ulow 7 from by show ¬ b < 128; omega), if_neg (show ¬ uhigh 7 < b from by show ¬ 143 < b; omega)]; rfl)
      generalize ustep 7 b = r at *
      go_enter Tryz.func165, Tryz.ntmps165
      go_wp2
      go_ret
      exact ⟨ret_int (by rw [HU.out]; rfl), rfl⟩
    · have HU : Hid (ustep 7 b = 8) := Lib.hid (by unfold ustep; rw [if_neg (by decide), if_neg (show ¬ b < ulow 7 from by show ¬ b < 128; omega), if_pos (show uhigh 7 < b from h)])
      generalize ustep 7 b = r at *
      go_enter Tryz.func165, Tryz.ntmps165
      go_wp2
      go_ret
      exact ⟨ret_int (by rw [HU.out]; rfl), rfl⟩
end Go.Proofs.Lw
namespace Go.Proofs.Lw
open Go Go.RowKit

/-- where n digits end, and whether they are there -/
def hexS (s : ByteArray) (k : Nat) : Nat → Nat × Bool
  | 0 => (k, true)
  | n + 1 => if isHex (nxt s k) then hexS s (k + 1) n else (k, false)
def isEsc (c : Nat) : Bool := c == 34 || c == 92 || c == 47 || c == 98 || c == 102 || c == 110 || c == 114 || c == 116 || c == 117
theorem esc_key : ∀ c : Fin 256, decide (Lib.indexByte [34, 92, 47, 98, 102, 110, 114, 116, 117] c.val.toUInt8 < 0) = !isEsc c.val := by decide +kernel
/-- where an escape ends, behind its 5c -/
def escS (s : ByteArray) (k : Nat) : Nat × Bool :=
  if nxt s k = 0 then (k, false) else if isEsc (nxt s k) = false then (k, false) else if nxt s k = 117 then hexS s (k + 1) 4 else (k + 1, true)
theorem isHex_pos {c : Nat} (h : isHex c = true) : c ≠ 0 := by rintro rfl; exact absurd h (by decide)
theorem hexS_ge (s : ByteArray) : ∀ n k, k ≤ (hexS s k n).1
  | 0, k => Nat.le_refl _
  | n + 1, k => by
    unfold hexS
    split
    · exact Nat.le_trans (Nat.le_succ _) (hexS_ge s n (k + 1))
    · exact Nat.le_refl _
set_option maxHeartbeats 1000000 in
theorem escape_call (g : Nat) (s : ByteArray) (k : Nat) (v : Value) (depth most : Nat) (w : World) (h : ScanB w g s k v depth most) (hs : s.size ≤ 1073741824) (hk : k ≤ s.size) :
    Calls Tryz.prog 164 #[.pointer (some ⟨g, 0, none⟩)] w fun e w' => e = .returned (.bool (escS s k).2) ∧ ScanB w' g s (escS s k).1 v depth most ∧ Onl g w w' ∧ (escS s k).1 ≤ s.size := by
  have hc1 := Blk.cell h 1
  simp at hc1
  have hfz : ∀ i, w.frozen? ⟨g, i, none⟩ = false := Blk.frozen h
  have HN0 := Lib.hid (next_call g s k v depth most w h hs)
  have H := Lib.hid h
  clear h
  have HE : Hid (escS s k = if nxt s k = 0 then (k, false) else if isEsc (nxt s k) = false then (k, false) else if nxt s k = 117 then hexS s (k + 1) 4 else (k + 1, true)) := Lib.hid rfl
  generalize escS s k = T at *
  have hnb := nxt_byte s k
  have HLT : Hid (nxt s k ≠ 0 → k < s.size) := Lib.hid nxt_lt
  have hkey := esc_key ⟨nxt s k, hnb⟩
  generalize nxt s k = x at *
  by_cases h0 : x = 0
  · subst h0
    rw [if_pos rfl] at HE
    clear hkey
    go_enter Tryz.func164, Tryz.ntmps164
    go_wp2_with (go_at_call 115; refine HN0.out.mono ?_; rintro e w' ⟨rfl, q, rfl⟩)
    go_ret
    rw [HE.out]
    exact ⟨rfl, Blk.drewN H.out q, Onl.of_ext (Ext.drewN w q), hk⟩
  · have q0 : ((x : Int) == 0) = false := by rw [beq_eq_false_iff_ne]; omega
    rw [if_neg h0] at HE
    have hlt := HLT.out h0
    clear HLT h0
    have hxu : (x : Int).toNat.toUInt8 = x.toUInt8 := by simp
    have HI : Hid (∀ W : World, Calls Tryz.prog 95 #[.string ⟨#[34, 92, 47, 98, 102, 110, 114, 116, 117]⟩, .int .u8 x] W fun e w' => e = .returned (.int .i64 (Lib.indexByte [34, 92, 47, 98, 102, 110, 114, 116, 117] x.toUInt8)) ∧ W = w') :=
      Lib.hid (fun W => (Tryz.strings_IndexByte _ _ _).mono fun e w' ⟨a, b⟩ => ⟨by rw [a, hxu], b.symm⟩)
    clear hxu
    generalize Lib.indexByte [34, 92, 47, 98, 102, 110, 114, 116, 117] x.toUInt8 = ix at *
    cases hes : isEsc x with
    | false =>
      rw [hes, if_pos rfl] at HE
      rw [hes] at hkey
      have hneg : ix < 0 := of_decide_eq_true hkey
      clear hkey hes
      go_enter Tryz.func164, Tryz.ntmps164
      go_wp2_with (first | (go_at_call 115; refine HN0.out.mono ?_; rintro e w' ⟨rfl, q, rfl⟩) | (go_at_call 95; (with_reducible refine (HI.out _).mono ?_); rintro e w' ⟨rfl, rfl⟩))
      go_ret
      rw [HE.out]
      exact ⟨rfl, Blk.drewN H.out q, Onl.of_ext (Ext.drewN w q), hk⟩
    | true =>
      rw [hes, if_neg (by decide)] at HE
      rw [hes] at hkey
      have hpos : ¬ ix < 0 := of_decide_eq_false hkey
      have hpos2 : 0 ≤ ix := by omega
      clear hkey hes hpos
      have HB1 := Lib.hid (show ∀ q, ScanB ((w.drewN q).setCell ⟨g, 1, none⟩ (.int .i64 ((k : Int) + 1))) g s (k + 1) v depth most from fun q => Blk.set_ (Blk.drewN H.out q) 1 (.int .i64 ((k : Int) + 1)))
      have HO1 := Lib.hid (show ∀ q, Onl g w ((w.drewN q).setCell ⟨g, 1, none⟩ (.int .i64 ((k : Int) + 1))) from fun q => (Onl.of_ext (Ext.drewN w q)).setCell (p := ⟨g, 1, none⟩) rfl _)
      by_cases h117 : x = 117
      · have q1 : ((x : Int) != 117) = false := by rw [h117]; decide
        rw [if_pos h117] at HE
        clear h117
        go_enter Tryz.func164, Tryz.ntmps164
        go_wp2_with (first | (go_at_call 115; refine HN0.out.mono ?_; rintro e w' ⟨rfl, q, rfl⟩) | (go_at_call 95; (with_reducible refine (HI.out _).mono ?_); rintro e w' ⟨rfl, rfl⟩))
        go_loopw [22] (fun i wr => ∃ j k' : Nat, j ≤ 4 ∧ i = .int .i64 (j : Nat) ∧ k' ≤ s.size ∧ ScanB wr g s k' v depth most ∧ T = hexS s k' (4 - j) ∧ Onl g w wr) (fun i _ => 4 - (intOf i).toNat)
        case atStart => exact ⟨0, k + 1, by omega, rfl, hlt, HB1.out q, HE.out, HO1.out q⟩
        case round =>
          obtain ⟨j, k', hj, rfl, hk', hS, hE, hX⟩ := hrel
          clear hc1 hfz HN0
          have hc1 := Blk.cell hS 1
          simp at hc1
          have hfz : ∀ i, wr.frozen? ⟨g, i, none⟩ = false := Blk.frozen hS
          have HN1 := Lib.hid (next_call g s k' v depth most wr hS hs)
          have HS := Lib.hid hS
          have HX := Lib.hid hX
          clear hS hX HE
          by_cases hj4 : j < 4
          · have HE : Hid (T = if isHex (nxt s k') then hexS s (k' + 1) (4 - (j + 1)) else (k', false)) := Lib.hid (by rw [hE, show 4 - j = (4 - (j + 1)) + 1 by omega, hexS])
            clear hE
            have HXc := Lib.hid (fun W => hex_call (nxt s k') (nxt_byte s k') W)
            have HLT : Hid (isHex (nxt s k') = true → k' < s.size) := Lib.hid (fun e => nxt_lt (isHex_pos e))
            have hnb' := nxt_byte s k'
            generalize nxt s k' = y at *
            cases hx : isHex y with
            | false =>
              rw [hx, if_neg (by decide)] at HE
              rw [hx] at HXc
              clear hx HLT
              go_wp2_with (first | (go_at_call 115; refine HN1.out.mono ?_; rintro e w' ⟨rfl, q, rfl⟩) | (go_at_call 220; (with_reducible refine (HXc.out _).mono ?_); rintro e w' ⟨rfl, rfl⟩))
              go_ret
              rw [HE.out]
              exact ⟨rfl, Blk.drewN HS.out _, HX.out.trans (Onl.of_ext (Ext.drewN wr _)), hk'⟩
            | true =>
              have hlt' := HLT.out hx
              rw [hx, if_pos rfl] at HE
              rw [hx] at HXc
              clear hx HLT
              go_wp2_with (first | (go_at_call 115; refine HN1.out.mono ?_; rintro e w' ⟨rfl, q, rfl⟩) | (go_at_call 220; (with_reducible refine (HXc.out _).mono ?_); rintro e w' ⟨rfl, rfl⟩))
              refine ⟨⟨j + 1, k' + 1, hj4, by congr 1, hlt', Blk.set_ (Blk.drewN HS.out _) 1 (.int .i64 ((k' : Int) + 1)), HE.out, (HX.out.trans (Onl.of_ext (Ext.drewN wr _))).setCell (p := ⟨g, 1, none⟩) rfl _⟩, ?_⟩
              have q1 : (intOf (.int .i64 ((j : Int) + 1))).toNat = j + 1 := by simp [intOf] <;> omega
              have q2 : (intOf (.int .i64 (j : Int))).toNat = j := by simp [intOf]
              omega
          · obtain rfl : j = 4 := by omega
            have HE : Hid (T = (k', true)) := Lib.hid hE
            clear hE
            go_wp2_with fail
            go_ret
            rw [HE.out]
            exact ⟨rfl, HS.out, HX.out, hk'⟩
      · have q1 : ((x : Int) != 117) = true := by rw [bne_iff_ne]; omega
        rw [if_neg h117] at HE
        clear h117
        go_enter Tryz.func164, Tryz.ntmps164
        go_wp2_with (first | (go_at_call 115; refine HN0.out.mono ?_; rintro e w' ⟨rfl, q, rfl⟩) | (go_at_call 95; (with_reducible refine (HI.out _).mono ?_); rintro e w' ⟨rfl, rfl⟩))
        go_ret
        rw [HE.out]
        exact ⟨rfl, HB1.out _, HO1.out _, hlt⟩
/-- the frame's facts of a scan -/
theorem ScanB.facts {w : World} {g : Nat} {s : ByteArray} {k : Nat} {v : Value} {depth most : Nat} (h : ScanB w g s k v depth most) :
    w.cell? ⟨g, 0, none⟩ = some (.string s) ∧ w.cell? ⟨g, 1, none⟩ = some (.int .i64 (k : Nat)) ∧ (∀ i, w.frozen? ⟨g, i, none⟩ = false) := by
  have hc0 := Blk.cell h 0
  have hc1 := Blk.cell h 1
  simp at hc0 hc1
  exact ⟨hc0, hc1, Blk.frozen h⟩
theorem ScanB.inc {w : World} {g : Nat} {s : ByteArray} {k : Nat} {v : Value} {depth most : Nat} (h : ScanB w g s k v depth most) : ScanB (w.setCell ⟨g, 1, none⟩ (.int .i64 ((k : Int) + 1))) g s (k + 1) v depth most :=
  Blk.set_ h 1 (.int .i64 ((k : Int) + 1))
theorem Onl.inc {g : Nat} {w w' : World} (h : Onl g w w') (u : Value) : Onl g w (w'.setCell ⟨g, 1, none⟩ u) := h.setCell (p := ⟨g, 1, none⟩) rfl u
end Go.Proofs.Lw
