/- scan.leaf. scan.text: the plain machine; the callees' contracts with the stack. -/
import Derived.Test.YtaejhdmkjodefaaGreatDoorJScanF
import Derived.Test.YtaejhdmkjodefaaGreatDoorJScanH
set_option linter.unusedSimpArgs false
set_option linter.unusedVariables false
namespace Go.Proofs.Lw
open Go Go.RowKit

def bNull : List UInt8 := [110, 117, 108, 108]
def bTrue : List UInt8 := [116, 114, 117, 101]
def bFalse : List UInt8 := [102, 97, 108, 115, 101]
/-- where a value that is neither an array nor an object ends -/
def leafS (s : ByteArray) (k : Nat) : Nat × Bool :=
  if nxt s k = 34 then strS s k else if nxt s k = 110 then takeS s k bNull else if nxt s k = 116 then takeS s k bTrue else if nxt s k = 102 then takeS s k bFalse else numS s k
set_option maxHeartbeats 1000000 in
theorem sleaf_call (g : Nat) (s : ByteArray) (k : Nat) (v : Value) (depth most : Nat) (w : World) (h : ScanB w g s k v depth most) (hs : s.size ≤ 1073741824) (hk : k ≤ s.size) :
    Calls Tryz.prog 117 #[.pointer (some ⟨g, 0, none⟩)] w fun e w' => e = .returned (.bool (leafS s k).2) ∧ ScanB w' g s (leafS s k).1 v depth most ∧ Onl g w w' ∧ (leafS s k).1 ≤ s.size := by
  have HN := Lib.hid (next_any g s k v depth most w w ⟨h, Onl.refl g w⟩ hs)
  have HE : Hid (leafS s k = if nxt s k = 34 then strS s k else if nxt s k = 110 then takeS s k bNull else if nxt s k = 116 then takeS s k bTrue else if nxt s k = 102 then takeS s k bFalse else numS s k) := Lib.hid rfl
  have HT1 : Hid (∀ W, ScanB W g s k v depth most → Calls Tryz.prog 119 #[.pointer (some ⟨g, 0, none⟩), .string ⟨#[110, 117, 108, 108]⟩] W fun e w' => e = .returned (.bool (takeS s k bNull).2) ∧ ScanB w' g s (takeS s k bNull).1 v depth most ∧ Onl g W w' ∧ (takeS s k bNull).1 ≤ s.size) :=
    Lib.hid (fun W hW => take_call g s ⟨#[110, 117, 108, 108]⟩ k v depth most W hW hs hk (by decide) (by decide))
  have HT2 : Hid (∀ W, ScanB W g s k v depth most → Calls Tryz.prog 119 #[.pointer (some ⟨g, 0, none⟩), .string ⟨#[116, 114, 117, 101]⟩] W fun e w' => e = .returned (.bool (takeS s k bTrue).2) ∧ ScanB w' g s (takeS s k bTrue).1 v depth most ∧ Onl g W w' ∧ (takeS s k bTrue).1 ≤ s.size) :=
    Lib.hid (fun W hW => take_call g s ⟨#[116, 114, 117, 101]⟩ k v depth most W hW hs hk (by decide) (by decide))
  have HT3 : Hid (∀ W, ScanB W g s k v depth most → Calls Tryz.prog 119 #[.pointer (some ⟨g, 0, none⟩), .string ⟨#[102, 97, 108, 115, 101]⟩] W fun e w' => e = .returned (.bool (takeS s k bFalse).2) ∧ ScanB w' g s (takeS s k bFalse).1 v depth most ∧ Onl g W w' ∧ (takeS s k bFalse).1 ≤ s.size) :=
    Lib.hid (fun W hW => take_call g s ⟨#[102, 97, 108, 115, 101]⟩ k v depth most W hW hs hk (by decide) (by decide))
  have HStr := Lib.hid (fun W hW => str_call g s k v depth most W hW hs hk)
  have HNum := Lib.hid (fun W hW => snumber_call g s k v depth most W hW hs hk)
  clear h
  generalize leafS s k = T at *
  generalize strS s k = rs at *
  generalize takeS s k bNull = r1 at *
  generalize takeS s k bTrue = r2 at *
  generalize takeS s k bFalse = r3 at *
  generalize numS s k = rn at *
  generalize nxt s k = x at *
  by_cases h34 : x = 34
  · subst h34
    rw [if_pos rfl] at HE
    clear HT1 HT2 HT3 HNum
    go_enter Tryz.func117, Tryz.ntmps117
    go_wp2_with (first | (go_at_call 115; (with_reducible refine HN.out.mono ?_); rintro e w1 ⟨rfl, h1, hc0, hc1, hfz⟩) | (go_at_call 118; (with_reducible refine (HStr.out _ h1.out.1).mono ?_); rintro e w2 ⟨rfl, h2, hx2, hk2⟩))
    go_ret
    rw [HE.out]
    exact ⟨rfl, h2, h1.out.2.trans hx2, hk2⟩
  have q34 : ((x : Int) == 34) = false := by rw [beq_eq_false_iff_ne]; omega
  by_cases h110 : x = 110
  · subst h110
    rw [if_neg h34, if_pos rfl] at HE
    clear HStr HT2 HT3 HNum
    go_enter Tryz.func117, Tryz.ntmps117
    go_wp2_with (first | (go_at_call 115; (with_reducible refine HN.out.mono ?_); rintro e w1 ⟨rfl, h1, hc0, hc1, hfz⟩) | (go_at_call 119; (with_reducible refine (HT1.out _ h1.out.1).mono ?_); rintro e w2 ⟨rfl, h2, hx2, hk2⟩))
    go_ret
    rw [HE.out]
    exact ⟨rfl, h2, h1.out.2.trans hx2, hk2⟩
  have q110 : ((x : Int) == 110) = false := by rw [beq_eq_false_iff_ne]; omega
  by_cases h116 : x = 116
  · subst h116
    rw [if_neg h34, if_neg h110, if_pos rfl] at HE
    clear HStr HT1 HT3 HNum
    go_enter Tryz.func117, Tryz.ntmps117
    go_wp2_with (first | (go_at_call 115; (with_reducible refine HN.out.mono ?_); rintro e w1 ⟨rfl, h1, hc0, hc1, hfz⟩) | (go_at_call 119; (with_reducible refine (HT2.out _ h1.out.1).mono ?_); rintro e w2 ⟨rfl, h2, hx2, hk2⟩))
    go_ret
    rw [HE.out]
    exact ⟨rfl, h2, h1.out.2.trans hx2, hk2⟩
  have q116 : ((x : Int) == 116) = false := by rw [beq_eq_false_iff_ne]; omega
  by_cases h102 : x = 102
  · subst h102
    rw [if_neg h34, if_neg h110, if_neg h116, if_pos rfl] at HE
    clear HStr HT1 HT2 HNum
    go_enter Tryz.func117, Tryz.ntmps117
    go_wp2_with (first | (go_at_call 115; (with_reducible refine HN.out.mono ?_); rintro e w1 ⟨rfl, h1, hc0, hc1, hfz⟩) | (go_at_call 119; (with_reducible refine (HT3.out _ h1.out.1).mono ?_); rintro e w2 ⟨rfl, h2, hx2, hk2⟩))
    go_ret
    rw [HE.out]
    exact ⟨rfl, h2, h1.out.2.trans hx2, hk2⟩
  have q102 : ((x : Int) == 102) = false := by rw [beq_eq_false_iff_ne]; omega
  rw [if_neg h34, if_neg h110, if_neg h116, if_neg h102] at HE
  clear HStr HT1 HT2 HT3 h34 h110 h116 h102
  go_enter Tryz.func117, Tryz.ntmps117
  go_wp2_with (first | (go_at_call 115; (with_reducible refine HN.out.mono ?_); rintro e w1 ⟨rfl, h1, hc0, hc1, hfz⟩) | (go_at_call 163; (with_reducible refine (HNum.out _ h1.out.1).mono ?_); rintro e w2 ⟨rfl, h2, hx2, hk2⟩))
  go_ret
  rw [HE.out]
  exact ⟨rfl, h2, h1.out.2.trans hx2, hk2⟩
end Go.Proofs.Lw
namespace Go.Proofs.Lw
open Go Go.RowKit

/-- label, place, open brackets, greatest depth -/
abbrev Cfg := Nat × Nat × List Bool × Nat
/-- where it stops, whether it is a text, greatest depth -/
abbrev Res := Nat × Bool × Nat
def stepV (s : ByteArray) (k : Nat) (st : List Bool) (m : Nat) : Cfg ⊕ Res :=
  if nxt s (skipB s k) = 91 then .inl (if nxt s (skipB s (skipB s k + 1)) = 93 then 1 else 0, skipB s (skipB s k + 1), false :: st, max m (st.length + 1))
  else if nxt s (skipB s k) = 123 then .inl (if nxt s (skipB s (skipB s k + 1)) = 125 then 1 else 2, skipB s (skipB s k + 1), true :: st, max m (st.length + 1))
  else if (leafS s (skipB s k)).2 then .inl (3, (leafS s (skipB s k)).1, st, m)
  else .inr ((leafS s (skipB s k)).1, false, m)
def stepK (s : ByteArray) (k : Nat) (st : List Bool) (m : Nat) : Cfg ⊕ Res :=
  if (strS s (skipB s k)).2 then
    (if (takeS s (skipB s (strS s (skipB s k)).1) [58]).2 then .inl (0, (takeS s (skipB s (strS s (skipB s k)).1) [58]).1, st, m) else .inr ((takeS s (skipB s (strS s (skipB s k)).1) [58]).1, false, m))
  else .inr ((strS s (skipB s k)).1, false, m)
def stepB (s : ByteArray) (k : Nat) (st : List Bool) (m : Nat) : Cfg ⊕ Res :=
  if st = [] then .inr (skipB s k, decide (skipB s k = s.size), m)
  else if nxt s (skipB s k) = 44 then .inl (if st.headD false then 2 else 0, skipB s k + 1, st, m)
  else if (nxt s (skipB s k) = 93 ∧ st.headD false = false) ∨ (nxt s (skipB s k) = 125 ∧ st.headD false = true) then .inl (1, skipB s k, st, m)
  else .inr (skipB s k, false, m)
def step (s : ByteArray) : Cfg → Cfg ⊕ Res
  | (l, k, st, m) => if l = 0 then stepV s k st m else if l = 2 then stepK s k st m else if l = 1 then stepB s (k + 1) st.tail m else stepB s k st m
def textF (s : ByteArray) : Nat → Cfg → Res
  | 0, (_, k, _, m) => (k, false, m)
  | f + 1, c => match step s c with
    | .inl c' => textF s f c'
    | .inr r => r
def contF (s : ByteArray) (f : Nat) : Cfg ⊕ Res → Res
  | .inl c => textF s f c
  | .inr r => r
theorem textF_succ (s : ByteArray) (f : Nat) (c : Cfg) : textF s (f + 1) c = contF s f (step s c) := by rw [textF]; cases step s c <;> rfl
/-- what a text is found to be -/
def textS (s : ByteArray) : Res := textF s (2 * s.size + 1) (0, 0, [], 0)

theorem skipB_ge (s : ByteArray) (k : Nat) : k ≤ skipB s k := by
  fun_induction skipB s k with
  | case1 _ _ _ ih => omega
  | case2 => exact Nat.le_refl _
  | case3 => exact Nat.le_refl _
theorem skipB_le (s : ByteArray) (k : Nat) (h : k ≤ s.size) : skipB s k ≤ s.size := by
  fun_induction skipB s k with
  | case1 _ _ _ ih => exact ih (by omega)
  | case2 => exact h
  | case3 => exact h
theorem digS_ge (s : ByteArray) (k : Nat) : k ≤ digS s k := by
  fun_induction digS s k with
  | case1 _ _ _ ih => omega
  | case2 => exact Nat.le_refl _
  | case3 => exact Nat.le_refl _
theorem takeS_ok (s : ByteArray) : ∀ (l : List UInt8) (k : Nat), (takeS s k l).2 = true → (takeS s k l).1 = k + l.length
  | [], k, _ => rfl
  | c :: r, k, h => by
    unfold takeS at h ⊢
    split at h
    · rename_i hc
      rw [if_pos hc, takeS_ok s r (k + 1) h, List.length_cons]; omega
    · cases h
theorem strF_ge (s : ByteArray) : ∀ f k st, k ≤ (strF s f k st).1
  | 0, k, _ => Nat.le_refl _
  | f + 1, k, st => by
    unfold strF
    have h1 := escS_ge s (k + 1)
    have h2 := strF_ge s f (escS s (k + 1)).1 0
    have h3 := strF_ge s f (k + 1) (ustep st (nxt s k))
    (repeat' split) <;> (try dsimp only) <;> omega
theorem expS_ge (s : ByteArray) (k : Nat) : k ≤ (expS s k).1 := by
  unfold expS exp2 DigE
  have h1 := digS_ge s (k + 1)
  have h2 := digS_ge s (k + 2)
  (repeat' split) <;> (try dsimp only) <;> omega
theorem fracS_ge (s : ByteArray) (k : Nat) : k ≤ (fracS s k).1 := by
  unfold fracS
  have h1 := digS_ge s (k + 1)
  have h2 := expS_ge s (digS s (k + 1))
  have h3 := expS_ge s k
  (repeat' split) <;> (try dsimp only) <;> omega
theorem intS_ok (s : ByteArray) (k : Nat) (h : (intS s k).2 = true) : k < (intS s k).1 := by
  unfold intS at h ⊢
  split
  · exact fracS_ge s (k + 1)
  · rename_i h1
    rw [if_neg h1] at h
    split
    · rename_i h2; exact Nat.lt_of_lt_of_le h2 (fracS_ge s _)
    · rename_i h2; rw [if_neg h2] at h; cases h
theorem numS_ok (s : ByteArray) (k : Nat) (h : (numS s k).2 = true) : k < (numS s k).1 := by
  unfold numS at h ⊢
  split
  · rename_i h1; rw [if_pos h1] at h; have := intS_ok s (k + 1) h; omega
  · rename_i h1; rw [if_neg h1] at h; exact intS_ok s k h
theorem strS_ok (s : ByteArray) (k : Nat) (h : (strS s k).2 = true) : k < (strS s k).1 := by
  unfold strS at h ⊢
  split
  · exact strF_ge s _ (k + 1) 0
  · rename_i h1; rw [if_neg h1] at h; cases h
theorem leafS_ok (s : ByteArray) (k : Nat) (h : (leafS s k).2 = true) : k < (leafS s k).1 := by
  unfold leafS at h ⊢
  by_cases h1 : nxt s k = 34
  · rw [if_pos h1] at h ⊢; exact strS_ok s k h
  rw [if_neg h1] at h ⊢
  by_cases h2 : nxt s k = 110
  · rw [if_pos h2] at h ⊢; rw [takeS_ok s _ k h]; exact Nat.lt_add_of_pos_right (by decide)
  rw [if_neg h2] at h ⊢
  by_cases h3 : nxt s k = 116
  · rw [if_pos h3] at h ⊢; rw [takeS_ok s _ k h]; exact Nat.lt_add_of_pos_right (by decide)
  rw [if_neg h3] at h ⊢
  by_cases h4 : nxt s k = 102
  · rw [if_pos h4] at h ⊢; rw [takeS_ok s _ k h]; exact Nat.lt_add_of_pos_right (by decide)
  rw [if_neg h4] at h ⊢
  exact numS_ok s k h

/-- a scan with its stack, since a world -/
structure ScanA (w0 w : World) (g : Nat) (s : ByteArray) (k : Nat) (st : List Bool) (m : Nat) : Prop where
  scan : ScanS w g s k st m
  below : Below g w0 w
  le : k ≤ s.size
section
variable {w0 w : World} {g : Nat} {s : ByteArray} {k : Nat} {st : List Bool} {m : Nat}
theorem ScanA.via {k' : Nat} {P : Program} {f : FuncId} {args : Array Value} {r : Value} (h : ScanA w0 w g s k st m)
    (c : ∀ v, ScanB w g s k v st.length m → Calls P f args w fun e w' => e = .returned r ∧ ScanB w' g s k' v st.length m ∧ Onl g w w' ∧ k' ≤ s.size) :
    Calls P f args w fun e w' => e = .returned r ∧ Hid (ScanA w0 w' g s k' st m) :=
  (ScanS.lift h.scan c).mono fun _ _ ⟨a, b, c, d⟩ => ⟨a, Lib.hid ⟨b.out, h.below.trans c.out, d⟩⟩
theorem blanksA (h : ScanA w0 w g s k st m) (hs : s.size ≤ 1073741824) : Calls Tryz.prog 114 #[.pointer (some ⟨g, 0, none⟩)] w fun e w' => e = .returned (.tuple #[]) ∧ Hid (ScanA w0 w' g s (skipB s k) st m) :=
  h.via fun v hb => blanks_call g s k v _ _ w hb hs h.le
theorem nextA (h : ScanA w0 w g s k st m) (hs : s.size ≤ 1073741824) : Calls Tryz.prog 115 #[.pointer (some ⟨g, 0, none⟩)] w fun e w' => e = .returned (.int .u8 (nxt s k : Nat)) ∧ Hid (ScanA w0 w' g s k st m) :=
  h.via fun v hb => (next_any g s k v _ _ w w ⟨hb, Onl.refl g w⟩ hs).mono fun _ _ ⟨a, b, _⟩ => ⟨a, b.out.1, b.out.2, h.le⟩
theorem leafA (h : ScanA w0 w g s k st m) (hs : s.size ≤ 1073741824) : Calls Tryz.prog 117 #[.pointer (some ⟨g, 0, none⟩)] w fun e w' => e = .returned (.bool (leafS s k).2) ∧ Hid (ScanA w0 w' g s (leafS s k).1 st m) :=
  h.via fun v hb => sleaf_call g s k v _ _ w hb hs h.le
theorem strA (h : ScanA w0 w g s k st m) (hs : s.size ≤ 1073741824) : Calls Tryz.prog 118 #[.pointer (some ⟨g, 0, none⟩)] w fun e w' => e = .returned (.bool (strS s k).2) ∧ Hid (ScanA w0 w' g s (strS s k).1 st m) :=
  h.via fun v hb => str_call g s k v _ _ w hb hs h.le
theorem colonA (h : ScanA w0 w g s k st m) (hs : s.size ≤ 1073741824) : Calls Tryz.prog 119 #[.pointer (some ⟨g, 0, none⟩), .string ⟨#[58]⟩] w fun e w' => e = .returned (.bool (takeS s k [58]).2) ∧ Hid (ScanA w0 w' g s (takeS s k [58]).1 st m) :=
  h.via fun v hb => take_call g s ⟨#[58]⟩ k v _ _ w hb hs h.le (by decide) (by decide)
theorem objectA (h : ScanA w0 w g s k st m) (hd : st.length ≤ 1048576) : Calls Tryz.prog 121 #[.pointer (some ⟨g, 0, none⟩)] w fun e w' => e = .returned (.bool (st.headD false)) ∧ Hid (ScanA w0 w' g s k st m) :=
  (object_call g s k st m w h.scan hd).mono fun _ _ ⟨a, b, c⟩ => ⟨a, Lib.hid ⟨b.out, h.below.trans c.out, h.le⟩⟩
theorem pushA (one : Bool) (h : ScanA w0 w g s k st m) (hd : st.length ≤ 1048576) (hk : k < s.size) (hs : s.size ≤ 1073741824) (hm : m ≤ 1073741824) :
    Calls Tryz.prog 116 #[.pointer (some ⟨g, 0, none⟩), .bool one] w fun e w' => e = .returned (.tuple #[]) ∧ Hid (ScanA w0 w' g s (k + 1) (one :: st) (max m (st.length + 1))) :=
  (push_call g s k st m one w h.scan hd (by omega) hm).mono fun _ _ ⟨a, b, c⟩ => ⟨a, Lib.hid ⟨b.out, h.below.trans c.out, hk⟩⟩
theorem StkOK.tail {ws : List Nat} {b : Bool} {r : List Bool} (h : StkOK ws (b :: r)) : StkOK ws r := h.2.2
theorem popA {b : Bool} (h : ScanA w0 w g s k (b :: st) m) (hd : st.length ≤ 1048576) (hk : k < s.size) (hs : s.size ≤ 1073741824) :
    Calls Tryz.prog 120 #[.pointer (some ⟨g, 0, none⟩)] w fun e w' => e = .returned (.tuple #[]) ∧ Hid (ScanA w0 w' g s (k + 1) st m) := by
  obtain ⟨v, ws, hb, ho, hst, hlt, hle, hl⟩ := h.scan.ex
  exact (pop_call g s k v st.length m w hb (by omega) (by omega)).mono fun _ _ ⟨a, b, c⟩ =>
    ⟨a, Lib.hid ⟨⟨v, ws, b, own_onl ho c (own_neS ho hb), hst.tail, hlt, by simp at hle; omega, hl⟩, h.below.trans (c.below (Nat.le_of_lt (Blk.lt hb))), hk⟩⟩
theorem ScanA.facts (h : ScanA w0 w g s k st m) : w.cell? ⟨g, 0, none⟩ = some (.string s) ∧ w.cell? ⟨g, 1, none⟩ = some (.int .i64 (k : Nat)) ∧ w.cell? ⟨g, 3, none⟩ = some (.int .i64 (st.length : Nat)) ∧ w.cell? ⟨g, 4, none⟩ = some (.int .i64 (m : Nat)) ∧ (∀ i, w.frozen? ⟨g, i, none⟩ = false) := by
  obtain ⟨v, ws, hb, _⟩ := h.scan.ex
  have hc0 := Blk.cell hb 0
  have hc1 := Blk.cell hb 1
  have hc3 := Blk.cell hb 3
  have hc4 := Blk.cell hb 4
  simp at hc0 hc1 hc3 hc4
  exact ⟨hc0, hc1, hc3, hc4, Blk.frozen hb⟩
theorem ScanA.inc (h : ScanA w0 w g s k st m) (hk : k < s.size) : ScanA w0 (w.setCell ⟨g, 1, none⟩ (.int .i64 ((k : Int) + 1))) g s (k + 1) st m := by
  obtain ⟨v, ws, hb, ho, hst⟩ := h.scan.ex
  have hx : Onl g w (w.setCell ⟨g, 1, none⟩ (.int .i64 ((k : Int) + 1))) := (Onl.refl g w).inc _
  exact ⟨⟨v, ws, ScanB.inc hb, own_onl ho hx (own_neS ho hb), hst⟩, h.below.trans (hx.below (Nat.le_of_lt (Blk.lt hb))), hk⟩
theorem ScanA.drewN (h : ScanA w0 w g s k st m) (n : Nat) : ScanA w0 (w.drewN n) g s k st m := by
  obtain ⟨v, ws, hb, ho, hst⟩ := h.scan.ex
  have hx := Onl.of_ext (g := g) (Ext.drewN w n)
  exact ⟨⟨v, ws, Blk.drewN hb n, own_onl ho hx (own_neS ho hb), hst⟩, h.below.trans (hx.below (Nat.le_of_lt (Blk.lt hb))), h.le⟩
end
end Go.Proofs.Lw
