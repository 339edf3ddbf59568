/- semi's small functions. A row's fields. paren: stretches gone through. Floats that are small whole numbers or infinite. paren.Excess, paren.Reach. -/
import Derived.Test.YtaejhdmkjodefaaGreatDoorJFano
import Derived.Laws.ComplexArith
set_option linter.unusedSimpArgs false
set_option linter.unusedVariables false
namespace Go.Proofs.Lw
open Go Go.RowKit

/-- a slice value that reads as these bools -/
def IsBools (w : World) (v : Value) (l : List Bool) : Prop :=
  ∃ A c, v = .slice A l.length c ∧ l.length ≤ c ∧ c ≤ maxLen ∧ (0 < l.length → ∃ g cs, A = some ⟨g, 0, none⟩ ∧ Blk w g 4 cs ∧ ∀ i, i < l.length → cs[i]? = some (.bool (l.getD i false)))
theorem IsBools.ext {w w' : World} {v : Value} {l : List Bool} (h : IsBools w v l) (e : Ext w w') : IsBools w' v l := by
  obtain ⟨A, c, h1, h2, h3, h4⟩ := h
  exact ⟨A, c, h1, h2, h3, fun h0 => by obtain ⟨g, cs, a, b, d⟩ := h4 h0; exact ⟨g, cs, a, b.ext e, d⟩⟩
theorem IsBools.cell {w : World} {A : Option Addr} {n c : Nat} {l : List Bool} (h : IsBools w (.slice A n c) l) {k : Nat} (hk : k < l.length) :
    ∃ g, A = some ⟨g, 0, none⟩ ∧ w.cell? ⟨g, k, none⟩ = some (.bool (l.getD k false)) := by
  obtain ⟨A', c', h1, _, _, h4⟩ := h
  obtain ⟨g, cs, rfl, hb, hc⟩ := h4 (by omega)
  injection h1 with e1 e2 e3
  exact ⟨g, e1, (hb.cell k).trans (hc k hk)⟩

theorem bound_call (v : Value) (l : List Nat) (s : ByteArray) (w : World) (h : IsInts w v l) :
    Calls Tryz.prog 40 #[v, .string s] w fun e w' => e = .returned (.int .i64 (if l = [] then 1 else s.size : Nat)) ∧ w = w' := by
  obtain ⟨A, c, rfl, hc1, hc2, _⟩ := h
  by_cases h0 : l = []
  · subst h0
    go_enter Tryz.func40, Tryz.ntmps40
    go_wp2
    go_ret
    exact ⟨rfl, rfl⟩
  · have hq : ((l.length : Int) == 0) = false := by rw [beq_eq_false_iff_ne]; have := List.length_pos_iff.2 h0; omega
    rw [if_neg h0]
    go_enter Tryz.func40, Tryz.ntmps40
    go_wp2
    go_ret
    exact ⟨rfl, rfl⟩

/-- one builder, alone -/
structure One (w0 w : World) (base g : Nat) (bs : List Bool) : Prop where
  ex : ∃ v, BldB w base g v bs
  below : Below base w0 w
  base : base ≤ w.heap.size
theorem One.one {w0 w : World} {base g : Nat} {bs ds : List Bool} {P : Program} {f : FuncId} {args : Array Value} {r : Value} (h : One w0 w base g bs)
    (c : ∀ v, BldB w base g v bs → Calls P f args w fun e w' => e = .returned r ∧ Wrote w w' base g v ds) : Calls P f args w fun e w' => e = .returned r ∧ One w0 w' base g ds := by
  obtain ⟨v, h1⟩ := h.ex
  exact (c v h1).mono fun e w' ⟨he, v2, hb, ho, hn⟩ => ⟨he, ⟨⟨v2, hb⟩, Below.trans h.below (off2_below ho h1.ge (fun k e => (h1.own.lt k e).1) h.base), Nat.le_trans h.base ho.size⟩⟩

theorem row_call (v : Value) (l : List Bool) (w : World) (h : IsBools w v l) (hl : l.length ≤ 1073741824) :
    Calls Tryz.prog 41 #[v] w fun e w' => ∃ p, e = .returned (.pointer (some p)) ∧ RowB w' p l ∧ Ext w w' := by
  have H := Lib.hid h
  obtain ⟨A, c, rfl, hc1, hc2, _⟩ := h
  go_enter Tryz.func41, Tryz.ntmps41
  go_wp2_with fail
  go_loopw [5, 8] (fun _ i wr => ∃ j : Nat, j ≤ l.length ∧ i = .int .i64 (j : Nat) ∧ One w wr w.heap.size w.heap.size (l.take j)) (fun _ i _ => l.length - (intOf i).toNat)
  case atStart => exact ⟨0, Nat.zero_le _, rfl, ⟨⟨_, bld_new w⟩, Ext.alloc _ _, (Ext.alloc _ _).size⟩⟩
  case round =>
    obtain ⟨j, hj, rfl, hT⟩ := hrel
    have HT := Lib.hid hT
    clear hT
    have hlt : (l.take j).length ≤ 1073741824 := by rw [List.length_take]; omega
    by_cases hjl : j < l.length
    · obtain ⟨g, rfl, hcell⟩ := (H.out.ext HT.out.below).cell hjl
      have HL := Lib.hid (List.take_succ_eq_append_getElem hjl)
      rw [List.getD_eq_getElem?_getD, List.getElem?_eq_getElem hjl] at hcell
      simp only [Option.getD_some] at hcell
      generalize l[j] = b at *
      go_wp2_with (go_at_call 80; refine (One.one HT.out (fun v hb => bitB_call b _ _ v _ _ hb HT.out.base hlt)).mono ?_; rintro e w3 ⟨rfl, hT3⟩)
      refine ⟨⟨j + 1, by omega, by congr 1, ?_⟩, by simp [intOf]; omega⟩
      rw [HL.out]; exact hT3
    · obtain rfl : j = l.length := by omega
      rw [List.take_length] at HT
      obtain ⟨v, hv⟩ := HT.out.ex
      go_wp2_with (go_at_call 84; refine (rowB_box _ _ _ _ _ hv hl).mono ?_; rintro e w3 ⟨p1, rfl, hr1, hx1⟩)
      go_ret
      exact ⟨p1, rfl, hr1, Ext.trans (show Ext w wr from HT.out.below) hx1⟩
end Go.Proofs.Lw
namespace Go.Proofs.Lw
open Go Go.RowKit

theorem seg_testBit (bs : List Bool) (a n j : Nat) : (valB ((bs.drop a).take n)).testBit j = (decide (j < n) && bs.getD (a + j) false) := by
  rw [valB_testBit, List.getD_eq_getElem?_getD, List.getElem?_take, List.getD_eq_getElem?_getD]
  by_cases h : j < n
  · simp [h]
  · simp [h]
theorem seg_one (bs : List Bool) (i k n : Nat) (hn : 1 ≤ n) (hk : k < 64) (h : k + n ≤ 64) :
    fld (valB ((bs.drop (64 * i)).take 64)) k n = valB ((bs.drop (64 * i + k)).take n) := by
  unfold fld
  rw [if_neg (by omega), if_neg (by omega)]
  apply Nat.eq_of_testBit_eq
  intro j
  rw [Nat.testBit_mod_two_pow, Nat.testBit_div_two_pow, seg_testBit, seg_testBit]
  by_cases hj : j < n
  · simp only [hj, decide_true, Bool.true_and]
    rw [decide_eq_true (by omega), Bool.true_and]; congr 1; omega
  · simp [hj]
theorem seg_two (bs : List Bool) (i k n : Nat) (hk : k < 64) (h1 : n ≤ 64) (h : 64 < k + n) :
    (fld (valB ((bs.drop (64 * i)).take 64)) k n ||| (fld (valB ((bs.drop (64 * (i + 1))).take 64)) 0 (k + n - 64) * 2 ^ (64 - k)) % W64) = valB ((bs.drop (64 * i + k)).take n) := by
  unfold fld
  rw [if_neg (by omega), if_neg (by omega), if_neg (by omega), if_neg (by omega)]
  apply Nat.eq_of_testBit_eq
  intro j
  rw [Nat.testBit_or, show W64 = 2 ^ 64 from rfl, Nat.testBit_mod_two_pow, Nat.testBit_mod_two_pow, Nat.testBit_div_two_pow, Nat.mul_comm _ (2 ^ (64 - k)), Nat.testBit_two_pow_mul, Nat.testBit_mod_two_pow, Nat.pow_zero, Nat.div_one, seg_testBit, seg_testBit, seg_testBit]
  by_cases hj : j < n
  · by_cases hjk : j + k < 64
    · rw [decide_eq_true hj, decide_eq_true (by omega : j + k < 64), decide_eq_false (by omega : ¬ (j ≥ 64 - k)), show 64 * i + (j + k) = 64 * i + k + j by omega]
      simp
    · rw [decide_eq_true hj, decide_eq_false (by omega : ¬ j + k < 64), decide_eq_true (by omega : j < 64), decide_eq_true (by omega : j ≥ 64 - k), decide_eq_true (by omega : j - (64 - k) < k + n - 64), decide_eq_true (by omega : j - (64 - k) < 64), show 64 * (i + 1) + (j - (64 - k)) = 64 * i + k + j by omega]
      simp
  · rw [decide_eq_false hj]
    by_cases h6 : j < 64
    · rw [decide_eq_false (by omega : ¬ j - (64 - k) < k + n - 64)]; simp
    · simp [h6]

theorem RowB.word {w : World} {p : Addr} {bs : List Bool} (h : RowB w p bs) : ∃ g A c, p = ⟨g, 0, none⟩ ∧ Blk w g 179 #[.slice A ((bs.length + 63) / 64) c, .int .i64 bs.length] ∧
    ∀ i, i < (bs.length + 63) / 64 → ∃ g2, A = some ⟨g2, 0, none⟩ ∧ w.cell? ⟨g2, i, none⟩ = some (.int .u64 (valB ((bs.drop (64 * i)).take 64) : Nat)) := by
  obtain ⟨⟨g, v, rfl, hb, A, c, rfl, hc1, hc2, hw⟩, _⟩ := h
  rw [wordsOf_len] at hb hw
  refine ⟨g, A, c, rfl, hb, fun i hi => ?_⟩
  obtain ⟨g2, cs, rfl, hb2, hcs⟩ := hw (by omega)
  refine ⟨g2, rfl, (hb2.cell i).trans ((hcs i hi).trans ?_)⟩
  rw [List.getD_eq_getElem?_getD, wordsOf_get bs i hi]; rfl
theorem word_lt' (bs : List Bool) (a : Nat) : valB ((bs.drop a).take 64) < W64 := by
  have h1 := valB_lt ((bs.drop a).take 64)
  have h2 : ((bs.drop a).take 64).length ≤ 64 := List.length_take_le _ _
  exact Nat.lt_of_lt_of_le h1 (Nat.pow_le_pow_right (by omega) h2)

theorem rowfield_call (p : Addr) (bs : List Bool) (a n : Nat) (w : World) (h : RowB w p bs) (h1 : n ≤ 64) (ha : a + n ≤ bs.length) (hb : bs.length ≤ 1073741824) :
    Calls Tryz.prog 233 #[.pointer (some p), .int .i64 a, .int .i64 n] w fun e w' => e = .returned (.int .u64 (valB ((bs.drop a).take n) : Nat)) ∧ ∃ q, w' = w.drewN q := by
  by_cases hn0 : n = 0
  · subst hn0
    go_enter Tryz.func233, Tryz.ntmps233
    go_wp2
    go_ret
    exact ⟨by simp [valB], 0, rfl⟩
  · have hq : ((n : Int) == 0) = false := by rw [beq_eq_false_iff_ne]; omega
    obtain ⟨i, hi⟩ : ∃ i, i = a / 64 := ⟨_, rfl⟩
    obtain ⟨k, hk⟩ : ∃ k, k = a % 64 := ⟨_, rfl⟩
    have hak : a = 64 * i + k := by omega
    have hk64 : k < 64 := by omega
    have hid : (a : Int) / 64 = (i : Int) := by omega
    have him : (a : Int) % 64 = (k : Int) := by omega
    have hib : i < (bs.length + 63) / 64 := by omega
    have hkn2 : n ≤ 64 + a - k := by omega
    have hib1 : 64 < k + n → i + 1 < (bs.length + 63) / 64 := by omega
    clear hi hk
    obtain ⟨g, A, c, rfl, hbk, hw⟩ := h.word
    have hc0 := hbk.cell 0
    simp at hc0
    obtain ⟨g2, rfl, hcell⟩ := hw i (by omega)
    have HW := Lib.hid hw
    clear hw h hbk
    have hv := word_lt' bs (64 * i)
    by_cases hkn : k + n ≤ 64
    · have HS := Lib.hid (seg_one bs i k n (by omega) hk64 hkn)
      rw [← hak] at HS
      clear hak hib1
      generalize valB ((bs.drop (64 * i)).take 64) = v0 at *
      go_enter Tryz.func233, Tryz.ntmps233
      go_wp2_with (go_at_call 125; refine (field_at v0 k n _ _ (by omega) rfl hv _).mono ?_; rintro e w' ⟨rfl, q, rfl⟩)
      go_ret
      exact ⟨ret_int (by rw [HS.out]), q, rfl⟩
    · have HS := Lib.hid (seg_two bs i k n hk64 h1 (by omega))
      rw [← hak] at HS
      have hib2 := hib1 (by omega)
      clear hak hib1
      have hv1 := word_lt' bs (64 * (i + 1))
      obtain ⟨g3, hg3, hcell1⟩ := HW.out (i + 1) hib2
      injection hg3 with hg3; injection hg3 with hg3; subst hg3
      generalize valB ((bs.drop (64 * i)).take 64) = v0 at *
      generalize valB ((bs.drop (64 * (i + 1))).take 64) = v1 at *
      have HF0 := Lib.hid (fun W => field_nat v0 k n hv W)
      have hkk : (k : Int) + n - 64 = ((k + n - 64 : Nat) : Int) := by omega
      have HF1 := Lib.hid (fun W => field_at v1 0 (k + n - 64) 0 ((k : Int) + n - 64) rfl hkk hv1 W)
      clear hkk
      have ho := or_put (fld v0 k n) (fld v1 0 (k + n - 64)) (64 - k) (fld_lt _ _ _ hv)
      go_enter Tryz.func233, Tryz.ntmps233
      go_wp2_with (first
        | (go_at_call 125; refine (HF0.out _).mono ?_; rintro e w' ⟨rfl, q, rfl⟩; clear HF0)
        | (go_at_call 125; refine (HF1.out _).mono ?_; rintro e w' ⟨rfl, q2, rfl⟩))
      go_ret
      exact ⟨ret_int (by rw [HS.out]), _, rfl⟩

theorem rowFieldE_call (p : Addr) (bs : List Bool) (a n : Nat) (w : World) (h : RowB w p bs) (h1 : n ≤ 64) (ha : a + n ≤ bs.length) (hb : bs.length ≤ 1073741824) :
    Calls Tryz.prog 178 #[.pointer (some p), .int .i64 a, .int .i64 n] w fun e w' => e = .returned (.tuple #[.int .u64 (valB ((bs.drop a).take n) : Nat), .int .i64 0]) ∧ ∃ q, w' = w.drewN q := by
  have HF := Lib.hid (rowfield_call p bs a n w h h1 ha hb)
  obtain ⟨g, A, c, rfl, hbk, hw⟩ := h.word
  have hc1 := hbk.cell 1
  simp at hc1
  clear hw
  generalize valB ((bs.drop a).take n) = v at *
  go_enter Tryz.func178, Tryz.ntmps178
  go_wp2_with (go_at_call 233; refine HF.out.mono ?_; rintro e w' ⟨rfl, q, rfl⟩)
  go_ret2
  exact ⟨rfl, q, rfl⟩

/-- a stretch's ends -/
def endA (bs : List Bool) (a : Int) : Nat := (min (max a 0) bs.length).toNat
def endB (bs : List Bool) (a b : Int) : Nat := (min (max b (endA bs a)) bs.length).toNat
theorem ends_call (p : Addr) (bs : List Bool) (a b : Int) (w : World) (h : RowB w p bs) :
    Calls Tryz.prog 223 #[.pointer (some p), .int .i64 a, .int .i64 b] w fun e w' => e = .returned (.tuple #[.int .i64 (endA bs a : Nat), .int .i64 (endB bs a b : Nat)]) ∧ w = w' := by
  have H := Lib.hid h
  have e1 : min (max a 0) (bs.length : Int) = (endA bs a : Nat) := by unfold endA; omega
  have e2 : min (max b (endA bs a : Nat)) (bs.length : Int) = (endB bs a b : Nat) := by unfold endB; omega
  generalize endA bs a = x at *
  generalize endB bs a b = y at *
  go_enter Tryz.func223, Tryz.ntmps223
  go_wp2_with (go_at_call 126; refine (rowlen_call p bs _ H.out).mono ?_; rintro e w' ⟨rfl, rfl⟩)
  go_ret2
  exact ⟨rfl, rfl⟩
theorem piece_call (p : Addr) (bs : List Bool) (a b n : Nat) (w : World) (h : RowB w p bs) (hab : a ≤ b) (hbl : b ≤ bs.length) (hb : bs.length ≤ 1073741824) (hn : n = min 64 (b - a)) :
    Calls Tryz.prog 224 #[.pointer (some p), .int .i64 a, .int .i64 b] w fun e w' => e = .returned (.tuple #[.int .u64 (valB ((bs.drop a).take n) : Nat), .int .i64 n]) ∧ ∃ q, w' = w.drewN q := by
  have HF := Lib.hid (rowFieldE_call p bs a n w h (by omega) (by omega) hb)
  have e1 : min 64 ((b : Int) - a) = (n : Nat) := by omega
  clear h hn
  generalize valB ((bs.drop a).take n) = v at *
  go_enter Tryz.func224, Tryz.ntmps224
  go_wp2_with (go_at_call 178; refine HF.out.mono ?_; rintro e w' ⟨rfl, q, rfl⟩)
  go_ret2
  exact ⟨rfl, q, rfl⟩
end Go.Proofs.Lw
namespace Go.Proofs.Lw
open Go Go.RowKit

/-- a bit's worth -/
def sgn (b : Bool) : Int := if b then 1 else -1
/-- a list's excess; the least and the greatest of its beginnings but the empty one -/
def exB : List Bool → Int
  | [] => 0
  | b :: r => sgn b + exB r
def loB : List Bool → Int
  | [] => 64
  | [b] => sgn b
  | b :: c :: r => min (sgn b) (sgn b + loB (c :: r))
def hiB : List Bool → Int
  | [] => -64
  | [b] => sgn b
  | b :: c :: r => max (sgn b) (sgn b + hiB (c :: r))
theorem exB_app (a b : List Bool) : exB (a ++ b) = exB a + exB b := by
  induction a with
  | nil => simp [exB]
  | cons x r ih => simp only [List.cons_append, exB, ih]; omega
theorem exB_bd (a : List Bool) : -(a.length : Int) ≤ exB a ∧ exB a ≤ a.length := by
  induction a with
  | nil => simp [exB]
  | cons x r ih => simp only [exB, sgn, List.length_cons]; split <;> omega
theorem loB_app (a b : List Bool) (ha : a ≠ []) (hb : b ≠ []) : loB (a ++ b) = min (loB a) (exB a + loB b) := by
  induction a with
  | nil => exact absurd rfl ha
  | cons x r ih =>
    cases r with
    | nil =>
      cases b with
      | nil => exact absurd rfl hb
      | cons y t => simp [loB, exB]
    | cons y t =>
      have := ih (by simp)
      simp only [List.cons_append] at this ⊢
      simp only [loB, exB, this]
      simp only [exB] at this ⊢
      omega
theorem hiB_app (a b : List Bool) (ha : a ≠ []) (hb : b ≠ []) : hiB (a ++ b) = max (hiB a) (exB a + hiB b) := by
  induction a with
  | nil => exact absurd rfl ha
  | cons x r ih =>
    cases r with
    | nil =>
      cases b with
      | nil => exact absurd rfl hb
      | cons y t => simp [hiB, exB]
    | cons y t =>
      have := ih (by simp)
      simp only [List.cons_append] at this ⊢
      simp only [hiB, exB, this]
      simp only [exB] at this ⊢
      omega
theorem loB_bd (a : List Bool) (ha : a ≠ []) : -(a.length : Int) ≤ loB a ∧ loB a ≤ a.length := by
  induction a with
  | nil => exact absurd rfl ha
  | cons x r ih =>
    cases r with
    | nil => simp only [loB, sgn, List.length_cons, List.length_nil]; split <;> omega
    | cons y t => have := ih (by simp); simp only [loB, sgn, List.length_cons] at *; split <;> omega
theorem hiB_bd (a : List Bool) (ha : a ≠ []) : -(a.length : Int) ≤ hiB a ∧ hiB a ≤ a.length := by
  induction a with
  | nil => exact absurd rfl ha
  | cons x r ih =>
    cases r with
    | nil => simp only [hiB, sgn, List.length_cons, List.length_nil]; split <;> omega
    | cons y t => have := ih (by simp); simp only [hiB, sgn, List.length_cons] at *; split <;> omega

theorem exc_app (c : List Bool) (d : List Bool) (k : Nat) (h : k ≤ c.length) : exc (valB (c ++ d)) k = exB (c.take k) := by
  induction k with
  | zero => simp [exc, exB, cnt]
  | succ k ih =>
    rw [exc_succ, ih (by omega), valB_testBit, List.take_succ_eq_append_getElem (by omega), exB_app]
    have : (c ++ d).getD k false = c[k] := by
      rw [List.getD_eq_getElem?_getD, List.getElem?_append_left (by omega), List.getElem?_eq_getElem (by omega)]; rfl
    rw [this]
    simp [exB, sgn]
theorem exc_val (c : List Bool) : exc (valB c) c.length = exB c := by
  have := exc_app c [] c.length (Nat.le_refl _)
  simpa using this
theorem mnE_val (c : List Bool) (hc : c ≠ []) (h64 : c.length ≤ 64) (k : Nat) (h1 : 1 ≤ k) (h : k ≤ c.length) : mnE (valB c) k = loB (c.take k) ∧ mxE (valB c) k = hiB (c.take k) := by
  induction k with
  | zero => omega
  | succ k ih =>
    have he : exc (valB c) (k + 1) = exB (c.take (k + 1)) := by
      have := exc_app c [] (k + 1) h
      simpa using this
    have hb := exB_bd (c.take (k + 1))
    simp only [mnE, mxE, he]
    rw [List.take_succ_eq_append_getElem (by omega)] at *
    by_cases hk : k = 0
    · subst hk
      simp only [List.take_zero, List.nil_append, mnE, mxE, loB, hiB, exB, sgn] at *
      constructor <;> split <;> omega
    · obtain ⟨i1, i2⟩ := ih (by omega) (by omega)
      have hne : c.take k ≠ [] := by intro e; rcases List.take_eq_nil_iff.1 e with e | e; exact hk e; exact hc e
      rw [loB_app _ _ hne (by simp), hiB_app _ _ hne (by simp), i1, i2, exB_app]
      simp [loB, hiB, exB]
/-- a list's reach as floats -/
def reLoB (c : List Bool) : Nat := if c = [] then 0 else fl (loB c)
def reHiB (c : List Bool) : Nat := if c = [] then 0 else fl (hiB c)
theorem re_val (c : List Bool) (h64 : c.length ≤ 64) : reLo (valB c) c.length = reLoB c ∧ reHi (valB c) c.length = reHiB c := by
  unfold reLo reHi reLoB reHiB
  by_cases hc : c = []
  · subst hc; simp
  · have : c.length ≠ 0 := by simpa using hc
    rw [if_neg this, if_neg this, if_neg hc, if_neg hc]
    have := mnE_val c hc h64 c.length (by omega) (Nat.le_refl _)
    rw [List.take_length] at this
    exact ⟨by rw [this.1], by rw [this.2]⟩

/-- a stretch -/
def seg (bs : List Bool) (a b : Nat) : List Bool := (bs.drop a).take (b - a)
theorem seg_len (bs : List Bool) (a b : Nat) (h : b ≤ bs.length) : (seg bs a b).length = b - a := by unfold seg; rw [List.length_take, List.length_drop]; omega
theorem seg_app (bs : List Bool) (a b c : Nat) (h1 : a ≤ b) (h2 : b ≤ c) (h3 : c ≤ bs.length) : seg bs a c = seg bs a b ++ seg bs b c := by
  unfold seg
  apply List.ext_getElem?
  intro j
  rw [List.getElem?_append]
  simp only [List.getElem?_take, List.getElem?_drop, List.length_take, List.length_drop]
  by_cases hj : j < b - a
  · rw [if_pos (by omega), if_pos (by omega), if_pos hj]
  · rw [if_neg (show ¬ j < min (b - a) (bs.length - a) by omega)]
    rw [show min (b - a) (bs.length - a) = b - a by omega, show b + (j - (b - a)) = a + j by omega]
    by_cases hj2 : j < c - a
    · rw [if_pos hj2, if_pos (by omega)]
    · rw [if_neg hj2, if_neg (by omega)]
theorem seg_nil (bs : List Bool) (a : Nat) : seg bs a a = [] := by simp [seg]
theorem seg_ne (bs : List Bool) (a b : Nat) (h1 : a < b) (h : b ≤ bs.length) : seg bs a b ≠ [] := by
  intro e; have := seg_len bs a b h; rw [e] at this; simp at this; omega

theorem excW_call (c : List Bool) (n : Nat) (hn : c.length = n) (h64 : n ≤ 64) (w : World) :
    Calls Tryz.prog 225 #[.int .u64 (valB c : Nat), .int .i64 n] w fun e w' => e = .returned (.int .i64 (exB c)) ∧ w = w' := by
  subst hn
  have h := excess_nat (valB c) c.length (Nat.lt_of_lt_of_le (valB_lt c) (Nat.pow_le_pow_right (by omega) h64)) w
  rwa [hold_of _ h64, exc_val] at h
theorem reW_call (c : List Bool) (n : Nat) (hn : c.length = n) (h64 : n ≤ 64) (w : World) :
    Calls Tryz.prog 226 #[.int .u64 (valB c : Nat), .int .i64 n] w fun e w' => e = .returned (.complex .f64 (reLoB c) (reHiB c)) ∧ w = w' := by
  subst hn
  have h := reach_call (valB c) c.length (Nat.lt_of_lt_of_le (valB_lt c) (Nat.pow_le_pow_right (by omega) h64)) w
  rwa [hold_of _ h64, (re_val c h64).1, (re_val c h64).2] at h
theorem pieceS_call (p : Addr) (bs : List Bool) (a b : Nat) (w : World) (h : RowB w p bs) (hab : a ≤ b) (hbl : b ≤ bs.length) (hb : bs.length ≤ 1073741824) :
    Calls Tryz.prog 224 #[.pointer (some p), .int .i64 a, .int .i64 b] w fun e w' => e = .returned (.tuple #[.int .u64 (valB (seg bs a (a + min 64 (b - a))) : Nat), .int .i64 (min 64 (b - a) : Nat)]) ∧ ∃ q, w' = w.drewN q := by
  have := piece_call p bs a b (min 64 (b - a)) w h hab hbl hb rfl
  unfold seg
  rwa [show a + min 64 (b - a) - a = min 64 (b - a) by omega]
end Go.Proofs.Lw
namespace Go.Proofs.Lw
open Go Go.RowKit

inductive XF where
  | ninf | fin (n : Int) | pinf
  deriving DecidableEq
def XF.f : XF → Nat
  | .ninf => Lw.ninf
  | .fin n => fl n
  | .pinf => Lw.pinf
/-- moved by a number -/
def XF.sh : XF → Int → XF
  | .fin n, e => .fin (n + e)
  | x, _ => x
def XF.mn : XF → XF → XF
  | .ninf, _ => .ninf
  | _, .ninf => .ninf
  | .pinf, y => y
  | x, .pinf => x
  | .fin a, .fin b => .fin (min a b)
def XF.mx : XF → XF → XF
  | .pinf, _ => .pinf
  | _, .pinf => .pinf
  | .ninf, y => y
  | x, .ninf => x
  | .fin a, .fin b => .fin (max a b)
def XF.lt (x : XF) (B : Nat) : Prop := ∀ n, x = .fin n → n.natAbs < B
theorem XF.sh_lt {x : XF} {e : Int} {B C D : Nat} (h : x.lt B) (he : e.natAbs < C) (hd : B + C ≤ D) : (x.sh e).lt D := by
  intro n hn
  cases x with
  | fin m => simp only [XF.sh, XF.fin.injEq] at hn; have := h m rfl; omega
  | _ => simp [XF.sh] at hn
theorem XF.mn_lt {x y : XF} {B : Nat} (h : x.lt B) (k : y.lt B) : (XF.mn x y).lt B := by
  cases x with
  | ninf => intro n hn; cases y <;> cases hn
  | pinf => intro n hn; cases y with
    | ninf => cases hn
    | pinf => cases hn
    | fin b => cases hn; exact k _ rfl
  | fin a => intro n hn; cases y with
    | ninf => cases hn
    | pinf => cases hn; exact h _ rfl
    | fin b => cases hn; have := h _ rfl; have := k _ rfl; omega
theorem XF.mx_lt {x y : XF} {B : Nat} (h : x.lt B) (k : y.lt B) : (XF.mx x y).lt B := by
  cases x with
  | pinf => intro n hn; cases y <;> cases hn
  | ninf => intro n hn; cases y with
    | ninf => cases hn
    | pinf => cases hn
    | fin b => cases hn; exact k _ rfl
  | fin a => intro n hn; cases y with
    | pinf => cases hn
    | ninf => cases hn; exact h _ rfl
    | fin b => cases hn; have := h _ rfl; have := k _ rfl; omega
theorem XF.add {x : XF} (h : x.lt (2 ^ 52)) (e : Int) (he : e.natAbs < 2 ^ 52) : Ieee.double.add x.f (fl e) = some (x.sh e).f := by
  cases x with
  | fin n => exact fl_add n e (h n rfl) he
  | pinf => exact add_pinf e (by omega)
  | ninf => exact add_ninf e (by omega)
theorem order_np : Ieee.double.order Lw.ninf Lw.pinf = some .lt := by decide +kernel
theorem order_pn : Ieee.double.order Lw.pinf Lw.ninf = some .gt := by decide +kernel
variable {P : Program}
theorem XF.run_add {x y : XF} (h : x.lt (2 ^ 52)) (k : y.lt (2 ^ 52)) (e : Int) (he : e.natAbs < 2 ^ 52) (t : TypeId) (w : World) :
    (binOp .add t (.complex .f64 x.f y.f) (.complex .f64 (fl e) (fl e))).run P w = .ok (.complex .f64 (x.sh e).f (y.sh e).f) w := by
  apply run_complex_sum w .add (.inl rfl)
  unfold cSumBits
  have h1 : floatBits .add .f64 x.f (fl e) = some (x.sh e).f := XF.add h e he
  have h2 : floatBits .add .f64 y.f (fl e) = some (y.sh e).f := XF.add k e he
  rw [h1, h2]; rfl
theorem run_min2 (x y r : Nat) (ts : Array TypeId) (t : TypeId) (w : World) (o : Ordering) (h : Ieee.double.order x y = some o) (hr : r = match o with | .lt => x | .gt => y | .eq => y) (he : o = .eq → x = y) :
    (Builtin.min_ ts t #[.float .f64 x, .float .f64 y]).run P w = .ok (.float .f64 r) w := by
  have h' : FloatKind.f64.format.order x y = some o := h
  subst hr
  cases o with
  | eq => obtain rfl := he rfl; simp [Builtin.min_, Builtin.min2, h']
  | _ => simp [Builtin.min_, Builtin.min2, h']
theorem run_max2 (x y r : Nat) (ts : Array TypeId) (t : TypeId) (w : World) (o : Ordering) (h : Ieee.double.order x y = some o) (hr : r = match o with | .lt => y | .gt => x | .eq => y) (he : o = .eq → x = y) :
    (Builtin.max_ ts t #[.float .f64 x, .float .f64 y]).run P w = .ok (.float .f64 r) w := by
  have h' : FloatKind.f64.format.order x y = some o := h
  subst hr
  cases o with
  | eq => obtain rfl := he rfl; simp [Builtin.max_, Builtin.max2, h']
  | _ => simp [Builtin.max_, Builtin.max2, h']
theorem XF.run_min {x y : XF} (h : x.lt (2 ^ 53)) (k : y.lt (2 ^ 53)) (ts : Array TypeId) (t : TypeId) (w : World) :
    (Builtin.min_ ts t #[.float .f64 x.f, .float .f64 y.f]).run P w = .ok (.float .f64 (XF.mn x y).f) w := by
  cases x with
  | ninf =>
    cases y with
    | ninf => exact run_min2 _ _ _ _ _ _ _ order_ninf_ninf rfl (fun _ => rfl)
    | fin b => exact run_min2 _ _ _ _ _ _ _ (order_ninf_l b (k b rfl)) rfl (fun e => (by cases e))
    | pinf => exact run_min2 _ _ _ _ _ _ _ order_np rfl (fun e => (by cases e))
  | pinf =>
    cases y with
    | ninf => exact run_min2 _ _ _ _ _ _ _ order_pn rfl (fun e => (by cases e))
    | fin b => exact run_min2 _ _ _ _ _ _ _ (order_pinf_l b (k b rfl)) rfl (fun e => (by cases e))
    | pinf => exact run_min2 _ _ _ _ _ _ _ order_pinf_pinf rfl (fun _ => rfl)
  | fin a =>
    cases y with
    | ninf => exact run_min2 _ _ _ _ _ _ _ (order_ninf_r a (h a rfl)) rfl (fun e => (by cases e))
    | pinf => exact run_min2 _ _ _ _ _ _ _ (order_pinf_r a (h a rfl)) rfl (fun e => (by cases e))
    | fin b =>
      have ho := fl_order a b (h a rfl) (k b rfl)
      rw [cmp_eq] at ho
      by_cases h1 : a < b
      · rw [if_pos h1] at ho
        exact run_min2 _ _ _ _ _ _ .lt ho (by simp only [XF.mn, XF.f]; congr 1; omega) (fun e => (by cases e))
      · by_cases h2 : a = b
        · rw [if_neg h1, if_pos h2] at ho
          exact run_min2 _ _ _ _ _ _ .eq ho (by simp only [XF.mn, XF.f]; congr 1; omega) (fun e => (by rw [h2]))
        · rw [if_neg h1, if_neg h2] at ho
          exact run_min2 _ _ _ _ _ _ .gt ho (by simp only [XF.mn, XF.f]; congr 1; omega) (fun e => (by cases e))
theorem XF.run_max {x y : XF} (h : x.lt (2 ^ 53)) (k : y.lt (2 ^ 53)) (ts : Array TypeId) (t : TypeId) (w : World) :
    (Builtin.max_ ts t #[.float .f64 x.f, .float .f64 y.f]).run P w = .ok (.float .f64 (XF.mx x y).f) w := by
  cases x with
  | ninf =>
    cases y with
    | ninf => exact run_max2 _ _ _ _ _ _ _ order_ninf_ninf rfl (fun _ => rfl)
    | fin b => exact run_max2 _ _ _ _ _ _ _ (order_ninf_l b (k b rfl)) rfl (fun e => (by cases e))
    | pinf => exact run_max2 _ _ _ _ _ _ _ order_np rfl (fun e => (by cases e))
  | pinf =>
    cases y with
    | ninf => exact run_max2 _ _ _ _ _ _ _ order_pn rfl (fun e => (by cases e))
    | fin b => exact run_max2 _ _ _ _ _ _ _ (order_pinf_l b (k b rfl)) rfl (fun e => (by cases e))
    | pinf => exact run_max2 _ _ _ _ _ _ _ order_pinf_pinf rfl (fun _ => rfl)
  | fin a =>
    cases y with
    | ninf => exact run_max2 _ _ _ _ _ _ _ (order_ninf_r a (h a rfl)) rfl (fun e => (by cases e))
    | pinf => exact run_max2 _ _ _ _ _ _ _ (order_pinf_r a (h a rfl)) rfl (fun e => (by cases e))
    | fin b =>
      have ho := fl_order a b (h a rfl) (k b rfl)
      rw [cmp_eq] at ho
      by_cases h1 : a < b
      · rw [if_pos h1] at ho
        exact run_max2 _ _ _ _ _ _ .lt ho (by simp only [XF.mx, XF.f]; congr 1; omega) (fun e => (by cases e))
      · by_cases h2 : a = b
        · rw [if_neg h1, if_pos h2] at ho
          exact run_max2 _ _ _ _ _ _ .eq ho (by simp only [XF.mx, XF.f]; congr 1; omega) (fun e => (by rw [h2]))
        · rw [if_neg h1, if_neg h2] at ho
          exact run_max2 _ _ _ _ _ _ .gt ho (by simp only [XF.mx, XF.f]; congr 1; omega) (fun e => (by cases e))
end Go.Proofs.Lw
namespace Go.Proofs.Lw
open Go Go.RowKit

set_option maxHeartbeats 1000000 in
theorem pexcess_call (p : Addr) (bs : List Bool) (a b : Int) (w : World) (h : RowB w p bs) (hb : bs.length ≤ 1073741824) :
    Calls Tryz.prog 169 #[.pointer (some p), .int .i64 a, .int .i64 b] w fun e w' => e = .returned (.int .i64 (exB (seg bs (endA bs a) (endB bs a b)))) ∧ ∃ q, w' = w.drewN q := by
  have HE := Lib.hid (ends_call p bs a b w h)
  have hA : endA bs a ≤ endB bs a b ∧ endB bs a b ≤ bs.length := by unfold endB endA; omega
  obtain ⟨hA1, hA2⟩ := hA
  generalize endA bs a = x at *
  generalize endB bs a b = y at *
  have H := Lib.hid h
  clear h
  go_enter Tryz.func169, Tryz.ntmps169
  go_wp2_with (go_at_call 223; refine HE.out.mono ?_; rintro e w' ⟨rfl, rfl⟩)
  go_loopw [1, 7] (fun f e wr => ∃ j : Nat, x ≤ j ∧ j ≤ y ∧ f = .int .i64 (j : Nat) ∧ e = .int .i64 (exB (seg bs x j)) ∧ ∃ q, wr = w.drewN q) (fun f _ _ => y - (intOf f).toNat)
  case atStart => exact ⟨x, Nat.le_refl _, hA1, rfl, by rw [seg_nil]; rfl, 0, rfl⟩
  case round =>
    obtain ⟨j, hj1, hj2, rfl, rfl, q0, rfl⟩ := hrel
    by_cases hjl : j < y
    · have HP := Lib.hid (pieceS_call p bs j y (w.drewN q0) (by exact H.out) hj2 hA2 hb)
      have hS := seg_app bs x j (j + min 64 (y - j)) hj1 (by omega) (by omega)
      have hL := seg_len bs j (j + min 64 (y - j)) (by omega)
      have hE : exB (seg bs x (j + min 64 (y - j))) = exB (seg bs x j) + exB (seg bs j (j + min 64 (y - j))) := by rw [hS, exB_app]
      have HEx := Lib.hid hE
      have b1 := exB_bd (seg bs x j)
      have b2 := exB_bd (seg bs j (j + min 64 (y - j)))
      have l1 := seg_len bs x j (by omega)
      rw [l1] at b1
      rw [hL] at b2
      have HW := Lib.hid (fun W => excW_call (seg bs j (j + min 64 (y - j))) (min 64 (y - j)) (by omega) (by omega) W)
      obtain ⟨m, hm⟩ : ∃ m, m = min 64 (y - j) := ⟨_, rfl⟩
      have hm1 : 1 ≤ m ∧ m ≤ 64 ∧ j + m ≤ y := by omega
      obtain ⟨hm1, hm2, hm3⟩ := hm1
      rw [← hm] at HP b2 HW HEx
      clear hE hS hL hm
      generalize valB (seg bs j (j + m)) = v at *
      generalize exB (seg bs j (j + m)) = ev at *
      generalize exB (seg bs x j) = e0 at *
      go_wp2_with (first
        | (go_at_call 224; refine HP.out.mono ?_; rintro e w' ⟨rfl, q, rfl⟩)
        | (go_at_call 225; refine (HW.out _).mono ?_; rintro e w' ⟨rfl, rfl⟩))
      go_roundw
      case rel => exact ⟨j + m, by omega, by omega, by go_num, by rw [HEx.out], _, rfl⟩
      case measure => simp [intOf]; omega
    · obtain rfl : j = y := by omega
      go_wp2
      go_ret
      exact ⟨rfl, _, rfl⟩

theorem wider_call (x y u v : XF) (e : Int) (w : World) (h1 : x.lt (2 ^ 52)) (h2 : y.lt (2 ^ 52)) (h3 : u.lt (2 ^ 51)) (h4 : v.lt (2 ^ 51)) (h5 : e.natAbs < 2 ^ 51) :
    Calls Tryz.prog 227 #[.complex .f64 x.f y.f, .complex .f64 u.f v.f, .int .i64 e] w fun r w' => r = .returned (.complex .f64 (XF.mn x (u.sh e)).f (XF.mx y (v.sh e)).f) ∧ w = w' := by
  have hc := conv_float e
  have hm := mk_complex
  have ha := XF.run_add (P := Tryz.prog) (x := u) (y := v) (fun n hn => Nat.lt_of_lt_of_le (h3 n hn) (by decide)) (fun n hn => Nat.lt_of_lt_of_le (h4 n hn) (by decide)) e (by omega)
  have hn := XF.run_min (P := Tryz.prog) (x := x) (y := u.sh e) (fun n hn => Nat.lt_of_lt_of_le (h1 n hn) (by decide)) (XF.sh_lt h3 h5 (by decide))
  have hx := XF.run_max (P := Tryz.prog) (x := y) (y := v.sh e) (fun n hn => Nat.lt_of_lt_of_le (h2 n hn) (by decide)) (XF.sh_lt h4 h5 (by decide))
  clear h1 h2 h3 h4
  generalize (u.sh e).f = g1 at *
  generalize (v.sh e).f = g2 at *
  go_enter Tryz.func227, Tryz.ntmps227
  go_wp2
  go_ret
  exact ⟨rfl, rfl⟩

theorem reX_call (c : List Bool) (n : Nat) (hn : c.length = n) (h1 : 1 ≤ n) (h64 : n ≤ 64) (w : World) :
    Calls Tryz.prog 226 #[.int .u64 (valB c : Nat), .int .i64 n] w fun e w' => e = .returned (.complex .f64 (XF.fin (loB c)).f (XF.fin (hiB c)).f) ∧ w = w' := by
  have h := reW_call c n hn h64 w
  have hc : c ≠ [] := by intro e; rw [e] at hn; simp at hn; omega
  rwa [reLoB, reHiB, if_neg hc, if_neg hc] at h
theorem fin_lt {n : Int} {B C : Nat} (h : -(B : Int) ≤ n ∧ n ≤ B) (hB : B < C) : (XF.fin n).lt C := by
  intro m hm; cases hm; omega

set_option maxHeartbeats 2000000 in
set_option maxRecDepth 100000 in
theorem preach_call (p : Addr) (bs : List Bool) (a b : Int) (w : World) (h : RowB w p bs) (hb : bs.length ≤ 1073741824) :
    Calls Tryz.prog 170 #[.pointer (some p), .int .i64 a, .int .i64 b] w fun e w' => e = .returned (.complex .f64 (reLoB (seg bs (endA bs a) (endB bs a b))) (reHiB (seg bs (endA bs a) (endB bs a b)))) ∧ ∃ q, w' = w.drewN q := by
  have HE := Lib.hid (ends_call p bs a b w h)
  have hA : endA bs a ≤ endB bs a b ∧ endB bs a b ≤ bs.length := by unfold endB endA; omega
  obtain ⟨hA1, hA2⟩ := hA
  generalize endA bs a = x at *
  generalize endB bs a b = y at *
  have H := Lib.hid h
  clear h
  by_cases hxy : x = y
  · subst hxy
    have hs : Hid (reLoB (seg bs x x) = 0 ∧ reHiB (seg bs x x) = 0) := Lib.hid (by rw [seg_nil]; exact ⟨rfl, rfl⟩)
    generalize reLoB (seg bs x x) = r1 at *
    generalize reHiB (seg bs x x) = r2 at *
    go_enter Tryz.func170, Tryz.ntmps170
    go_wp2_with (go_at_call 223; refine HE.out.mono ?_; rintro e w' ⟨rfl, rfl⟩)
    go_ret
    rw [hs.out.1, hs.out.2]
    exact ⟨rfl, 0, rfl⟩
  · have hq : ((x : Int) == (y : Int)) = false := by rw [beq_eq_false_iff_ne]; omega
    have hR : Hid (reLoB (seg bs x y) = (XF.fin (loB (seg bs x y))).f ∧ reHiB (seg bs x y) = (XF.fin (hiB (seg bs x y))).f) := Lib.hid (by
      have := seg_ne bs x y (by omega) hA2
      rw [reLoB, reHiB, if_neg this, if_neg this]; exact ⟨rfl, rfl⟩)
    generalize reLoB (seg bs x y) = r1 at *
    generalize reHiB (seg bs x y) = r2 at *
    -- the first piece
    have HP := Lib.hid (pieceS_call p bs x y w H.out hA1 hA2 hb)
    have hL := seg_len bs x (x + min 64 (y - x)) (by omega)
    have HWe := Lib.hid (fun W => excW_call (seg bs x (x + min 64 (y - x))) (min 64 (y - x)) (by omega) (by omega) W)
    have HWr := Lib.hid (fun W => reX_call (seg bs x (x + min 64 (y - x))) (min 64 (y - x)) (by omega) (by omega) (by omega) W)
    obtain ⟨m, hm⟩ : ∃ m, m = min 64 (y - x) := ⟨_, rfl⟩
    have hm1 : 1 ≤ m ∧ m ≤ 64 ∧ x + m ≤ y := by omega
    obtain ⟨hm1, hm2, hm3⟩ := hm1
    rw [← hm] at HP HWe HWr
    clear hm hL
    have HV : Hid (∃ v, v = valB (seg bs x (x + m)) ∧ ∃ l, l = loB (seg bs x (x + m)) ∧ ∃ h, h = hiB (seg bs x (x + m)) ∧ ∃ e, e = exB (seg bs x (x + m))) := Lib.hid ⟨_, rfl, _, rfl, _, rfl, _, rfl⟩
    obtain ⟨v, hv, l, hl, hh, hhh, ev, hev⟩ := HV.out
    rw [← hv] at HP HWe HWr
    rw [← hl, ← hhh] at HWr
    rw [← hev] at HWe
    have HS := Lib.hid (⟨hl, hhh, hev⟩ : _ ∧ _ ∧ _)
    clear hv hl hhh hev HV
    go_enter Tryz.func170, Tryz.ntmps170
    go_wp2_with (first
      | (go_at_call 223; refine HE.out.mono ?_; rintro e w' ⟨rfl, rfl⟩)
      | (go_at_call 224; refine HP.out.mono ?_; rintro e w' ⟨rfl, q, rfl⟩)
      | (go_at_call 226; refine (HWr.out _).mono ?_; rintro e w' ⟨rfl, rfl⟩)
      | (go_at_call 225; refine (HWe.out _).mono ?_; rintro e w' ⟨rfl, rfl⟩))
    go_loopw [1, 9, 10] (fun f o e wr => ∃ j : Nat, x < j ∧ j ≤ y ∧ f = .int .i64 (j : Nat) ∧ o = .complex .f64 (XF.fin (loB (seg bs x j))).f (XF.fin (hiB (seg bs x j))).f ∧ e = .int .i64 (exB (seg bs x j)) ∧ ∃ q, wr = w.drewN q) (fun f _ _ _ => y - (intOf f).toNat)
    case atStart => exact ⟨x + m, by omega, by omega, by go_num, by rw [HS.out.1, HS.out.2.1], by rw [HS.out.2.2], _, rfl⟩
    case round =>
      clear HP HWe HWr HS hm1 hm2 hm3
      obtain ⟨j, hj1, hj2, rfl, rfl, rfl, q0, rfl⟩ := hrel
      by_cases hjl : j < y
      · have HP := Lib.hid (pieceS_call p bs j y (w.drewN q0) (by exact H.out) hj2 hA2 hb)
        have hS := seg_app bs x j (j + min 64 (y - j)) (by omega) (by omega) (by omega)
        have hL := seg_len bs j (j + min 64 (y - j)) (by omega)
        have l1 := seg_len bs x j (by omega)
        have n1 := seg_ne bs x j hj1 (by omega)
        have n2 := seg_ne bs j (j + min 64 (y - j)) (by omega) (by omega)
        have HEx := Lib.hid (show exB (seg bs x (j + min 64 (y - j))) = exB (seg bs x j) + exB (seg bs j (j + min 64 (y - j))) by rw [hS, exB_app])
        have HLo := Lib.hid (show loB (seg bs x (j + min 64 (y - j))) = min (loB (seg bs x j)) (exB (seg bs x j) + loB (seg bs j (j + min 64 (y - j)))) by rw [hS, loB_app _ _ n1 n2])
        have HHi := Lib.hid (show hiB (seg bs x (j + min 64 (y - j))) = max (hiB (seg bs x j)) (exB (seg bs x j) + hiB (seg bs j (j + min 64 (y - j)))) by rw [hS, hiB_app _ _ n1 n2])
        have b1 := exB_bd (seg bs x j)
        have b2 := exB_bd (seg bs j (j + min 64 (y - j)))
        have b3 := loB_bd _ n1
        have b4 := hiB_bd _ n1
        have b5 := loB_bd _ n2
        have b6 := hiB_bd _ n2
        rw [l1] at b1 b3 b4
        rw [hL] at b2 b5 b6
        have HWe := Lib.hid (fun W => excW_call (seg bs j (j + min 64 (y - j))) (min 64 (y - j)) (by omega) (by omega) W)
        have HWr := Lib.hid (fun W => reX_call (seg bs j (j + min 64 (y - j))) (min 64 (y - j)) (by omega) (by omega) (by omega) W)
        have HWw := Lib.hid (fun W => wider_call (XF.fin (loB (seg bs x j))) (XF.fin (hiB (seg bs x j))) (XF.fin (loB (seg bs j (j + min 64 (y - j))))) (XF.fin (hiB (seg bs j (j + min 64 (y - j))))) (exB (seg bs x j)) W (fin_lt (B := 1073741824) (by omega) (by decide)) (fin_lt (B := 1073741824) (by omega) (by decide)) (fin_lt (B := 1073741824) (by omega) (by decide)) (fin_lt (B := 1073741824) (by omega) (by decide)) (by omega))
        obtain ⟨m, hm⟩ : ∃ m, m = min 64 (y - j) := ⟨_, rfl⟩
        have hm1 : 1 ≤ m ∧ m ≤ 64 ∧ j + m ≤ y := by omega
        obtain ⟨hm1, hm2, hm3⟩ := hm1
        simp only [← hm] at HP HWe HWr HWw HEx HLo HHi b2 b5 b6
        clear hS hL hm l1 n1 n2 b3 b4 b5 b6
        generalize valB (seg bs j (j + m)) = v at *
        generalize exB (seg bs j (j + m)) = ev at *
        generalize exB (seg bs x j) = e0 at *
        generalize loB (seg bs j (j + m)) = lv at *
        generalize loB (seg bs x j) = l0 at *
        generalize hiB (seg bs j (j + m)) = uv at *
        generalize hiB (seg bs x j) = u0 at *
        go_wp2_with (first
          | (go_at_call 224; refine HP.out.mono ?_; rintro e w' ⟨rfl, q, rfl⟩)
          | (go_at_call 226; refine (HWr.out _).mono ?_; rintro e w' ⟨rfl, rfl⟩)
          | (go_at_call 227; refine (HWw.out _).mono ?_; rintro e w' ⟨rfl, rfl⟩)
          | (go_at_call 225; refine (HWe.out _).mono ?_; rintro e w' ⟨rfl, rfl⟩))
        go_roundw
        case rel => exact ⟨j + m, by omega, by omega, by go_num, by rw [HLo.out, HHi.out]; simp only [XF.sh, XF.mn, XF.mx, Int.add_comm], by rw [HEx.out], _, rfl⟩
        case measure => simp [intOf]; omega
      · obtain rfl : j = y := by omega
        go_wp2
        go_ret
        rw [hR.out.1, hR.out.2]
        exact ⟨rfl, _, rfl⟩
end Go.Proofs.Lw
