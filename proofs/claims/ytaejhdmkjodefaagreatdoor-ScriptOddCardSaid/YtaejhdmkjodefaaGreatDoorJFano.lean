/- Plain laws: a list of bits as words; what Put does to the words is what appending does to the bits. fano's small functions. fano.right, fano.build, fano.Make. fano.Make. -/
import Derived.Test.YtaejhdmkjodefaaGreatDoorJBits
import Derived.Test.YtaejhdmkjodefaaGreatDoorJRank
set_option linter.unusedSimpArgs false
set_option linter.unusedVariables false
namespace Go.Proofs.Lw
open Go Go.RowKit

/-- the number of some bits, the lowest first -/
def valB : List Bool → Nat
  | [] => 0
  | b :: r => b.toNat + 2 * valB r
theorem valB_lt (l : List Bool) : valB l < 2 ^ l.length := by
  induction l with
  | nil => simp [valB]
  | cons b r ih => simp only [valB, List.length_cons, Nat.pow_succ]; have := Bool.toNat_le b; omega
theorem valB_app (a b : List Bool) : valB (a ++ b) = valB a + 2 ^ a.length * valB b := by
  induction a with
  | nil => simp [valB]
  | cons x r ih => simp only [List.cons_append, valB, ih, List.length_cons, Nat.pow_succ]; rw [Nat.mul_add]; rw [Nat.mul_comm (2 ^ r.length) 2, Nat.mul_assoc]; omega
theorem valB_testBit (l : List Bool) (i : Nat) : (valB l).testBit i = l.getD i false := by
  induction l generalizing i with
  | nil => simp [valB]
  | cons b r ih =>
    cases i with
    | zero => simp only [valB]; cases b <;> simp [Nat.testBit_zero] <;> omega
    | succ i =>
      rw [Nat.testBit_succ]
      have : (valB (b :: r)) / 2 = valB r := by simp only [valB]; have := Bool.toNat_le b; omega
      rw [this, ih]; simp

/-- the first k bits of a number -/
def bitsOf (x : Nat) : Nat → List Bool
  | 0 => []
  | k + 1 => (x % 2 == 1) :: bitsOf (x / 2) k
theorem bitsOf_len (x k : Nat) : (bitsOf x k).length = k := by
  induction k generalizing x with
  | zero => rfl
  | succ k ih => simp [bitsOf, ih]
theorem valB_bitsOf (x k : Nat) : valB (bitsOf x k) = x % 2 ^ k := by
  induction k generalizing x with
  | zero => simp [bitsOf, valB, Nat.mod_one]
  | succ k ih =>
    simp only [bitsOf, valB, ih]
    have h1 : (x % 2 == 1).toNat = x % 2 := by
      rcases Nat.mod_two_eq_zero_or_one x with h | h <;> simp [h]
    rw [h1, Nat.pow_succ, Nat.mul_comm (2 ^ k) 2, Nat.mod_mul]
theorem bitsOf_one (b : Bool) : bitsOf b.toNat 1 = [b] := by cases b <;> rfl
theorem bitsOf_zero (k : Nat) : bitsOf 0 k = List.replicate k false := by
  induction k with
  | zero => rfl
  | succ k ih => simp [bitsOf, ih, List.replicate_succ]

/-- a list of bits as words -/
def wordsOf (bs : List Bool) : List Nat := (List.range ((bs.length + 63) / 64)).map fun i => valB ((bs.drop (64 * i)).take 64)
theorem wordsOf_len (bs : List Bool) : (wordsOf bs).length = (bs.length + 63) / 64 := by simp [wordsOf]
theorem wordsOf_get (bs : List Bool) (i : Nat) (h : i < (bs.length + 63) / 64) : (wordsOf bs)[i]? = some (valB ((bs.drop (64 * i)).take 64)) := by
  simp [wordsOf, h]
theorem wordsOf_lt (bs : List Bool) : ∀ x ∈ wordsOf bs, x < W64 := by
  intro x hx
  obtain ⟨i, _, rfl⟩ := List.mem_map.1 hx
  have h1 := valB_lt ((bs.drop (64 * i)).take 64)
  have h2 : ((bs.drop (64 * i)).take 64).length ≤ 64 := List.length_take_le _ _
  exact Nat.lt_of_lt_of_le h1 (Nat.pow_le_pow_right (by omega) h2)
theorem wordsOf_nil : wordsOf [] = [] := rfl

theorem wordsOf_app (a b : List Bool) (h : a.length % 64 = 0) : wordsOf (a ++ b) = wordsOf a ++ wordsOf b := by
  apply List.ext_getElem?
  intro i
  by_cases hi : i < a.length / 64
  · rw [List.getElem?_append_left (by rw [wordsOf_len]; omega), wordsOf_get _ _ (by simp; omega), wordsOf_get _ _ (by omega)]
    congr 2
    rw [List.drop_append_of_le_length (by omega), List.take_append_of_le_length (by simp; omega)]
  · rw [List.getElem?_append_right (by rw [wordsOf_len]; omega), wordsOf_len]
    have e : (a.length + 63) / 64 = a.length / 64 := by omega
    rw [e]
    by_cases h2 : i < ((a ++ b).length + 63) / 64
    · rw [wordsOf_get _ _ h2, wordsOf_get _ _ (by simp at h2; omega)]
      congr 2
      rw [List.drop_append, List.drop_eq_nil_of_le (by omega), List.nil_append]
      congr 2
      omega
    · rw [List.getElem?_eq_none (by rw [wordsOf_len]; omega), List.getElem?_eq_none (by rw [wordsOf_len]; simp at h2; omega)]
theorem wordsOf_one (b : List Bool) (h1 : 1 ≤ b.length) (h2 : b.length ≤ 64) : wordsOf b = [valB b] := by
  unfold wordsOf
  rw [show (b.length + 63) / 64 = 1 by omega]
  simp [List.take_of_length_le h2]

theorem or_shift (y x p : Nat) (hy : y < 2 ^ p) : y ||| (x * 2 ^ p) = y + 2 ^ p * x := by
  rw [Nat.mul_comm x, Nat.or_comm, ← Nat.two_pow_add_eq_or_of_lt hy]; omega
theorem mod_shift (x p : Nat) (hp : p ≤ 64) : (x * 2 ^ p) % W64 = (x % 2 ^ (64 - p)) * 2 ^ p := by
  have : W64 = 2 ^ (64 - p) * 2 ^ p := by rw [← Nat.pow_add, show 64 - p + p = 64 by omega]
  rw [this, Nat.mul_mod_mul_right]

theorem put_bits (bs : List Bool) (x k : Nat) (h1 : 1 ≤ k) (h2 : k ≤ 64) (hx : x < 2 ^ k) : putWs (wordsOf bs) bs.length x k = wordsOf (bs ++ bitsOf x k) := by
  have hk := bitsOf_len x k
  have hv := valB_bitsOf x k
  rw [Nat.mod_eq_of_lt hx] at hv
  generalize bitsOf x k = c at *
  by_cases hat : bs.length % 64 = 0
  · rw [putWs, if_pos hat, wordsOf_app _ _ hat, wordsOf_one c (by omega) (by omega), hv]
  · obtain ⟨q, hq⟩ : ∃ q, q = bs.length / 64 := ⟨_, rfl⟩
    have hb : bs = bs.take (64 * q) ++ bs.drop (64 * q) := (List.take_append_drop _ _).symm
    have l1 : (bs.take (64 * q)).length = 64 * q := by rw [List.length_take]; omega
    have l2 : (bs.drop (64 * q)).length = bs.length % 64 := by rw [List.length_drop]; omega
    generalize ha1 : bs.take (64 * q) = a1 at *
    generalize ha2 : bs.drop (64 * q) = a2 at *
    have hm : a1.length % 64 = 0 := by omega
    have hw : wordsOf bs = wordsOf a1 ++ [valB a2] := by rw [hb, wordsOf_app _ _ hm, wordsOf_one a2 (by omega) (by omega)]
    have ha2lt := valB_lt a2
    have hlast : (wordsOf bs).getD ((wordsOf bs).length - 1) 0 = valB a2 := by rw [hw]; simp
    have hdl : (wordsOf bs).dropLast = wordsOf a1 := by rw [hw]; simp
    have hR : wordsOf (bs ++ c) = wordsOf a1 ++ wordsOf (a2 ++ c) := by rw [hb, List.append_assoc, wordsOf_app _ _ hm]
    rw [hR]
    unfold putWs
    rw [if_neg hat]
    simp only [hlast, hdl]
    rw [mod_shift x _ (by omega), or_shift _ _ _ (by rw [← l2]; exact ha2lt)]
    by_cases hf : bs.length % 64 + k ≤ 64
    · rw [if_pos hf, wordsOf_one (a2 ++ c) (by simp; omega) (by simp; omega), valB_app, hv, l2]
      congr 2
      rw [Nat.mod_eq_of_lt (Nat.lt_of_lt_of_le hx (Nat.pow_le_pow_right (by omega) (by omega)))]
    · rw [if_neg hf]
      have hc : c = c.take (64 - bs.length % 64) ++ c.drop (64 - bs.length % 64) := (List.take_append_drop _ _).symm
      have lc1 : (c.take (64 - bs.length % 64)).length = 64 - bs.length % 64 := by rw [List.length_take]; omega
      have lc2 : (c.drop (64 - bs.length % 64)).length = k - (64 - bs.length % 64) := by rw [List.length_drop]; omega
      generalize c.take (64 - bs.length % 64) = c1 at *
      generalize c.drop (64 - bs.length % 64) = c2 at *
      subst hc
      rw [valB_app, lc1] at hv
      have hc1 := valB_lt c1
      rw [lc1] at hc1
      have e1 : x % 2 ^ (64 - bs.length % 64) = valB c1 := by rw [← hv, Nat.add_mul_mod_self_left, Nat.mod_eq_of_lt hc1]
      have e2 : x / 2 ^ (64 - bs.length % 64) = valB c2 := by rw [← hv, Nat.add_mul_div_left _ _ (Nat.pow_pos (by omega)), Nat.div_eq_of_lt hc1, Nat.zero_add]
      rw [e1, e2, ← List.append_assoc, wordsOf_app (a2 ++ c1) c2 (by simp; omega), wordsOf_one (a2 ++ c1) (by simp; omega) (by simp; omega), wordsOf_one c2 (by omega) (by omega), valB_app, l2, List.append_assoc]

/-- a builder with these bits -/
def BldB (w : World) (base g : Nat) (v : Value) (bs : List Bool) : Prop := IsBld w base g v (wordsOf bs) bs.length
/-- what a writer leaves: these bits are in -/
def Wrote (w w' : World) (base g : Nat) (v : Value) (bs : List Bool) : Prop :=
  ∃ v', BldB w' base g v' bs ∧ Off2 w w' g v.ownBlock ∧ (v'.ownBlock = v.ownBlock ∨ ∃ j, v'.ownBlock = some j ∧ w.heap.size ≤ j)
theorem putB_call (x k : Nat) (base g : Nat) (v : Value) (bs : List Bool) (w : World) (h : BldB w base g v bs) (hbase : base ≤ w.heap.size) (hk1 : 1 ≤ k) (hk2 : k ≤ 64) (hx : x < 2 ^ k) (hn : bs.length ≤ 1073741824) :
    Calls Tryz.prog 88 #[.pointer (some ⟨g, 0, none⟩), .int .u64 x, .int .i64 k] w fun e w' => e = .returned (.int .i64 0) ∧ Wrote w w' base g v (bs ++ bitsOf x k) :=
  (put_call x k bs.length base g v (wordsOf bs) w h hbase hk1 hk2 hx hn).mono fun e w' ⟨he, v', h1, h2, h3⟩ => ⟨he, v', by
    unfold BldB; rw [← put_bits bs x k hk1 hk2 hx, List.length_append, bitsOf_len]; exact h1, h2, h3⟩
theorem bitB_call (one : Bool) (base g : Nat) (v : Value) (bs : List Bool) (w : World) (h : BldB w base g v bs) (hbase : base ≤ w.heap.size) (hn : bs.length ≤ 1073741824) :
    Calls Tryz.prog 80 #[.pointer (some ⟨g, 0, none⟩), .bool one] w fun e w' => e = .returned (.int .i64 0) ∧ Wrote w w' base g v (bs ++ [one]) :=
  (bit_call one bs.length base g v (wordsOf bs) w h hbase hn).mono fun e w' ⟨he, v', h1, h2, h3⟩ => ⟨he, v', by
    have hx : one.toNat < 2 ^ 1 := by cases one <;> decide
    unfold BldB; rw [← bitsOf_one, ← put_bits bs _ 1 (by omega) (by omega) hx, List.length_append, bitsOf_len]; exact h1, h2, h3⟩
/-- a row with these bits -/
def RowB (w : World) (p : Addr) (bs : List Bool) : Prop := IsRow w p (wordsOf bs) bs.length
theorem RowB.ext {w w' : World} {p : Addr} {bs : List Bool} (h : RowB w p bs) (e : Ext w w') : RowB w' p bs := IsRow.ext h e
end Go.Proofs.Lw
namespace Go.Proofs.Lw
open Go Go.RowKit

theorem Wrote.trans {w w1 w2 : World} {base g : Nat} {v : Value} {bs cs : List Bool} {v1 : Value} (h1 : Off2 w w1 g v.ownBlock) (h2 : v1.ownBlock = v.ownBlock ∨ ∃ j, v1.ownBlock = some j ∧ w.heap.size ≤ j)
    (h : Wrote w1 w2 base g v1 cs) : Wrote w w2 base g v cs := by
  obtain ⟨v2, hb, ho, hn⟩ := h
  refine ⟨v2, hb, ⟨ho.os.trans h1.os, ho.tape.trans h1.tape, ho.output.trans h1.output, Nat.le_trans h1.size ho.size, fun i hi hg hne => ?_⟩, ?_⟩
  · refine (ho.block i (Nat.lt_of_lt_of_le hi h1.size) hg ?_).trans (h1.block i hi hg hne)
    rcases h2 with e | ⟨j, e, hj⟩
    · rw [e]; exact hne
    · rw [e]; intro e'; cases e'; omega
  · rcases hn with e | ⟨j, e, hj⟩
    · rw [e]; exact h2
    · exact .inr ⟨j, e, Nat.le_trans h1.size hj⟩
theorem Wrote.start {w : World} {base g : Nat} {v : Value} {bs : List Bool} (h : BldB w base g v bs) : Wrote w w base g v bs := ⟨v, h, ⟨rfl, rfl, rfl, Nat.le_refl _, fun _ _ _ _ => rfl⟩, .inl rfl⟩
theorem Wrote.step {w w1 w2 : World} {base g : Nat} {v : Value} {bs cs : List Bool} (h : Wrote w w1 base g v bs) (k : ∀ v1, BldB w1 base g v1 bs → Wrote w1 w2 base g v1 cs) : Wrote w w2 base g v cs := by
  obtain ⟨v1, hb, ho, hn⟩ := h
  exact Wrote.trans (bs := bs) ho hn (k v1 hb)
theorem Wrote.drewN {w w1 : World} {base g : Nat} {v : Value} {bs : List Bool} (h : Wrote w w1 base g v bs) (n : Nat) : Wrote w (w1.drewN n) base g v bs := by
  obtain ⟨v1, hb, ho, hn⟩ := h
  exact ⟨v1, ⟨hb.blk, hb.own, hb.ge, hb.lt, hb.len⟩, ⟨ho.os, ho.tape, ho.output, ho.size, ho.block⟩, hn⟩
theorem Wrote.base_le {w w1 : World} {base g : Nat} {v : Value} {bs : List Bool} (h : Wrote w w1 base g v bs) (hb : base ≤ w.heap.size) : base ≤ w1.heap.size := by
  obtain ⟨_, _, ho, _⟩ := h; exact Nat.le_trans hb ho.size
/-- behind some writing, a callee's writing -/
theorem Calls.wrote {P : Program} {f : FuncId} {args : Array Value} {w w1 : World} {base g : Nat} {v : Value} {bs cs : List Bool} {r : Value} (h : Wrote w w1 base g v bs)
    (c : ∀ v1, BldB w1 base g v1 bs → Calls P f args w1 fun e w' => e = .returned r ∧ Wrote w1 w' base g v1 cs) : Calls P f args w1 fun e w' => e = .returned r ∧ Wrote w w' base g v cs := by
  obtain ⟨v1, hb, ho, hn⟩ := h
  exact (c v1 hb).mono fun e w' ⟨he, hw⟩ => ⟨he, Wrote.trans (bs := bs) ho hn hw⟩

theorem putB_at (x k : Nat) (xi ki : Int) (hxi : xi = x) (hki : ki = k) (base g : Nat) (v : Value) (bs : List Bool) (w : World) (h : BldB w base g v bs) (hbase : base ≤ w.heap.size) (hk1 : 1 ≤ k) (hk2 : k ≤ 64) (hx : x < 2 ^ k) (hn : bs.length ≤ 1073741824) :
    Calls Tryz.prog 88 #[.pointer (some ⟨g, 0, none⟩), .int .u64 xi, .int .i64 ki] w fun e w' => e = .returned (.int .i64 0) ∧ Wrote w w' base g v (bs ++ bitsOf x k) := by
  subst hxi hki
  exact putB_call x k base g v bs w h hbase hk1 hk2 hx hn
theorem number_call (x k : Nat) (base g : Nat) (v : Value) (bs : List Bool) (w : World) (h : BldB w base g v bs) (hbase : base ≤ w.heap.size) (hk2 : k ≤ 64) (hx : x ≤ 9223372036854775807) (hn : bs.length ≤ 1073741824) :
    Calls Tryz.prog 78 #[.pointer (some ⟨g, 0, none⟩), .int .i64 x, .int .i64 k] w fun e w' => e = .returned (.tuple #[]) ∧ Wrote w w' base g v (bs ++ bitsOf (x % 2 ^ k) k) := by
  by_cases hk : 0 < k
  · have HS := Lib.hid (Wrote.start h)
    clear h
    have hf : fld x 0 k = x % 2 ^ k := by unfold fld; rw [if_neg (by omega), if_neg (by omega)]; simp
    have hlt : x % 2 ^ k < 2 ^ k := Nat.mod_lt _ (Nat.pow_pos (by omega))
    have HF : ∀ W : World, Calls Tryz.prog 125 #[.int .u64 x, .int .i64 0, .int .i64 k] W fun e w' => e = .returned (.int .u64 (x % 2 ^ k : Nat)) ∧ ∃ q, w' = W.drewN q := fun W => hf ▸ field_nat x 0 k (by unfold W64; omega) W
    have HF' := Lib.hid HF
    clear HF hf
    have hxw : IntKind.u64.wrap (x : Int) = (x : Int) := wrap64n x (by omega)
    generalize x % 2 ^ k = y at *
    go_enter Tryz.func78, Tryz.ntmps78
    go_wp2_with (first
      | (go_at_call 125; refine (HF'.out _).mono ?_; rintro e w' ⟨rfl, q, rfl⟩)
      | (go_at_call 88; refine (Calls.wrote (by exact HS.out.drewN _) (fun v1 hb => putB_call y k base g v1 bs _ hb (by exact hbase) (by omega) hk2 hlt hn)).mono ?_; rintro e w' ⟨rfl, hw⟩))
    go_end0
    exact ⟨rfl, hw⟩
  · obtain rfl : k = 0 := by omega
    go_enter Tryz.func78, Tryz.ntmps78
    go_wp2
    go_end0
    exact ⟨rfl, by simpa [bitsOf] using Wrote.start h⟩

theorem noughts_call (k : Nat) (ki : Int) (hki : ki = k) (base g : Nat) (v : Value) (bs : List Bool) (w : World) (h : BldB w base g v bs) (hbase : base ≤ w.heap.size) (hn : bs.length + k ≤ 1073741824) :
    Calls Tryz.prog 79 #[.pointer (some ⟨g, 0, none⟩), .int .i64 ki] w fun e w' => e = .returned (.tuple #[]) ∧ Wrote w w' base g v (bs ++ List.replicate k false) := by
  subst hki
  have HS := Lib.hid (Wrote.start h)
  clear h
  go_enter Tryz.func79, Tryz.ntmps79
  go_wp2_with fail
  go_loopw [1] (fun r wr => ∃ m : Nat, m ≤ k ∧ r = .int .i64 m ∧ Wrote w wr base g v (bs ++ List.replicate (k - m) false)) (fun r _ => (intOf r).toNat)
  case atStart => exact ⟨k, Nat.le_refl _, rfl, by simpa using HS.out⟩
  case round =>
    obtain ⟨m, hm, rfl, hw⟩ := hrel
    have HW := Lib.hid hw
    clear hw
    have hb := HW.out.base_le hbase
    by_cases h0 : 0 < m
    · have hlen : (bs ++ List.replicate (k - m) false).length ≤ 1073741824 := by simp; omega
      have hrep : ∀ j, j ≤ m → (bs ++ List.replicate (k - m) false) ++ bitsOf 0 j = bs ++ List.replicate (k - (m - j)) false := fun j hj => by
        rw [bitsOf_zero, List.append_assoc, List.replicate_append_replicate]; congr 2; omega
      have HR := Lib.hid hrep
      clear hrep
      obtain ⟨j, hj⟩ : ∃ j, j = min m 64 := ⟨_, rfl⟩
      have hj1 : min (m : Int) 64 = (j : Int) := by omega
      have hjm : j ≤ m ∧ 1 ≤ j ∧ j ≤ 64 := by omega
      have HP : Hid (0 < 2 ^ j) := Lib.hid (Nat.pow_pos (by omega))
      clear hj
      go_wp2_with (go_at_call 88; refine (Calls.wrote HW.out (fun v1 hb1 => putB_at 0 j _ _ rfl (by omega) base g v1 _ _ hb1 hb (by omega) (by omega) HP.out hlen)).mono ?_; rintro e w' ⟨rfl, hw2⟩)
      refine ⟨⟨m - j, by omega, by congr 1; omega, ?_⟩, by simp [intOf]; omega⟩
      rw [← HR.out j (by omega)]; exact hw2
    · go_wp2
      go_end0
      obtain rfl : m = 0 := by omega
      exact ⟨rfl, HW.out⟩

theorem bitLen_pos (x : Nat) (h : 1 ≤ x) : 1 ≤ Lib.bitLen x := by
  unfold Lib.bitLen Lib.bitLenAux; rw [if_neg (by omega)]; omega
theorem bitLen_le {x k : Nat} (h : x < 2 ^ k) : Lib.bitLen x ≤ k := bitLenAux_le 64 x k h
/-- how many bits are low ones -/
def widthN (n bound : Nat) : Nat := if n = 0 ∨ bound < 2 * n then 0 else Lib.bitLen (bound / n) - 1
theorem width_call (n bound : Nat) (hn : n ≤ 1073741824) (hb : bound ≤ 1099511627776) (w : World) :
    Calls Tryz.prog 77 #[.int .i64 n, .int .i64 bound] w fun e w' => e = .returned (.int .i64 (widthN n bound : Nat)) ∧ w = w' := by
  by_cases h0 : n = 0
  · subst h0
    go_enter Tryz.func77, Tryz.ntmps77
    go_wp2
    go_ret
    exact ⟨ret_int (by rw [widthN, if_pos (.inl rfl)]; rfl), rfl⟩
  · have hq : ((n : Int) == 0) = false := by rw [beq_eq_false_iff_ne]; omega
    by_cases h1 : bound < 2 * n
    · have hW : Hid (widthN n bound = 0) := Lib.hid (by rw [widthN, if_pos (.inr h1)])
      go_enter Tryz.func77, Tryz.ntmps77
      go_wp2
      go_ret
      exact ⟨ret_int (by rw [hW.out]; rfl), rfl⟩
    · have hW : Hid (widthN n bound = Lib.bitLen (bound / n) - 1) := Lib.hid (by rw [widthN, if_neg (by omega)])
      have hd : Hid ((bound : Int) / (n : Int) = ((bound / n : Nat) : Int)) := Lib.hid (by simp)
      have hq1 : 1 ≤ bound / n := (Nat.one_le_div_iff (by omega)).2 (by omega)
      have hq2 : bound / n ≤ bound := Nat.div_le_self _ _
      have hp := bitLen_pos (bound / n) hq1
      have hl := bitLen_le (x := bound / n) (k := 64) (by omega)
      have hw : IntKind.u64.wrap (((bound / n : Nat) : Int)) = ((bound / n : Nat) : Int) := wrap64n _ (by omega)
      have hdi := hd.out
      generalize bound / n = y at *
      go_enter Tryz.func77, Tryz.ntmps77
      go_wp2_with (go_at_call 124; refine (need_call y (by unfold W64; omega) _).mono ?_; rintro e w' ⟨rfl, rfl⟩)
      go_ret
      exact ⟨ret_int (by rw [hW.out]; omega), rfl⟩

/-- how many bits the high row has -/
def highN (n bound w : Nat) : Nat := n + (bound - 1) / 2 ^ w + 1
theorem high_call (n bound k : Nat) (hn : n ≤ 1073741824) (hb : bound ≤ 1099511627776) (h1 : 1 ≤ bound) (hk : k ≤ 63) (w : World) :
    Calls Tryz.prog 81 #[.int .i64 n, .int .i64 bound, .int .i64 k] w fun e w' => e = .returned (.int .i64 (highN n bound k : Nat)) ∧ w = w' := by
  have hq : Hid (((bound : Int) - 1) / 2 ^ k = (((bound - 1) / 2 ^ k : Nat) : Int)) := Lib.hid (by
    have : (bound : Int) - 1 = ((bound - 1 : Nat) : Int) := by omega
    rw [this]; simp)
  have hle : (bound - 1) / 2 ^ k ≤ bound - 1 := Nat.div_le_self _ _
  have hqi := hq.out
  have hH : Hid (highN n bound k = n + (bound - 1) / 2 ^ k + 1) := Lib.hid rfl
  generalize (bound - 1) / 2 ^ k = y at *
  go_enter Tryz.func81, Tryz.ntmps81
  go_wp2
  go_ret
  exact ⟨ret_int (by rw [hH.out]; push_cast; rfl), rfl⟩
end Go.Proofs.Lw
namespace Go.Proofs.Lw
open Go Go.RowKit

/-- a slice value that reads as these numbers -/
def IsInts (w : World) (v : Value) (l : List Nat) : Prop :=
  ∃ A c, v = .slice A l.length c ∧ l.length ≤ c ∧ c ≤ maxLen ∧ (0 < l.length → ∃ g cs, A = some ⟨g, 0, none⟩ ∧ Blk w g 3 cs ∧ ∀ i, i < l.length → cs[i]? = some (.int .i64 (l.getD i 0 : Nat)))
theorem IsInts.ext {w w' : World} {v : Value} {l : List Nat} (h : IsInts w v l) (e : Ext w w') : IsInts w' v l := by
  obtain ⟨A, c, h1, h2, h3, h4⟩ := h
  exact ⟨A, c, h1, h2, h3, fun h0 => by obtain ⟨g, cs, a, b, d⟩ := h4 h0; exact ⟨g, cs, a, b.ext e, d⟩⟩
theorem IsInts.cell {w : World} {A : Option Addr} {n c : Nat} {l : List Nat} (h : IsInts w (.slice A n c) l) {k : Nat} (hk : k < l.length) :
    ∃ g, A = some ⟨g, 0, none⟩ ∧ w.cell? ⟨g, k, none⟩ = some (.int .i64 (l.getD k 0 : Nat)) := by
  obtain ⟨A', c', h1, _, _, h4⟩ := h
  obtain ⟨g, cs, rfl, hb, hc⟩ := h4 (by omega)
  injection h1 with e1 e2 e3
  exact ⟨g, e1, (hb.cell k).trans (hc k hk)⟩

theorem right_call (v : Value) (l : List Nat) (bound : Nat) (w : World) (h : IsInts w v l) (hb1 : 1 ≤ bound) (hb2 : bound ≤ 1099511627776) (hl : l.length ≤ 16777215)
    (hs : ∀ i, i + 1 < l.length → l.getD i 0 ≤ l.getD (i + 1) 0) (hlt : ∀ i, i < l.length → l.getD i 0 < bound) :
    Calls Tryz.prog 76 #[v, .int .i64 bound] w fun e w' => e = .returned (.bool true) ∧ w = w' := by
  have h' := h
  obtain ⟨A, c, rfl, hc1, hc2, _⟩ := h'
  have H := Lib.hid h
  have HS := Lib.hid hs
  have HLT := Lib.hid hlt
  clear h hs hlt
  go_enter Tryz.func76, Tryz.ntmps76
  go_wp2
  go_loop [5, 21] (fun last i => ∃ k : Nat, k ≤ l.length ∧ i = .int .i64 k ∧ last = .int .i64 ((if k = 0 then 0 else l.getD (k - 1) 0 : Nat))) (fun _ i => l.length - (intOf i).toNat)
  case atStart => exact ⟨0, by omega, rfl, rfl⟩
  case round =>
    obtain ⟨k, hk, rfl, rfl⟩ := hrel
    by_cases hlt : k < l.length
    · obtain ⟨g, rfl, hcell⟩ := H.out.cell hlt
      have h1 := HLT.out k hlt
      have h2 : (if k = 0 then 0 else l.getD (k - 1) 0) ≤ l.getD k 0 := by
        split
        · omega
        · have := HS.out (k - 1) (by omega); rwa [show k - 1 + 1 = k by omega] at this
      have HN : Hid ((if k + 1 = 0 then 0 else l.getD (k + 1 - 1) 0) = l.getD k 0) := Lib.hid (by rw [if_neg (by omega)]; simp)
      generalize (if k = 0 then 0 else l.getD (k - 1) 0) = a at *
      generalize l.getD k 0 = b at *
      go_wp2
      go_round
      case rel => exact ⟨k + 1, by omega, by go_num, by rw [HN.out]⟩
      case measure => simp [intOf]; omega
    · generalize (if k = 0 then 0 else l.getD (k - 1) 0) = a at *
      go_wp2
      go_ret
      exact ⟨rfl, rfl⟩

/-- a chooser behind a pointer, on a row -/
def IsChooser (w : World) (pc : Addr) (p : Addr) (bs : List Bool) : Prop :=
  ∃ base gc gd v1 v3, pc = ⟨gc, 0, none⟩ ∧ IsChs w base gc gd p (wordsOf bs) bs.length ((bs.length + 63) / 64) v1 v3 ∧ IsDir w gd p (wordsOf bs) bs.length ∧ RowB w p bs
theorem IsChs.ext {w w' : World} {base gc gd : Nat} {p : Addr} {ws : List Nat} {n i : Nat} {v1 v3 : Value} (h : IsChs w base gc gd p ws n i v1 v3) (e : Ext w w') : IsChs w' base gc gd p ws n i v1 v3 :=
  ⟨h.blk.ext e, own_ext h.own1 e, own_ext h.own3 e, h.apart, h.ge⟩
theorem IsChooser.ext {w w' : World} {pc p : Addr} {bs : List Bool} (h : IsChooser w pc p bs) (e : Ext w w') : IsChooser w' pc p bs := by
  obtain ⟨base, gc, gd, v1, v3, a, b, c, d⟩ := h
  exact ⟨base, gc, gd, v1, v3, a, b.ext e, c.ext e, d.ext e⟩
theorem chooser_call (p : Addr) (bs : List Bool) (w : World) (h : RowB w p bs) :
    Calls Tryz.prog 87 #[.pointer (some p)] w fun e w' => ∃ pc, e = .returned (.pointer (some pc)) ∧ IsChooser w' pc p bs ∧ Ext w w' :=
  (chooseNew_call p (wordsOf bs) bs.length w h).mono fun e w' ⟨base, gc, gd, v1, v3, he, h1, h2, h3⟩ => ⟨⟨gc, 0, none⟩, he, ⟨base, gc, gd, v1, v3, rfl, h1, h2, h.ext h3⟩, h3⟩
theorem rowlen_call (p : Addr) (bs : List Bool) (w : World) (h : RowB w p bs) :
    Calls Tryz.prog 126 #[.pointer (some p)] w fun e w' => e = .returned (.int .i64 (bs.length : Nat)) ∧ w = w' := rlen_call bs.length p (wordsOf bs) w h

/-- a sequence behind a pointer: its low bits, its high bits -/
def IsSeq (w : World) (p : Addr) (n bound : Nat) (lb hb : List Bool) : Prop :=
  ∃ gs pl ph pc, p = ⟨gs, 0, none⟩ ∧ Blk w gs 176 #[.int .i64 n, .int .i64 bound, .int .i64 (widthN n bound : Nat), .pointer (some pl), .pointer (some pc), .int .i64 (hb.length : Nat)] ∧ RowB w pl lb ∧ IsChooser w pc ph hb
theorem IsSeq.ext {w w' : World} {p : Addr} {n bound : Nat} {lb hb : List Bool} (h : IsSeq w p n bound lb hb) (e : Ext w w') : IsSeq w' p n bound lb hb := by
  obtain ⟨gs, pl, ph, pc, a, b, c, d⟩ := h
  exact ⟨gs, pl, ph, pc, a, b.ext e, c.ext e, d.ext e⟩

theorem build_call (n bound : Nat) (pl ph : Addr) (lb hb : List Bool) (w : World) (hn : n ≤ 1073741824) (hbd : bound ≤ 1099511627776) (h1 : RowB w pl lb) (h2 : RowB w ph hb) :
    Calls Tryz.prog 83 #[.int .i64 n, .int .i64 bound, .pointer (some pl), .pointer (some ph)] w fun e w' => ∃ p, e = .returned (.pointer (some p)) ∧ IsSeq w' p n bound lb hb ∧ Ext w w' := by
  have H1 := Lib.hid h1
  have H2 := Lib.hid h2
  clear h1 h2
  go_enter Tryz.func83, Tryz.ntmps83
  go_wp2_with (first
    | (go_at_call 77; refine (width_call n bound hn hbd _).mono ?_; rintro e w' ⟨rfl, rfl⟩)
    | (go_at_call 87; refine (chooser_call ph hb _ H2.out).mono ?_; rintro e w1 ⟨pc, rfl, hc, hx⟩)
    | (go_at_call 126; refine (rowlen_call ph hb _ (H2.out.ext hx)).mono ?_; rintro e w' ⟨rfl, rfl⟩))
  go_ret
  exact ⟨⟨w1.heap.size, 0, none⟩, rfl, ⟨_, pl, ph, pc, rfl, Blk.new _ _ _, (H1.out.ext hx).ext (Ext.alloc _ _), hc.ext (Ext.alloc _ _)⟩, hx.trans (Ext.alloc _ _)⟩

/-- the high bits: from a part on -/
def hiFrom (k : Nat) (part : Nat) : List Nat → List Bool
  | [] => []
  | x :: r => List.replicate (x / 2 ^ k - part) false ++ true :: hiFrom k (x / 2 ^ k) r
def loBits (k : Nat) (l : List Nat) : List Bool := l.flatMap fun x => bitsOf (x % 2 ^ k) k
/-- the part behind the first i numbers -/
def partAt (k : Nat) (l : List Nat) (i : Nat) : Nat := if i = 0 then 0 else l.getD (i - 1) 0 / 2 ^ k
theorem hiFrom_snoc (k part : Nat) (l : List Nat) (x : Nat) : hiFrom k part (l ++ [x]) = hiFrom k part l ++ (List.replicate (x / 2 ^ k - (if l = [] then part else l.getLastD 0 / 2 ^ k)) false ++ [true]) := by
  induction l generalizing part with
  | nil => simp [hiFrom]
  | cons y r ih =>
    simp only [List.cons_append, hiFrom, ih, List.append_assoc]
    congr 3
    cases r with
    | nil => simp
    | cons z t => simp
theorem hi_take (k : Nat) (l : List Nat) (i : Nat) (h : i < l.length) : hiFrom k 0 (l.take (i + 1)) = hiFrom k 0 (l.take i) ++ (List.replicate (l.getD i 0 / 2 ^ k - partAt k l i) false ++ [true]) := by
  rw [List.take_succ_eq_append_getElem h, hiFrom_snoc]
  have e1 : l[i] = l.getD i 0 := by rw [List.getD_eq_getElem?_getD, List.getElem?_eq_getElem h]; rfl
  have e2 : (if l.take i = [] then 0 else (l.take i).getLastD 0 / 2 ^ k) = partAt k l i := by
    unfold partAt
    by_cases h0 : i = 0
    · subst h0; simp
    · rw [if_neg h0, if_neg (by intro e; rcases List.take_eq_nil_iff.1 e with e | e; exact h0 e; rw [e] at h; simp at h)]
      have hm : min i l.length - 1 = i - 1 := by omega
      have hlt : i - 1 < i := by omega
      rw [List.getLastD_eq_getLast?, List.getLast?_eq_getElem?, List.length_take, hm, List.getElem?_take, if_pos hlt, List.getD_eq_getElem?_getD]
  rw [e1, e2]
theorem lo_take (k : Nat) (l : List Nat) (i : Nat) (h : i < l.length) : loBits k (l.take (i + 1)) = loBits k (l.take i) ++ bitsOf (l.getD i 0 % 2 ^ k) k := by
  rw [List.take_succ_eq_append_getElem h]
  have e1 : l[i] = l.getD i 0 := by rw [List.getD_eq_getElem?_getD, List.getElem?_eq_getElem h]; rfl
  simp [loBits, e1]
theorem lo_len (k : Nat) (l : List Nat) : (loBits k l).length = l.length * k := by
  induction l with
  | nil => simp [loBits]
  | cons x r ih => simp only [loBits, List.flatMap_cons, List.length_append, bitsOf_len, List.length_cons] at *; rw [ih, Nat.succ_mul]; omega
theorem hi_len (k : Nat) (l : List Nat) (hs : ∀ i, i + 1 < l.length → l.getD i 0 ≤ l.getD (i + 1) 0) (i : Nat) (h : i ≤ l.length) : (hiFrom k 0 (l.take i)).length = i + partAt k l i := by
  induction i with
  | zero => simp [hiFrom, partAt]
  | succ i ih =>
    rw [hi_take k l i (by omega)]
    have hp : partAt k l i ≤ l.getD i 0 / 2 ^ k := by
      unfold partAt
      split
      · exact Nat.zero_le _
      · exact Nat.div_le_div_right (by have := hs (i - 1) (by omega); rwa [show i - 1 + 1 = i by omega] at this)
    have h2 : partAt k l (i + 1) = l.getD i 0 / 2 ^ k := by unfold partAt; rw [if_neg (by omega)]; simp
    simp only [List.length_append, List.length_replicate, List.length_cons, List.length_nil]
    rw [ih (by omega), h2]
    generalize l.getD i 0 / 2 ^ k = q at *
    omega

theorem widthN_le (n bound : Nat) (h : bound ≤ 1099511627776) : widthN n bound ≤ 40 := by
  unfold widthN
  split
  · omega
  · have h1 : bound / n ≤ bound := Nat.div_le_self _ _
    have := bitLen_le (x := bound / n) (k := 41) (by omega)
    omega
/-- two builders keep out of each other's way -/
theorem BldB.keep {w w' : World} {base g g' : Nat} {v v' : Value} {bs cs : List Bool} (h : BldB w base g v bs) (h' : BldB w base g' v' cs) (ho : Off2 w w' g' v'.ownBlock) (hne : g ≠ g') (hap : ∀ k, v.ownBlock = some k → v'.ownBlock ≠ some k) : BldB w' base g v bs := by
  have n1 := own_ne h.own h'.blk (by decide)
  have n2 := own_ne h'.own h.blk (by decide)
  refine ⟨(ho.block g h.blk.lt hne (fun e => n2 e.symm)).trans h.blk, own_of_block h.own fun k hk => ho.block k (h.own.lt k hk).2 (fun e => n1 (e ▸ hk)) (fun e => hap k hk e.symm), h.ge, h.lt, h.len⟩
/-- the state of fano.Make's two builders -/
structure Two (w0 w : World) (base g g' : Nat) (bs cs : List Bool) : Prop where
  ex : ∃ v v', BldB w base g v bs ∧ BldB w base g' v' cs ∧ ∀ k, v.ownBlock = some k → v'.ownBlock ≠ some k
  below : Below base w0 w
  base : base ≤ w.heap.size
  ne : g ≠ g'
theorem Two.one {w0 w : World} {base g g' : Nat} {bs cs ds : List Bool} {P : Program} {f : FuncId} {args : Array Value} {r : Value} (h : Two w0 w base g g' bs cs)
    (c : ∀ v, BldB w base g v bs → Calls P f args w fun e w' => e = .returned r ∧ Wrote w w' base g v ds) : Calls P f args w fun e w' => e = .returned r ∧ Two w0 w' base g g' ds cs := by
  obtain ⟨v, v', h1, h2, hap⟩ := h.ex
  refine (c v h1).mono fun e w' ⟨he, v2, hb, ho, hn⟩ => ⟨he, ⟨v2, v', hb, BldB.keep h2 h1 ho (Ne.symm h.ne) (fun k hk hk' => hap k hk' hk), ?_⟩, Below.trans h.below (off2_below ho h1.ge (fun k e => (h1.own.lt k e).1) h.base), Nat.le_trans h.base ho.size, h.ne⟩
  intro k hk hk'
  rcases hn with e | ⟨j, e, hj⟩
  · exact hap k (e ▸ hk) hk'
  · have := (h2.own.lt k hk').2
    rw [hk] at e; cases e; omega
theorem Two.two {w0 w : World} {base g g' : Nat} {bs cs ds : List Bool} {P : Program} {f : FuncId} {args : Array Value} {r : Value} (h : Two w0 w base g g' bs cs)
    (c : ∀ v, BldB w base g' v cs → Calls P f args w fun e w' => e = .returned r ∧ Wrote w w' base g' v ds) : Calls P f args w fun e w' => e = .returned r ∧ Two w0 w' base g g' bs ds := by
  obtain ⟨v, v', h1, h2, hap⟩ := h.ex
  have h' : Two w0 w base g' g cs bs := ⟨⟨v', v, h2, h1, fun k hk hk' => hap k hk' hk⟩, h.below, h.base, Ne.symm h.ne⟩
  refine (Two.one h' c).mono fun e w' ⟨he, ht⟩ => ⟨he, ?_⟩
  obtain ⟨a, b, ha, hb, hc⟩ := ht.ex
  exact ⟨⟨b, a, hb, ha, fun k hk hk' => hc k hk' hk⟩, ht.below, ht.base, h.ne⟩
end Go.Proofs.Lw
namespace Go.Proofs.Lw
open Go Go.RowKit

theorem part_le (k : Nat) (l : List Nat) (hs : ∀ i, i + 1 < l.length → l.getD i 0 ≤ l.getD (i + 1) 0) (i : Nat) (h : i < l.length) : partAt k l i ≤ l.getD i 0 / 2 ^ k := by
  unfold partAt
  split
  · exact Nat.zero_le _
  · exact Nat.div_le_div_right (by have := hs (i - 1) (by omega); rwa [show i - 1 + 1 = i by omega] at this)
/-- the high row of a sequence -/
def hiBits (l : List Nat) (bound : Nat) : List Bool :=
  hiFrom (widthN l.length bound) 0 l ++ List.replicate (highN l.length bound (widthN l.length bound) - (hiFrom (widthN l.length bound) 0 l).length) false

theorem BldB.ext {w w' : World} {base g : Nat} {v : Value} {bs : List Bool} (h : BldB w base g v bs) (e : Ext w w') : BldB w' base g v bs := ⟨h.blk.ext e, own_ext h.own e, h.ge, h.lt, h.len⟩
theorem rowB_box (base g : Nat) (v : Value) (bs : List Bool) (w : World) (h : BldB w base g v bs) (hn : bs.length ≤ 1073741824) :
    Calls Tryz.prog 84 #[.pointer (some ⟨g, 0, none⟩)] w fun e w' => ∃ p, e = .returned (.pointer (some p)) ∧ RowB w' p bs ∧ Ext w w' :=
  row_box bs.length base g v (wordsOf bs) w h hn
theorem bld_new (w : World) : BldB (w.alloc (.cells #[.slice none 0 0, .int .i64 0] 160)) w.heap.size w.heap.size (.slice none 0 0) [] :=
  ⟨Blk.new _ _ _, World.ownsRow_nil _ _ _ _, Nat.le_refl _, fun _ h => (by cases h), rfl⟩
theorem two_start (w : World) : Two w ((w.alloc (.cells #[.slice none 0 0, .int .i64 0] 160)).alloc (.cells #[.slice none 0 0, .int .i64 0] 160)) w.heap.size w.heap.size (w.heap.size + 1) [] [] := by
  have h1 := bld_new w
  have hs : (w.alloc (.cells #[.slice none 0 0, .int .i64 0] 160)).heap.size = w.heap.size + 1 := Array.size_push _
  have h2 := bld_new (w.alloc (.cells #[.slice none 0 0, .int .i64 0] 160))
  rw [hs] at h2
  exact ⟨⟨_, _, ⟨h1.blk.ext (Ext.alloc _ _), World.ownsRow_nil _ _ _ _, h1.ge, h1.lt, h1.len⟩, ⟨h2.blk, World.ownsRow_nil _ _ _ _, Nat.le_succ _, h2.lt, h2.len⟩, fun k hk => (by cases hk)⟩,
    (Ext.alloc w _).trans (Ext.alloc _ _), Nat.le_trans (Ext.alloc w _).size (Ext.alloc _ _).size, by omega⟩
set_option maxHeartbeats 1000000 in
theorem make_call (v : Value) (l : List Nat) (bound : Nat) (w : World) (h : IsInts w v l) (hb1 : 1 ≤ bound) (hb2 : bound ≤ 1048576) (hl : l.length ≤ 1048576)
    (hs : ∀ i, i + 1 < l.length → l.getD i 0 ≤ l.getD (i + 1) 0) (hlt : ∀ i, i < l.length → l.getD i 0 < bound) :
    Calls Tryz.prog 39 #[v, .int .i64 bound] w fun e w' => ∃ p, e = .returned (.tuple #[.pointer (some p), .int .i64 0]) ∧ IsSeq w' p l.length bound (loBits (widthN l.length bound) l) (hiBits l bound) ∧ Ext w w' := by
  have hk := widthN_le l.length bound (by omega)
  have hrt := right_call v l bound
  obtain ⟨A, c, rfl, hc1, hc2, hc3⟩ := h
  have H : Hid (IsInts w (.slice A l.length c) l) := Lib.hid ⟨A, c, rfl, hc1, hc2, hc3⟩
  have HS := Lib.hid hs
  have HLT := Lib.hid hlt
  have HRT := Lib.hid hrt
  clear hs hlt hrt hc3
  have HK : Hid (hiBits l bound = hiFrom (widthN l.length bound) 0 l ++ List.replicate (highN l.length bound (widthN l.length bound) - (hiFrom (widthN l.length bound) 0 l).length) false) := Lib.hid rfl
  have HW : ∀ W, Calls Tryz.prog 77 #[.int .i64 (l.length : Nat), .int .i64 bound] W fun e w' => e = .returned (.int .i64 (widthN l.length bound : Nat)) ∧ W = w' := fun W => width_call l.length bound (by omega) (by omega) W
  have HWc := Lib.hid HW
  clear HW
  generalize widthN l.length bound = k at *
  have hpos : 0 < 2 ^ k := Nat.pow_pos (by omega)
  go_enter Tryz.func39, Tryz.ntmps39
  go_wp2_with (first
    | (go_at_call 76; refine (HRT.out _ H.out hb1 (by omega) (by omega) HS.out HLT.out).mono ?_; rintro e w' ⟨rfl, rfl⟩)
    | (go_at_call 77; refine (HWc.out _).mono ?_; rintro e w' ⟨rfl, rfl⟩))
  go_loopw [9, 22] (fun part i wr => ∃ j : Nat, j ≤ l.length ∧ part = .int .i64 (partAt k l j : Nat) ∧ i = .int .i64 (j : Nat) ∧ Two w wr w.heap.size w.heap.size (w.heap.size + 1) (loBits k (l.take j)) (hiFrom k 0 (l.take j))) (fun _ i _ => l.length - (intOf i).toNat)
  case atStart =>
    refine ⟨0, Nat.zero_le _, rfl, rfl, ?_⟩
    exact two_start w
  case round =>
    obtain ⟨j, hj, rfl, rfl, hT⟩ := hrel
    have HT := Lib.hid hT
    clear hT
    have hll : (loBits k (l.take j)).length ≤ 41943040 := by
      rw [lo_len, List.length_take]
      have := Nat.mul_le_mul (show min j l.length ≤ 1048576 by omega) hk
      omega
    by_cases hjl : j < l.length
    · obtain ⟨g, rfl, hcell⟩ := (H.out.ext HT.out.below).cell hjl
      have hx := HLT.out j hjl
      have hp := part_le k l HS.out j hjl
      have HLo := Lib.hid (lo_take k l j hjl)
      have HHi := Lib.hid (hi_take k l j hjl)
      have hhl := hi_len k l HS.out j hj
      have hpn : partAt k l (j + 1) = l.getD j 0 / 2 ^ k := by unfold partAt; rw [if_neg (by omega)]; simp
      have HPN := Lib.hid hpn
      clear hpn
      generalize l.getD j 0 = x at *
      have hq : Hid ((x : Int) / 2 ^ k = ((x / 2 ^ k : Nat) : Int)) := Lib.hid (by simp)
      have hqx : x / 2 ^ k ≤ x := Nat.div_le_self _ _
      have hqi := hq.out
      generalize x / 2 ^ k = q at *
      generalize partAt k l j = pa at *
      have hl2 : (hiFrom k 0 (l.take j) ++ List.replicate (q - pa) false).length ≤ 1073741824 := by simp; omega
      go_wp2_with (first
        | (go_at_call 78; refine (Two.one HT.out (fun v hb => number_call x k _ _ v _ _ hb HT.out.base (by omega) (by omega) (by omega))).mono ?_; rintro e w1 ⟨rfl, hT1⟩)
        | (go_at_call 79; refine (Two.two hT1 (fun v hb => noughts_call (q - pa) _ (by omega) _ _ v _ _ hb hT1.base (by omega))).mono ?_; rintro e w2 ⟨rfl, hT2⟩)
        | (go_at_call 80; refine (Two.two hT2 (fun v hb => bitB_call true _ _ v _ _ hb hT2.base hl2)).mono ?_; rintro e w3 ⟨rfl, hT3⟩))
      refine ⟨⟨j + 1, by omega, by congr 1; rw [HPN.out], by congr 1, ?_⟩, by simp [intOf]; omega⟩
      rw [HLo.out, HHi.out, ← List.append_assoc]; exact hT3
    · obtain rfl : j = l.length := by omega
      rw [List.take_length] at HT hll
      have hhl : (hiFrom k 0 l).length = l.length + partAt k l l.length := by
        have := hi_len k l HS.out l.length (Nat.le_refl _)
        rwa [List.take_length] at this
      have hhn : partAt k l l.length ≤ (bound - 1) / 2 ^ k := by
        unfold partAt
        split
        · exact Nat.zero_le _
        · have := HLT.out (l.length - 1) (by omega)
          exact Nat.div_le_div_right (by omega)
      have hhh : highN l.length bound k = l.length + (bound - 1) / 2 ^ k + 1 := rfl
      have hdl : (bound - 1) / 2 ^ k ≤ bound - 1 := Nat.div_le_self _ _
      have HH : ∀ W, Calls Tryz.prog 81 #[.int .i64 (l.length : Nat), .int .i64 bound, .int .i64 k] W fun e w' => e = .returned (.int .i64 (highN l.length bound k : Nat)) ∧ W = w' := fun W => high_call l.length bound k (by omega) (by omega) hb1 (by omega) W
      have HHc := Lib.hid HH
      clear HH
      obtain ⟨v, v', hv, hv', hap⟩ := HT.out.ex
      have HV := Lib.hid hv
      clear hap
      have HL : Hid ((loBits k l).length ≤ 1073741824 ∧ (hiFrom k 0 l ++ List.replicate (highN l.length bound k - (hiFrom k 0 l).length) false).length ≤ 1073741824) := Lib.hid ⟨by omega, by simp only [List.length_append, List.length_replicate]; omega⟩
      generalize highN l.length bound k = hn at *
      generalize (bound - 1) / 2 ^ k = y at *
      generalize partAt k l l.length = pa at *
      go_wp2_with (first
        | (go_at_call 81; refine (HHc.out _).mono ?_; rintro e w' ⟨rfl, rfl⟩)
        | (go_at_call 82; refine (blen_call _ _ _ _ _ _ hv').mono ?_; rintro e w' ⟨rfl, rfl⟩)
        | (go_at_call 79; refine (Two.two HT.out (fun v hb => noughts_call (hn - (hiFrom k 0 l).length) _ (by omega) _ _ v _ _ hb HT.out.base (by omega))).mono ?_; rintro e w2 ⟨rfl, hT2⟩; obtain ⟨v1, v2, hv1, hv2, _⟩ := hT2.ex; have HB := Lib.hid (⟨hv1, hv2⟩ : _ ∧ _); clear hv1 hv2)
        | (go_at_call 84; refine (rowB_box _ _ _ _ _ (HB.out.2.ext hx1) HL.out.2).mono ?_; rintro e w4 ⟨p2, rfl, hr2, hx2⟩; have HR2 := Lib.hid hr2; clear hr2)
        | (go_at_call 84; refine (rowB_box _ _ _ _ _ HB.out.1 HL.out.1).mono ?_; rintro e w3 ⟨p1, rfl, hr1, hx1⟩; have HR1 := Lib.hid hr1; clear hr1)
        | (go_at_call 83; refine (build_call _ _ _ _ _ _ _ (by omega) (by omega) (HR1.out.ext hx2) HR2.out).mono ?_; rintro e w5 ⟨p, rfl, hs, hx5⟩))
      go_ret2
      rw [HK.out]
      exact ⟨p, rfl, hs, Ext.trans (Ext.trans (Ext.trans (show Ext w w2 from hT2.below) hx1) hx2) hx5⟩
end Go.Proofs.Lw
