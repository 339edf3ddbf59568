/- rank.New: the directory of a row. choose.New: where a row's bits are. choose.New. -/
import Derived.Test.YtaejhdmkjodefaaGreatDoorJBits
import Derived.WalkSmall
import Derived.Test.YtaejhdmkjodefaaGreatDoorJMem
set_option linter.unusedSimpArgs false
set_option linter.unusedVariables false
namespace Go.Proofs.Lw
open Go Go.RowKit

/-- ones of word i -/
def cw (ws : List Nat) (i : Nat) : Nat := cnt (wordAt ws (i : Nat)) 64
/-- ones of j words from word a on -/
def onesFrom (ws : List Nat) (a : Nat) : Nat → Nat
  | 0 => 0
  | j + 1 => onesFrom ws a j + cw ws (a + j)
/-- a block's counts, packed -/
def pack (ws : List Nat) (a : Nat) : Nat → Nat
  | 0 => 0
  | j + 1 => if j = 0 then 0 else pack ws a j ||| (onesFrom ws a j * 2 ^ (9 * (j - 1)))
theorem onesFrom_le (ws : List Nat) (a j : Nat) : onesFrom ws a j ≤ 64 * j := by
  induction j with
  | zero => simp [onesFrom]
  | succ j ih => simp only [onesFrom]; have := cnt_le (wordAt ws ((a + j : Nat) : Int)) 64; unfold cw; omega
theorem pack_lt (ws : List Nat) (a j : Nat) (h : j ≤ 8) : pack ws a j < 9223372036854775808 := by
  induction j with
  | zero => simp [pack]
  | succ j ih =>
    unfold pack
    split
    · omega
    · have h1 := onesFrom_le ws a j
      have h2 : onesFrom ws a j * 2 ^ (9 * (j - 1)) < 2 ^ 63 := by
        have : onesFrom ws a j < 2 ^ 9 := by omega
        calc onesFrom ws a j * 2 ^ (9 * (j - 1)) < 2 ^ 9 * 2 ^ (9 * (j - 1)) := Nat.mul_lt_mul_of_pos_right this (Nat.pow_pos (by omega))
          _ = 2 ^ (9 + 9 * (j - 1)) := by rw [Nat.pow_add]
          _ ≤ 2 ^ 63 := Nat.pow_le_pow_right (by omega) (by omega)
      have := Nat.or_lt_two_pow (n := 63) (x := pack ws a j) (by have := ih (by omega); omega) h2
      omega
theorem onesFrom_add (ws : List Nat) (a i j : Nat) : onesFrom ws a (i + j) = onesFrom ws a i + onesFrom ws (a + i) j := by
  induction j with
  | zero => simp [onesFrom]
  | succ j ih => rw [← Nat.add_assoc]; simp only [onesFrom, ih]; rw [Nat.add_assoc a i j]; omega

def entVals (es : List (Nat × Nat)) : List Value := es.flatMap fun e => [.int .u64 (e.1 : Nat), .int .u64 (e.2 : Nat)]
/-- the entries of the first b blocks -/
def ents (ws : List Nat) (b : Nat) : List (Nat × Nat) := (List.range b).map fun k => (onesFrom ws 0 (8 * k), pack ws (8 * k) 8)
theorem ents_succ (ws : List Nat) (b : Nat) : ents ws (b + 1) = ents ws b ++ [(onesFrom ws 0 (8 * b), pack ws (8 * b) 8)] := by
  simp [ents, List.range_succ]
theorem entVals_len (es : List (Nat × Nat)) : (entVals es).length = es.length * 2 := by
  induction es with
  | nil => rfl
  | cons e r ih => simp [entVals] at *; omega
theorem entVals_app (a b : List (Nat × Nat)) : entVals (a ++ b) = entVals a ++ entVals b := by simp [entVals]

theorem ent_info : (Tryz.prog.info? 286).map (fun i => (i.zero, i.size, i.bytes)) = some (some (.agg #[.int .u64 0, .int .u64 0]), 2, 16) := by kernel_rfl

theorem World.grownBy_of_ext {w w' : World} (h : Ext w w') (row : Option Nat) : w.grownBy w' row := ⟨h.os, h.tape, h.output, h.size, fun i hi _ => h.block i hi⟩
theorem shl_small (o p : Nat) (h : o ≤ 448) (hp : p ≤ 54) : IntKind.u64.wrap ((o : Int) * 2 ^ p) = ((o * 2 ^ p : Nat) : Int) := by
  have h1 : o * 2 ^ p < 2 ^ 9 * 2 ^ p := Nat.mul_lt_mul_of_pos_right (by omega) (Nat.pow_pos (by omega))
  have h2 : (2 : Nat) ^ 9 * 2 ^ p ≤ 2 ^ 63 := by rw [← Nat.pow_add]; exact Nat.pow_le_pow_right (by omega) (by omega)
  have h3 : ((o * 2 ^ p : Nat) : Int) = (o : Int) * 2 ^ p := by push_cast; rfl
  rw [← h3]
  generalize o * 2 ^ p = m at *
  rw [IntKind.wrap_u64]; omega

theorem pack_or (ws : List Nat) (a j : Nat) (h0 : 0 < j) (h : j < 8) : bits .or .u64 ((pack ws a j : Nat) : Int) (((onesFrom ws a j : Nat) : Int) * 2 ^ (9 * (j - 1))) = ((pack ws a (j + 1) : Nat) : Int) := by
  have h1 := pack_lt ws a j (by omega)
  have h2 := onesFrom_le ws a j
  have h3 : onesFrom ws a j * 2 ^ (9 * (j - 1)) < 18446744073709551616 := by
    have e1 : onesFrom ws a j * 2 ^ (9 * (j - 1)) < 2 ^ 9 * 2 ^ (9 * (j - 1)) := Nat.mul_lt_mul_of_pos_right (by omega) (Nat.pow_pos (by omega))
    have e2 : (2 : Nat) ^ 9 * 2 ^ (9 * (j - 1)) ≤ 2 ^ 63 := by rw [← Nat.pow_add]; exact Nat.pow_le_pow_right (by omega) (by omega)
    omega
  have e : ((onesFrom ws a j : Nat) : Int) * 2 ^ (9 * (j - 1)) = ((onesFrom ws a j * 2 ^ (9 * (j - 1)) : Nat) : Int) := by push_cast; rfl
  rw [e, u64_or_nat _ _ (by omega) h3]
  have : pack ws a (j + 1) = pack ws a j ||| (onesFrom ws a j * 2 ^ (9 * (j - 1))) := by rw [pack, if_neg (by omega)]
  rw [this]
theorem ones64 (v : Nat) (hv : v < W64) (w : World) : Calls Tryz.prog 173 #[.int .u64 v, .int .i64 64] w fun e w' => e = .returned (.int .i64 (cnt v 64 : Nat)) ∧ w = w' := ones_nat v 64 hv w
set_option maxRecDepth 100000 in
set_option maxHeartbeats 1000000 in
theorem rankNew_call (p : Addr) (ws : List Nat) (n : Nat) (w : World) (h : IsRow w p ws n) :
    Calls Tryz.prog 130 #[.pointer (some p)] w fun e w' => ∃ gd v, e = .returned (.pointer (some ⟨gd, 0, none⟩)) ∧ Blk w' gd 284 #[.pointer (some p), v] ∧
      w'.ownsRow w.heap.size 286 2 v (n / 512 + 1) (entVals (ents ws (n / 512 + 1))) ∧ w.heap.size ≤ gd ∧ Ext w w' := by
  obtain ⟨i0, hi, hz0, hz1, hz2⟩ := info_parts ent_info
  have HI := Lib.hid hi
  have HZ0 := Lib.hid hz0
  have HZ1 := Lib.hid hz1
  have HZ2 := Lib.hid hz2
  have hn := h.2.2.2
  have hlt := h.2.2.1
  have H := Lib.hid h
  clear hi hz0 hz1 hz2 h
  go_enter Tryz.func130, Tryz.ntmps130
  go_wp2_with fail
  go_loopw [4, 5] (fun all at_ wr => ∃ (b : Nat) (v : Value), b ≤ n / 512 + 1 ∧ all = .int .i64 (onesFrom ws 0 (8 * b) : Nat) ∧ at_ = .int .i64 (512 * b : Nat) ∧ Blk wr w.heap.size 284 #[.pointer (some p), v] ∧
      wr.ownsRow w.heap.size 286 2 v b (entVals (ents ws b)) ∧ Ext w wr) (fun _ at_ _ => n + 512 - (intOf at_).toNat)
  case atStart => exact ⟨0, .slice none 0 0, by omega, rfl, rfl, Blk.new _ _ _, World.ownsRow_nil _ _ _ _, Ext.alloc _ _⟩
  case round =>
    obtain ⟨b, v, hb, rfl, rfl, hB, hO, hX⟩ := hrel
    have hR := H.out.ext hX
    have HR := Lib.hid hR
    have HO := Lib.hid hO
    have HX := Lib.hid hX
    clear hR hO hX
    have ho := onesFrom_le ws 0 (8 * b)
    by_cases hc : 512 * b ≤ n
    · have hcb : decide (512 * (b : Int) ≤ (n : Int)) = true := by simp; omega
      have hd0 := hB.cell 0
      have hd1 := hB.cell 1
      simp at hd0 hd1
      have hfr := hB.frozen 1
      go_wp2_with (go_at_call 126; refine (rlen_call n p ws _ (by exact HR.out)).mono ?_; rintro e w' ⟨rfl, rfl⟩)
      obtain ⟨wo, rfl⟩ : ∃ wo : World, wo = wr := ⟨_, rfl⟩
      go_loopw [7, 8, 21] (fun in_ _ i wi => ∃ (j : Nat), j ≤ 8 ∧ in_ = .int .i64 (onesFrom ws (8 * b) j : Nat) ∧ i = .int .i64 (j : Nat) ∧
        Blk wi wo.heap.size 286 #[.int .u64 (onesFrom ws 0 (8 * b) : Nat), .int .u64 (pack ws (8 * b) j : Nat)] ∧ Ext wo wi) (fun _ _ i _ => 8 - (intOf i).toNat)
      case atStart => exact ⟨0, by omega, rfl, rfl, Blk.new _ _ _, Ext.alloc _ _⟩
      case round =>
        obtain ⟨j, hj, rfl, rfl, hE, hXi⟩ := hrel
        have he1 := hE.cell 1
        simp at he1
        have hef := hE.frozen 1
        have HE := Lib.hid hE
        have HXi := Lib.hid hXi
        clear hE hXi
        have ho2 := onesFrom_le ws (8 * b) j
        have hpk := pack_lt ws (8 * b) j hj
        by_cases hj8 : j < 8
        · have HW : Hid (wordAt ws (512 * (b : Int) / 64 + (j : Int)) = wordAt ws ((8 * b + j : Nat) : Int)) := Lib.hid (by congr 1; omega)
          have hwl := wordAt_lt ws hlt (512 * (b : Int) / 64 + (j : Int))
          have hcl := cnt_le (wordAt ws (512 * (b : Int) / 64 + (j : Int))) 64
          by_cases hj0 : 0 < j
          · have hsh := shl_small (onesFrom ws (8 * b) j) (9 * (j - 1)) (by omega) (by omega)
            have HOR := Lib.hid (pack_or ws (8 * b) j hj0 (by omega))
            have hs1 : IntKind.i64.wrap ((j : Int) - 1) = (j : Int) - 1 := IntWalk.i64_in _ (by omega)
            have hs2 : IntKind.i64.wrap (9 * ((j : Int) - 1)) = 9 * ((j : Int) - 1) := IntWalk.i64_in _ (by omega)
            have hs3 : (0 : Int) ≤ 9 * ((j : Int) - 1) := by omega
            have hs4 : 9 * ((j : Int) - 1) < 64 := by omega
            have hs5 : (9 * ((j : Int) - 1)).toNat = 9 * (j - 1) := by omega
            have hs6 : IntKind.u64.wrap ((onesFrom ws (8 * b) j : Nat) : Int) = ((onesFrom ws (8 * b) j : Nat) : Int) := wrap64n _ (by omega)
            go_wp2_with fail
            go_still_tail 10, (by kernel_rfl)
            change wpList _ _ _ _ _ (World.drew _)
            go_wp2_with (first
              | (go_at_call 131; refine (word_call p ws n _ _ (by exact HR.out.ext ((HXi.out.setCell (p := ⟨wo.heap.size, 1, none⟩) (Nat.le_refl _) _).drew))).mono ?_; rintro e w' ⟨rfl, rfl⟩)
              | (go_at_call 173; refine (ones64 _ (wordAt_lt ws hlt _) _).mono ?_; rintro e w' ⟨rfl, rfl⟩))
            go_roundw
            case rel => exact ⟨j + 1, by omega, by rw [onesFrom, cw, ← HW.out]; go_num, by go_num, by rw [HOR.out]; exact Blk.drew' (by simpa using HE.out.set_ 1 _), (HXi.out.setCell (p := ⟨wo.heap.size, 1, none⟩) (Nat.le_refl _) _).drew⟩
            case measure => simp [intOf]; omega
          · have hpk2 : pack ws (8 * b) (j + 1) = pack ws (8 * b) j := by
              obtain rfl : j = 0 := by omega
              rfl
            have HP := Lib.hid hpk2
            clear hpk2
            go_wp2_with (first
              | (go_at_call 131; refine (word_call p ws n _ _ (by exact HR.out.ext HXi.out)).mono ?_; rintro e w' ⟨rfl, rfl⟩)
              | (go_at_call 173; refine (ones64 _ (wordAt_lt ws hlt _) _).mono ?_; rintro e w' ⟨rfl, rfl⟩))
            go_roundw
            case rel => exact ⟨j + 1, by omega, by rw [onesFrom, cw, ← HW.out]; go_num, by go_num, by rw [HP.out]; exact HE.out, HXi.out⟩
            case measure => simp [intOf]; omega
        · obtain rfl : j = 8 := by omega
          have hBi := hB.ext HXi.out
          have hgi := hBi.lt
          have hOi := HO.out.kept (World.grownBy_of_ext HXi.out none) (by
            rcases hv : v.ownBlock with _ | k
            · exact .inl rfl
            · exact .inr (by simp))
          have hd2 := hBi.cell 0
          have hd3 := hBi.cell 1
          have hdf := hBi.frozen 1
          simp at hd2 hd3
          have he0 := HE.out.cell 0
          simp at he0
          have hsz := (HX.out.trans HXi.out).size
          have hall : Hid (((onesFrom ws 0 (8 * b) : Nat) : Int) + ((onesFrom ws (8 * b) 8 : Nat) : Int) = ((onesFrom ws 0 (8 * (b + 1)) : Nat) : Int)) := Lib.hid (by rw [show 8 * (b + 1) = 8 * b + 8 by omega, onesFrom_add, Nat.zero_add]; push_cast; rfl)
          have HBi := Lib.hid hBi
          have HOi := Lib.hid hOi
          have HN := Lib.hid (own_ne hOi hBi (by decide))
          clear hBi hOi hB hd0 hd1
          have hcB : ∀ o, (wr.alloc o).cell? ⟨w.heap.size, 1, none⟩ = some v := fun o => by simpa using (HBi.out.alloc' o).cell 1
          have hcE0 : ∀ o, (wr.alloc o).cell? ⟨wo.heap.size, 0, none⟩ = some (.int .u64 (onesFrom ws 0 (8 * b) : Nat)) := fun o => by simpa using (HE.out.alloc' o).cell 0
          have hcE1 : ∀ o, (wr.alloc o).cell? ⟨wo.heap.size, 1, none⟩ = some (.int .u64 (pack ws (8 * b) 8 : Nat)) := fun o => by simpa using (HE.out.alloc' o).cell 1
          go_wp2_with fail
          go_region_law (go_loud (refine step_append_lies _ rfl (.tmp 50) (.tmp 52) 282 rfl w.heap.size 286 i0 _ 2 16 Tryz.underlying282 HI.out HZ0.out HZ1.out HZ2.out rfl (by decide) v b (entVals (ents ws b)) rfl (by exact HOi.out.alloc _) ⟨wr.heap.size, 0, none⟩ 1 1 [.int .u64 (onesFrom ws 0 (8 * b) : Nat), .int .u64 (pack ws (8 * b) 8 : Nat)] rfl rfl (by exact cell_two_new _ _ _ _) (by simp [Value.oneCell']) (by decide) (by unfold maxLen; omega) (by omega) (by simp; omega) _ rfl ?_); intro g3 cap3 w1 hown hgrow hat2 hlt2; obtain ⟨hd4, hd5, hd6, hf2, hf3⟩ := Blk.two (by exact HBi.out.alloc' _) hgrow HN.out)
          all_goals
            go_wp2_with fail
            have hne3 := own_ne hown hd4 (by decide)
            refine ⟨⟨b + 1, .slice (some ⟨g3, 0, none⟩) (b + 1) cap3, by omega, by rw [hall.out], by go_num, by simpa using hd4.set_ 1 (.slice (some ⟨g3, 0, none⟩) (b + 1) cap3), ?_, ?_⟩, by simp [intOf]; omega⟩
            · rw [ents_succ, entVals_app]; exact ownsRow_setCell_other hown hne3 _
            · exact Below.setCell (Below.grown (Below.drew (Below.alloc (HX.out.trans HXi.out) hsz _)) hgrow (by simp; omega) (fun k e => (HOi.out.lt k e).1)) (p := ⟨w.heap.size, 1, none⟩) (Nat.le_refl _) _
    · go_wp2_with (go_at_call 126; refine (rlen_call n p ws _ (by exact HR.out)).mono ?_; rintro e w' ⟨rfl, rfl⟩)
      go_ret
      have e : b = n / 512 + 1 := by omega
      exact ⟨_, v, rfl, hB, e ▸ HO.out, Nat.le_refl _, HX.out⟩
end Go.Proofs.Lw
namespace Go.Proofs.Lw
open Go Go.RowKit

def ints (l : List Nat) : List Value := l.map fun x => .int .i64 (x : Nat)
theorem ints_len (l : List Nat) : (ints l).length = l.length := by simp [ints]
/-- what is known of one kind of bits, behind a word of k such bits -/
def noteL (l : List Nat) (n k at_ : Nat) : List Nat := if 0 < k ∧ (n + 255) / 256 * 256 < n + k then l ++ [at_ / 512] else l
theorem int_info : (Tryz.prog.info? 3).map (fun i => (i.zero, i.size, i.bytes)) = some (some (.int .i64 0), 1, 8) := by kernel_rfl

theorem Blk.at {W w1 : World} {g : Nat} {t : TypeId} {cs : Array Value} {row : Option Nat} (hB : Blk W g t cs) (hg : W.grownBy w1 row) (hne : row ≠ some g) : Blk w1 g t cs := (hg.block g hB.lt (fun e => hne e.symm)).trans hB
theorem Off2.refl (w : World) (g : Nat) (o : Option Nat) : Off2 w w g o := ⟨rfl, rfl, rfl, Nat.le_refl _, fun _ _ _ _ => rfl⟩

set_option maxHeartbeats 1000000 in
theorem note_keep {w : World} {base g o m q : Nat} {cs : Array Value} {v : Value} {l : List Nat} (hB : Blk w g 233 cs) (hO : w.ownsRow base 3 1 v l.length (ints l)) (h0 : cs[o]? = some v) (hN : v.ownBlock ≠ some g) {u : Int} (hu : u = (m : Nat)) :
    Ending.returned (.tuple #[]) = .returned (.tuple #[]) ∧ ∃ v', Blk ((w.drewN q).setCell ⟨g, o + 1, none⟩ (.int .i64 u)) g 233 ((cs.setIfInBounds o v').setIfInBounds (o + 1) (.int .i64 (m : Nat))) ∧
      ((w.drewN q).setCell ⟨g, o + 1, none⟩ (.int .i64 u)).ownsRow base 3 1 v' l.length (ints l) ∧ Off2 w ((w.drewN q).setCell ⟨g, o + 1, none⟩ (.int .i64 u)) g v.ownBlock ∧ (v'.ownBlock = v.ownBlock ∨ ∃ j, v'.ownBlock = some j ∧ w.heap.size ≤ j) := by
  subst hu
  refine ⟨rfl, v, ?_, ownsRow_setCell_other (by exact hO) hN _, ⟨rfl, rfl, rfl, by simp [World.setCell], fun i hi hg ho => (Below.heap_setCell _ _ _ _ (by simpa using hg)).trans rfl⟩, .inl rfl⟩
  have e : cs.setIfInBounds o v = cs := by
    apply Array.ext_getElem?
    intro i
    rw [Array.getElem?_setIfInBounds]
    split
    · rename_i e; subst e
      split
      · exact h0.symm
      · rename_i hge; rw [Array.getElem?_eq_none (by omega)] at h0; cases h0
    · rfl
  rw [e]
  exact Blk.set_ (w := w.drewN q) (by exact hB) (o + 1) _
set_option maxRecDepth 100000 in
theorem note_call (x n at_ : Nat) (base g o : Nat) (cs : Array Value) (v : Value) (l : List Nat) (w : World) (hB : Blk w g 233 cs) (h0 : cs[o]? = some v) (h1 : cs[o + 1]? = some (.int .i64 (n : Nat)))
    (hO : w.ownsRow base 3 1 v l.length (ints l)) (hbase : base ≤ w.heap.size) (hx : x < W64) (hn : n ≤ 1073741824) (hl : l.length ≤ 1073741824) (ha : at_ ≤ 1073741824) :
    Calls Tryz.prog 132 #[.pointer (some ⟨g, o, none⟩), .int .u64 x, .int .i64 at_] w fun e w' => e = .returned (.tuple #[]) ∧
      ∃ v', Blk w' g 233 ((cs.setIfInBounds o v').setIfInBounds (o + 1) (.int .i64 (n + cnt x 64 : Nat))) ∧ w'.ownsRow base 3 1 v' (noteL l n (cnt x 64) at_).length (ints (noteL l n (cnt x 64) at_)) ∧
        Off2 w w' g v.ownBlock ∧ (v'.ownBlock = v.ownBlock ∨ ∃ j, v'.ownBlock = some j ∧ w.heap.size ≤ j) := by
  obtain ⟨i0, hi, hz0, hz1, hz2⟩ := info_parts int_info
  have hc0 := (hB.cell o).trans h0
  have hc1 := (hB.cell (o + 1)).trans h1
  have hf0 := hB.frozen o
  have hf1 := hB.frozen (o + 1)
  have hk := cnt_le x 64
  generalize hK : cnt x 64 = k at *
  have hcall : ∀ W : World, Calls Tryz.prog 173 #[.int .u64 x, .int .i64 64] W fun e w' => e = .returned (.int .i64 (k : Nat)) ∧ W = w' := fun W => hK ▸ ones64 x hx W
  have HC := Lib.hid hcall
  clear hcall hK
  have hs1 : IntKind.i64.wrap ((n : Int) + 256) = (n : Int) + 256 := IntWalk.i64_in _ (by omega)
  have hs2 : IntKind.i64.wrap ((n : Int) + 256 - 1) = (n : Int) + 256 - 1 := IntWalk.i64_in _ (by omega)
  have hs3 : (0 : Int) ≤ (n : Int) + 256 - 1 := by omega
  have hs4 : IntKind.i64.wrap (((n : Int) + 256 - 1) / 256 * 256) = ((n : Int) + 256 - 1) / 256 * 256 := IntWalk.i64_in _ (by omega)
  have hs5 : IntKind.i64.wrap ((n : Int) + (k : Int)) = (n : Int) + (k : Int) := IntWalk.i64_in _ (by omega)
  have hs6 : IntKind.i64.wrap (((n : Int) + 256 - 1) / 256) = ((n : Int) + 256 - 1) / 256 := IntWalk.i64_in _ (by omega)
  have HB := Lib.hid hB
  have HO := Lib.hid hO
  have HI := Lib.hid hi
  have HZ0 := Lib.hid hz0
  have HZ1 := Lib.hid hz1
  have HZ2 := Lib.hid hz2
  have H0 := Lib.hid h0
  have H1 := Lib.hid h1
  clear hB hO hi hz0 hz1 hz2 h0 h1
  have HN := Lib.hid (own_ne HO.out HB.out (by decide))
  have hod : ¬ (o + 1 = o) := by omega
  by_cases hk0 : 0 < k
  · have hd1 : decide (0 < (k : Int)) = true := by simp; omega
    by_cases hcond : (n + 255) / 256 * 256 < n + k
    · have hd2 : decide (((n : Int) + 256 - 1) / 256 * 256 < (n : Int) + (k : Int)) = true := by simp; omega
      have HL : Hid (noteL l n k at_ = l ++ [at_ / 512]) := Lib.hid (by rw [noteL, if_pos ⟨hk0, hcond⟩])
      go_enter Tryz.func132, Tryz.ntmps132
      go_wp2_with (go_at_call 173; refine (HC.out _).mono ?_; rintro e w' ⟨rfl, rfl⟩)
      go_quiet (fail)
      go_wp2_with (at_builtin; go_loud (refine wpList_append_lies _ rfl (.tmp 32) (.tmp 35) 84 rfl base 3 i0 _ 1 8 Tryz.underlying84 HI.out HZ0.out HZ1.out HZ2.out rfl (by decide) v l.length (ints l) rfl (by exact HO.out.alloc _) ⟨w.heap.size, 0, none⟩ 1 1 [.int .i64 ((at_ : Int) / 512)] rfl rfl (by exact cell_one_new _ _ _) (by simp [Value.oneCell']) (by decide) (by unfold maxLen; omega) (by omega) (by simp; omega) _ rfl ?_); intro g3 cap3 w1 hown hgrow hat2 hlt2; have hB1 := Blk.at (by exact HB.out.alloc' _) hgrow HN.out; have hd4 := (hB1.cell o).trans H0.out; have hd5 := (hB1.cell (o + 1)).trans H1.out; have hf4 := hB1.frozen o; have hf5 := hB1.frozen (o + 1))
      go_end0
      have hne3 := own_ne hown hB1 (by decide)
      refine ⟨rfl, .slice (some ⟨g3, 0, none⟩) (l.length + 1) cap3, by simpa using (hB1.set_ o (.slice (some ⟨g3, 0, none⟩) (l.length + 1) cap3)).set_ (o + 1) (.int .i64 ((n : Int) + k)), ?_, ⟨hgrow.os, hgrow.tape, hgrow.output, ?_, ?_⟩, ?_⟩
      · rw [HL.out]
        have e : ints (l ++ [at_ / 512]) = ints l ++ [.int .i64 ((at_ : Int) / 512)] := by simp [ints]
        rw [e, List.length_append]
        exact ownsRow_setCell_other (ownsRow_setCell_other hown hne3 _) hne3 _
      · have := hgrow.size; simp [World.setCell] at this ⊢; omega
      · intro i hi hg ho
        exact ((Below.heap_setCell _ _ _ _ (by simpa using hg)).trans (Below.heap_setCell _ _ _ _ (by simpa using hg))).trans ((hgrow.block i (by simp; omega) ho).trans (Below.heap_alloc w _ i hi))
      · rcases hat2 with e | e
        · exact .inl e.symm
        · exact .inr ⟨g3, rfl, by simp at e; omega⟩
    · have hd2 : decide (((n : Int) + 256 - 1) / 256 * 256 < (n : Int) + (k : Int)) = false := by simp; omega
      have HL : Hid (noteL l n k at_ = l) := Lib.hid (by rw [noteL, if_neg (fun h => hcond h.2)])
      go_enter Tryz.func132, Tryz.ntmps132
      go_wp2_with (go_at_call 173; refine (HC.out _).mono ?_; rintro e w' ⟨rfl, rfl⟩)
      go_quiet (fail)
      go_wp2_with fail
      go_end0
      rw [HL.out]
      exact note_keep (m := n + k) (q := nq) HB.out HO.out H0.out HN.out (by push_cast; rfl)
  · have hd1 : decide (0 < (k : Int)) = false := by simp; omega
    have HL : Hid (noteL l n k at_ = l) := Lib.hid (by rw [noteL, if_neg (fun h => hk0 h.1)])
    go_enter Tryz.func132, Tryz.ntmps132
    go_wp2_with (go_at_call 173; refine (HC.out _).mono ?_; rintro e w' ⟨rfl, rfl⟩)
    go_quiet (fail)
    go_wp2_with fail
    go_end0
    rw [HL.out]
    exact note_keep (m := n + k) (q := nq) HB.out HO.out H0.out HN.out (by push_cast; rfl)
end Go.Proofs.Lw
namespace Go.Proofs.Lw
open Go Go.RowKit

/-- word i of the row turned over, of n bits -/
def zw (ws : List Nat) (n i : Nat) : Nat := fld (W64 - 1 - wordAt ws (i : Nat)) 0 (n - 64 * i)
def cntTo (f : Nat → Nat) : Nat → Nat
  | 0 => 0
  | i + 1 => cntTo f i + cnt (f i) 64
def listTo (f : Nat → Nat) : Nat → List Nat
  | 0 => []
  | i + 1 => noteL (listTo f i) (cntTo f i) (cnt (f i) 64) (64 * i)
theorem cntTo_le (f : Nat → Nat) (i : Nat) : cntTo f i ≤ 64 * i := by
  induction i with
  | zero => simp [cntTo]
  | succ i ih => simp only [cntTo]; have := cnt_le (f i) 64; omega
theorem listTo_le (f : Nat → Nat) (i : Nat) : (listTo f i).length ≤ i := by
  induction i with
  | zero => simp [listTo]
  | succ i ih => 
    simp only [listTo, noteL]
    split
    · simp; omega
    · omega

theorem own_of_block {w w' : World} {base : Nat} {e : TypeId} {size n : Nat} {v : Value} {xs : List Value} (h : w.ownsRow base e size v n xs) (hb : ∀ k, v.ownBlock = some k → w'.heap[k]? = w.heap[k]?) : w'.ownsRow base e size v n xs := by
  refine ⟨h.1, ?_⟩
  rcases h.2 with h' | ⟨g, cap, cur, rfl, h1, h2, h3⟩
  · exact .inl h'
  · exact .inr ⟨g, cap, cur, rfl, h1, (hb g rfl).trans h2, h3⟩
theorem own_off2 {w w' : World} {base : Nat} {e : TypeId} {size n : Nat} {v : Value} {xs : List Value} {g : Nat} {o : Option Nat} (h : w.ownsRow base e size v n xs) (hb : Off2 w w' g o) (h1 : v.ownBlock ≠ some g) (h2 : ∀ k, v.ownBlock = some k → some k ≠ o) : w'.ownsRow base e size v n xs :=
  own_of_block h fun k hk => hb.block k (h.lt k hk).2 (fun e => h1 (e ▸ hk)) (h2 k hk)
theorem off2_below {w w' : World} {g : Nat} {o : Option Nat} {B : Nat} (h : Off2 w w' g o) (hg : B ≤ g) (ho : ∀ k, o = some k → B ≤ k) (hB : B ≤ w.heap.size) : Below B w w' :=
  ⟨h.os, h.tape, h.output, h.size, fun k hk => h.block k (by omega) (by omega) (fun e => by have := ho k e.symm; omega)⟩

def wd (ws : List Nat) (i : Nat) : Nat := wordAt ws (i : Nat)
/-- the blocks of a chooser -/
structure IsChs (w : World) (base gc : Nat) (gd : Nat) (p : Addr) (ws : List Nat) (n i : Nat) (v1 v3 : Value) : Prop where
  blk : Blk w gc 233 #[.pointer (some ⟨gd, 0, none⟩), v1, .int .i64 (cntTo (wd ws) i : Nat), v3, .int .i64 (cntTo (zw ws n) i : Nat)]
  own1 : w.ownsRow base 3 1 v1 (listTo (wd ws) i).length (ints (listTo (wd ws) i))
  own3 : w.ownsRow base 3 1 v3 (listTo (zw ws n) i).length (ints (listTo (zw ws n) i))
  apart : ∀ k, v1.ownBlock = some k → v3.ownBlock ≠ some k
  ge : base ≤ gc
/-- a rank directory -/
def IsDir (w : World) (gd : Nat) (p : Addr) (ws : List Nat) (n : Nat) : Prop :=
  ∃ v base, Blk w gd 284 #[.pointer (some p), v] ∧ w.ownsRow base 286 2 v (n / 512 + 1) (entVals (ents ws (n / 512 + 1)))
theorem own_ext {w w' : World} {base : Nat} {e : TypeId} {size n : Nat} {v : Value} {xs : List Value} (h : w.ownsRow base e size v n xs) (hx : Ext w w') : w'.ownsRow base e size v n xs :=
  own_of_block h fun k hk => hx.block k (h.lt k hk).2
theorem IsDir.ext {w w' : World} {gd : Nat} {p : Addr} {ws : List Nat} {n : Nat} (h : IsDir w gd p ws n) (hx : Ext w w') : IsDir w' gd p ws n := by
  obtain ⟨v, base, a, b⟩ := h
  exact ⟨v, base, a.ext hx, own_ext b hx⟩

theorem note_at (x n at_ : Nat) (ai : Int) (hai : ai = at_) (base g o : Nat) (cs : Array Value) (v : Value) (l : List Nat) (w : World) (hB : Blk w g 233 cs) (h0 : cs[o]? = some v) (h1 : cs[o + 1]? = some (.int .i64 (n : Nat)))
    (hO : w.ownsRow base 3 1 v l.length (ints l)) (hbase : base ≤ w.heap.size) (hx : x < W64) (hn : n ≤ 1073741824) (hl : l.length ≤ 1073741824) (ha : at_ ≤ 1073741824) :
    Calls Tryz.prog 132 #[.pointer (some ⟨g, o, none⟩), .int .u64 x, .int .i64 ai] w fun e w' => e = .returned (.tuple #[]) ∧
      ∃ v', Blk w' g 233 ((cs.setIfInBounds o v').setIfInBounds (o + 1) (.int .i64 (n + cnt x 64 : Nat))) ∧ w'.ownsRow base 3 1 v' (noteL l n (cnt x 64) at_).length (ints (noteL l n (cnt x 64) at_)) ∧
        Off2 w w' g v.ownBlock ∧ (v'.ownBlock = v.ownBlock ∨ ∃ j, v'.ownBlock = some j ∧ w.heap.size ≤ j) := by
  subst hai
  exact note_call x n at_ base g o cs v l w hB h0 h1 hO hbase hx hn hl ha
theorem not_u64 (x : Nat) (h : x < W64) : bits .xor .u64 (if IntKind.u64.signed = true then -1 else IntKind.u64.max) (x : Int) = ((W64 - 1 - x : Nat) : Int) := by
  have e : (if IntKind.u64.signed = true then (-1 : Int) else IntKind.u64.max) = ((2 ^ 64 - 1 : Nat) : Int) := by decide
  rw [e, u64_xor_nat _ _ (by omega) h]
  congr 1
  have e2 : W64 - 1 - x = 2 ^ 64 - (x + 1) := by unfold W64; omega
  rw [e2]
  apply Nat.eq_of_testBit_eq
  intro i
  rw [Nat.testBit_xor, Nat.testBit_two_pow_sub_one, Nat.testBit_two_pow_sub_succ h]
  by_cases hi : i < 64
  · simp [hi]
  · have : x.testBit i = false := Nat.testBit_lt_two_pow (Nat.lt_of_lt_of_le h (Nat.pow_le_pow_right (n := 2) (by omega) (by omega : 64 ≤ i)))
    simp [hi, this]
theorem field_at (v i n : Nat) (ai an : Int) (hai : ai = i) (han : an = n) (hv : v < W64) (w : World) :
    Calls Tryz.prog 125 #[.int .u64 v, .int .i64 ai, .int .i64 an] w fun e w' => e = .returned (.int .u64 (fld v i n : Nat)) ∧ ∃ k, w' = w.drewN k := by
  subst hai han
  exact field_nat v i n hv w
theorem zw_lt (ws : List Nat) (n i : Nat) : zw ws n i < W64 := fld_lt _ _ _ (by unfold W64; omega)

set_option maxRecDepth 100000 in
set_option maxHeartbeats 1000000 in
theorem chooseNew_call (p : Addr) (ws : List Nat) (n : Nat) (w : World) (h : IsRow w p ws n) :
    Calls Tryz.prog 87 #[.pointer (some p)] w fun e w' => ∃ base gc gd v1 v3, e = .returned (.pointer (some ⟨gc, 0, none⟩)) ∧ IsChs w' base gc gd p ws n ((n + 63) / 64) v1 v3 ∧ IsDir w' gd p ws n ∧ Ext w w' := by
  have hn := h.2.2.2
  have hlt := h.2.2.1
  have H := Lib.hid h
  clear h
  go_enter Tryz.func87, Tryz.ntmps87
  go_wp2_with (go_at_call 130; refine (rankNew_call p ws n _ (by exact H.out)).mono ?_; rintro e w1 ⟨gd, vd, rfl, hBd, hOd, hgd, hX1⟩)
  have HD : Hid (IsDir w1 gd p ws n) := Lib.hid ⟨vd, _, hBd, hOd⟩
  have HX1 := Lib.hid hX1
  clear hBd hOd hX1
  go_loopw [4] (fun at_ wr => ∃ (i : Nat) (v1 v3 : Value), i ≤ (n + 63) / 64 ∧ at_ = .int .i64 (64 * i : Nat) ∧ IsChs wr w1.heap.size w1.heap.size gd p ws n i v1 v3 ∧ Ext w1 wr) (fun at_ _ => n + 64 - (intOf at_).toNat)
  case atStart => exact ⟨0, .slice none 0 0, .slice none 0 0, by omega, rfl, ⟨Blk.new _ _ _, World.ownsRow_nil _ _ _ _, World.ownsRow_nil _ _ _ _, fun k hk => (by cases hk), Nat.le_refl _⟩, Ext.alloc _ _⟩
  case round =>
    obtain ⟨i, v1, v3, hi, rfl, hC, hX⟩ := hrel
    have HC := Lib.hid hC
    have HX := Lib.hid hX
    clear hC hX
    have HR : Hid (IsRow wr p ws n) := Lib.hid (H.out.ext (HX1.out.trans HX.out))
    by_cases hc : 64 * i < n
    · have hcb : decide (64 * (i : Int) < (n : Int)) = true := by simp; omega
      have hdiv : (64 * (i : Int)) / 64 = (i : Int) := by omega
      go_wp2_with (first
        | (go_at_call 126; refine (rlen_call n p ws _ (by exact HR.out)).mono ?_; rintro e w' ⟨rfl, rfl⟩)
        | (go_at_call 131; refine (word_call p ws n _ _ (by exact HR.out)).mono ?_; rintro e w' ⟨rfl, rfl⟩)
        | (go_at_call 132; go_loud (refine (note_at (wd ws i) _ (64 * i) _ (by push_cast; rfl) w1.heap.size w1.heap.size 1 _ v1 _ _ HC.out.blk rfl rfl HC.out.own1 HX.out.size (wordAt_lt ws hlt _) (by have := cntTo_le (wd ws) i; omega) (by have := listTo_le (wd ws) i; omega) (by omega)).mono ?_); rintro e w2 ⟨rfl, v1', hB2, hO2, hF2, hN2⟩))
      refine wp_region_quiet_tail (C := fun w' => ∃ x : ExtW w2, w' = x.val) 11 (by kernel_rfl) (by kernel_rfl) (ExtC.start _) ?_
      simp only [List.take_succ_cons, List.take_zero]
      have hnot := not_u64 (wordAt ws (i : Nat)) (wordAt_lt ws hlt _)
      have hs1 : IntKind.i64.wrap ((n : Int) - 64 * (i : Int)) = (n : Int) - 64 * (i : Int) := IntWalk.i64_in _ (by omega)
      have HR2 : Hid (IsRow w2 p ws n) := Lib.hid (by
        have hb : Below w1.heap.size w1 w2 := Below.trans HX.out (off2_below hF2 (Nat.le_refl _) (fun k e => (HC.out.own1.lt k e).1) HX.out.size)
        exact (H.out.ext HX1.out).ext hb)
      repeat (quiet_step ((first
        | (go_at_call 126; exact quiet_ext_same (rlen_call n p ws _ (by exact (HR2.out.ext (ExtW.property _)))))
        | (go_at_call 125; exact quiet_ext_drewN (field_at _ 0 (n - 64 * i) _ _ rfl (by omega) (by unfold W64; omega) _)))))
      refine wpQuiet_nil ?_
      intro W3 hW3
      have hX3 : Ext w2 W3 := by obtain ⟨x3, rfl⟩ := hW3; exact x3.property
      clear hW3
      have HX3 := Lib.hid hX3
      clear hX3
      have hB3 : Blk W3 w1.heap.size 233 #[.pointer (some ⟨gd, 0, none⟩), v1', .int .i64 (cntTo (wd ws) (i + 1) : Nat), v3, .int .i64 (cntTo (zw ws n) i : Nat)] := by
        have := hB2.ext HX3.out
        simpa [cntTo] using this
      have hO1 := own_ext hO2 HX3.out
      have h13 := own_ne HC.out.own3 HC.out.blk (by decide)
      have hO3 := own_ext (own_off2 HC.out.own3 hF2 h13 (fun k hk e => HC.out.apart k e.symm hk)) HX3.out
      have HB3 := Lib.hid hB3
      have HO1 := Lib.hid hO1
      have HO3 := Lib.hid hO3
      clear hB3 hO1 hO3
      simp only [List.drop_succ_cons, List.drop_zero]
      go_wp2_with (go_at_call 132; go_loud (refine (note_at (zw ws n i) _ (64 * i) _ (by push_cast; rfl) w1.heap.size w1.heap.size 3 _ v3 _ _ HB3.out rfl rfl HO3.out (Nat.le_trans HX.out.size (Nat.le_trans hF2.size HX3.out.size)) (zw_lt _ _ _) (by have := cntTo_le (zw ws n) i; omega) (by have := listTo_le (zw ws n) i; omega) (by omega)).mono ?_); rintro e w4 ⟨rfl, v3', hB4, hO4, hF4, hN4⟩)
      have hX2 : Below w1.heap.size w1 w2 := Below.trans HX.out (off2_below hF2 (Nat.le_refl _) (fun k e => (HC.out.own1.lt k e).1) HX.out.size)
      have hX3 : Below w1.heap.size w1 W3 := Ext.trans hX2 HX3.out
      have hX4 : Below w1.heap.size w1 w4 := Below.trans hX3 (off2_below hF4 (Nat.le_refl _) (fun k e => (HO3.out.lt k e).1) hX3.size)
      have h1c := own_ne HO1.out HB3.out (by decide)
      have hap : ∀ k, v1'.ownBlock = some k → v3.ownBlock ≠ some k := by
        intro k hk hk3
        rcases hN2 with e | ⟨j, e, hj⟩
        · exact HC.out.apart k (e ▸ hk) hk3
        · have := (HC.out.own3.lt k hk3).2
          rw [hk] at e; cases e; omega
      refine ⟨⟨i + 1, v1', v3', by omega, by go_num, ⟨by simpa [cntTo] using hB4, own_off2 HO1.out hF4 h1c (fun k hk e => hap k hk e.symm), hO4, ?_, Nat.le_refl _⟩, hX4⟩, by simp [intOf]; omega⟩
      intro k hk hk3
      rcases hN4 with e | ⟨j, e, hj⟩
      · exact hap k hk (e ▸ hk3)
      · have := (HO1.out.lt k hk).2
        rw [hk3] at e; cases e; omega
    · go_wp2_with (go_at_call 126; refine (rlen_call n p ws _ (by exact HR.out)).mono ?_; rintro e w' ⟨rfl, rfl⟩)
      go_ret
      obtain rfl : i = (n + 63) / 64 := by omega
      exact ⟨_, _, gd, v1, v3, rfl, HC.out, HD.out.ext HX.out, HX1.out.trans HX.out⟩
end Go.Proofs.Lw
