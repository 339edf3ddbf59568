/- minmax: nodes. minmax: the small functions. minmax: nothing, join, leaf. minmax.leaf. The stretches of a tree's nodes. -/
import Derived.Test.YtaejhdmkjodefaaGreatDoorJParen
import Derived.Test.YtaejhdmkjodefaaGreatDoorJMem
set_option linter.unusedSimpArgs false
set_option linter.unusedVariables false
namespace Go.Proofs.Lw
open Go Go.RowKit

/-- a node, as the words of its floats -/
structure ND where
  sum : Int
  flo : XF
  fhi : XF
  blo : XF
  bhi : XF
def ND.val (d : ND) : Value := .agg #[.int .i64 d.sum, .complex .f64 d.flo.f d.fhi.f, .complex .f64 d.blo.f d.bhi.f]
/-- a list's node -/
def foLo (c : List Bool) : XF := if c = [] then .pinf else .fin (loB c)
def foHi (c : List Bool) : XF := if c = [] then .ninf else .fin (hiB c)
def pmin : List Bool → Int
  | [] => 0
  | [_] => 0
  | b :: c :: r => min 0 (sgn b + pmin (c :: r))
def pmax : List Bool → Int
  | [] => 0
  | [_] => 0
  | b :: c :: r => max 0 (sgn b + pmax (c :: r))
theorem pmin_le (c : List Bool) : pmin c ≤ 0 := by
  cases c with
  | nil => simp [pmin]
  | cons x r => cases r with
    | nil => simp [pmin]
    | cons y t => simp only [pmin]; omega
theorem pmax_ge (c : List Bool) : 0 ≤ pmax c := by
  cases c with
  | nil => simp [pmax]
  | cons x r => cases r with
    | nil => simp [pmax]
    | cons y t => simp only [pmax]; omega
theorem pmin_app (a b : List Bool) (ha : a ≠ []) (hb : b ≠ []) : pmin (a ++ b) = min (pmin a) (exB a + pmin b) := by
  have hp := pmin_le b
  induction a with
  | nil => exact absurd rfl ha
  | cons x r ih =>
    cases r with
    | nil =>
      cases b with
      | nil => exact absurd rfl hb
      | cons y t => simp only [List.cons_append, List.nil_append, pmin, exB]; omega
    | cons y t =>
      have := ih (by simp)
      simp only [List.cons_append] at this ⊢
      simp only [pmin, exB, this]
      simp only [exB] at this ⊢
      omega
theorem pmax_app (a b : List Bool) (ha : a ≠ []) (hb : b ≠ []) : pmax (a ++ b) = max (pmax a) (exB a + pmax b) := by
  have hp := pmax_ge b
  induction a with
  | nil => exact absurd rfl ha
  | cons x r ih =>
    cases r with
    | nil =>
      cases b with
      | nil => exact absurd rfl hb
      | cons y t => simp only [List.cons_append, List.nil_append, pmax, exB]; omega
    | cons y t =>
      have := ih (by simp)
      simp only [List.cons_append] at this ⊢
      simp only [pmax, exB, this]
      simp only [exB] at this ⊢
      omega
theorem pmin_eq (c : List Bool) (h : 2 ≤ c.length) : pmin c = min 0 (loB c.dropLast) := by
  induction c with
  | nil => simp at h
  | cons x r ih =>
    cases r with
    | nil => simp at h
    | cons y t =>
      cases t with
      | nil => simp [pmin, loB]
      | cons z u =>
        have := ih (by simp)
        simp only [List.dropLast_cons_cons, pmin, loB] at this ⊢
        omega
theorem pmax_eq (c : List Bool) (h : 2 ≤ c.length) : pmax c = max 0 (hiB c.dropLast) := by
  induction c with
  | nil => simp at h
  | cons x r ih =>
    cases r with
    | nil => simp at h
    | cons y t =>
      cases t with
      | nil => simp [pmax, hiB]
      | cons z u =>
        have := ih (by simp)
        simp only [List.dropLast_cons_cons, pmax, hiB] at this ⊢
        omega
def baLo (c : List Bool) : XF := if c = [] then .pinf else .fin (pmin c)
def baHi (c : List Bool) : XF := if c = [] then .ninf else .fin (pmax c)
def ndOf (c : List Bool) : ND := ⟨exB c, foLo c, foHi c, baLo c, baHi c⟩
def ND.join (a b : ND) : ND := ⟨a.sum + b.sum, XF.mn a.flo (b.flo.sh a.sum), XF.mx a.fhi (b.fhi.sh a.sum), XF.mn a.blo (b.blo.sh a.sum), XF.mx a.bhi (b.bhi.sh a.sum)⟩
theorem XF.mn_pinf (x : XF) : XF.mn x .pinf = x := by cases x <;> rfl
theorem XF.pinf_mn (x : XF) : XF.mn .pinf x = x := by cases x <;> rfl
theorem XF.mx_ninf (x : XF) : XF.mx x .ninf = x := by cases x <;> rfl
theorem XF.ninf_mx (x : XF) : XF.mx .ninf x = x := by cases x <;> rfl
theorem XF.sh0 (x : XF) : x.sh 0 = x := by cases x <;> simp [XF.sh]
theorem nd_nil : ndOf [] = ⟨0, .pinf, .ninf, .pinf, .ninf⟩ := rfl
theorem nd_app (a b : List Bool) : ndOf (a ++ b) = (ndOf a).join (ndOf b) := by
  by_cases ha : a = []
  · subst ha
    simp only [List.nil_append, nd_nil, ND.join, Int.zero_add, XF.pinf_mn, XF.ninf_mx, XF.sh0]
  · by_cases hb : b = []
    · subst hb
      simp only [List.append_nil, nd_nil, ND.join, Int.add_zero, XF.sh, XF.mn_pinf, XF.mx_ninf]
    · have hab : a ++ b ≠ [] := by simp [ha]
      have hA := pmin_app a b ha hb
      have hB := pmax_app a b ha hb
      have hC := loB_app a b ha hb
      have hD := hiB_app a b ha hb
      simp only [ndOf, ND.join, foLo, foHi, baLo, baHi, if_neg ha, if_neg hb, if_neg hab, hA, hB, hC, hD, exB_app, XF.sh, XF.mn, XF.mx, Int.add_comm (exB a)]
end Go.Proofs.Lw
namespace Go.Proofs.Lw
open Go Go.RowKit

theorem moved_call (x y : XF) (e : Int) (w : World) (h1 : x.lt (2 ^ 52)) (h2 : y.lt (2 ^ 52)) (h5 : e.natAbs < 2 ^ 51) :
    Calls Tryz.prog 172 #[.complex .f64 x.f y.f, .int .i64 e] w fun r w' => r = .returned (.complex .f64 (x.sh e).f (y.sh e).f) ∧ w = w' := by
  have hc := conv_float e
  have hm := mk_complex
  have ha := XF.run_add (P := Tryz.prog) (x := x) (y := y) h1 h2 e (by omega)
  clear h1 h2
  generalize (x.sh e).f = g1 at *
  generalize (y.sh e).f = g2 at *
  go_enter Tryz.func172, Tryz.ntmps172
  go_wp2
  go_ret
  exact ⟨rfl, rfl⟩
theorem both_call (x y u v : XF) (w : World) (h1 : x.lt (2 ^ 53)) (h2 : y.lt (2 ^ 53)) (h3 : u.lt (2 ^ 53)) (h4 : v.lt (2 ^ 53)) :
    Calls Tryz.prog 171 #[.complex .f64 x.f y.f, .complex .f64 u.f v.f] w fun r w' => r = .returned (.complex .f64 (XF.mn x u).f (XF.mx y v).f) ∧ w = w' := by
  have hm := mk_complex
  have hn := XF.run_min (P := Tryz.prog) h1 h3
  have hx := XF.run_max (P := Tryz.prog) h2 h4
  clear h1 h2 h3 h4
  go_enter Tryz.func171, Tryz.ntmps171
  go_wp2
  go_ret
  exact ⟨rfl, rfl⟩
theorem frombits (n : Nat) (w : World) : (callFunc 287 #[.int .u64 n]).run Tryz.prog w = .ok (.value (.float .f64 n)) w := by kernel_rfl
theorem frombits_inf (w : World) : (callFunc 287 #[.int .u64 9218868437227405312]).run Tryz.prog w = .ok (.value (.float .f64 pinf)) w := by kernel_rfl
theorem frombits_ninf (w : World) : (callFunc 287 #[.int .u64 18442240474082181120]).run Tryz.prog w = .ok (.value (.float .f64 ninf)) w := by kernel_rfl
theorem inf_call (n : Int) (w : World) :
    Calls Tryz.prog 222 #[.int .i64 n] w fun r w' => r = .returned (.float .f64 (if 0 ≤ n then pinf else ninf)) ∧ w = w' := by
  have h1 := frombits_inf
  have h2 := frombits_ninf
  have HP : Hid (0 ≤ n → (if 0 ≤ n then pinf else ninf) = pinf) := Lib.hid fun h => if_pos h
  have HN : Hid (¬ 0 ≤ n → (if 0 ≤ n then pinf else ninf) = ninf) := Lib.hid fun h => if_neg h
  generalize (if 0 ≤ n then pinf else ninf) = r at *
  generalize pinf = p at *
  generalize ninf = q at *
  by_cases h : 0 ≤ n
  · go_enter Tryz.func222, Tryz.ntmps222
    go_wp2
    go_ret
    exact ⟨by rw [HP.out h]; rfl, rfl⟩
  · go_enter Tryz.func222, Tryz.ntmps222
    go_wp2
    go_ret
    exact ⟨by rw [HN.out h]; rfl, rfl⟩
end Go.Proofs.Lw
namespace Go.Proofs.Lw
open Go Go.RowKit

theorem nothing_call (w : World) : Calls Tryz.prog 168 #[] w fun r w' => r = .returned (.complex .f64 (XF.pinf).f (XF.ninf).f) ∧ w = w' := by
  have hm := mk_complex
  have h1 := Lib.hid (fun W => inf_call 1 W)
  have h2 := Lib.hid (fun W => inf_call (-1) W)
  rw [if_pos (by decide)] at h1
  rw [if_neg (by decide)] at h2
  show Calls Tryz.prog 168 #[] w fun r w' => r = .returned (.complex .f64 pinf ninf) ∧ w = w'
  generalize pinf = p at *
  generalize ninf = q at *
  go_enter Tryz.func168, Tryz.ntmps168
  go_wp2_with (first
    | (go_at_call 222; refine (h1.out _).mono ?_; rintro e w' ⟨rfl, rfl⟩; clear h1)
    | (go_at_call 222; refine (h2.out _).mono ?_; rintro e w' ⟨rfl, rfl⟩))
  go_ret
  exact ⟨rfl, rfl⟩

theorem store_complex (a : Addr) (m : Mode) (x y : Nat) (w : World) : (store a (.complex .f64 x y) m).run Tryz.prog w = stored Tryz.prog w a (.complex .f64 x y) m := run_store Tryz.prog w a _ m rfl
/-- the floats of a node are small -/
structure ND.lt (d : ND) (B : Nat) : Prop where
  s : d.sum.natAbs < B
  a : d.flo.lt B
  b : d.fhi.lt B
  c : d.blo.lt B
  d : d.bhi.lt B
theorem XF.lt_mono {x : XF} {B C : Nat} (h : x.lt B) (hBC : B ≤ C) : x.lt C := fun n hn => Nat.lt_of_lt_of_le (h n hn) hBC

set_option maxHeartbeats 1000000 in
theorem join_call (a b : ND) (w : World) (ha : a.lt (2 ^ 50)) (hb : b.lt (2 ^ 50)) :
    Calls Tryz.prog 129 #[a.val, b.val] w fun r w' => r = .returned (a.join b).val ∧ Ext w w' := by
  obtain ⟨s1, a1, b1, c1, d1⟩ := ha
  obtain ⟨s2, a2, b2, c2, d2⟩ := hb
  have hM1 := Lib.hid (fun W => moved_call b.flo b.fhi a.sum W (XF.lt_mono a2 (by decide)) (XF.lt_mono b2 (by decide)) (by omega))
  have hM2 := Lib.hid (fun W => moved_call b.blo b.bhi a.sum W (XF.lt_mono c2 (by decide)) (XF.lt_mono d2 (by decide)) (by omega))
  have hB1 := Lib.hid (fun W => both_call a.flo a.fhi (b.flo.sh a.sum) (b.fhi.sh a.sum) W (XF.lt_mono a1 (by decide)) (XF.lt_mono b1 (by decide)) (XF.sh_lt a2 s1 (by decide)) (XF.sh_lt b2 s1 (by decide)))
  have hB2 := Lib.hid (fun W => both_call a.blo a.bhi (b.blo.sh a.sum) (b.bhi.sh a.sum) W (XF.lt_mono c1 (by decide)) (XF.lt_mono d1 (by decide)) (XF.sh_lt c2 s1 (by decide)) (XF.sh_lt d2 s1 (by decide)))
  clear a1 b1 c1 d1 a2 b2 c2 d2
  unfold ND.val ND.join
  simp only
  generalize (b.flo.sh a.sum) = m1 at *
  generalize (b.fhi.sh a.sum) = m2 at *
  generalize (b.blo.sh a.sum) = m3 at *
  generalize (b.bhi.sh a.sum) = m4 at *
  generalize (XF.mn a.flo m1).f = r1 at *
  generalize (XF.mx a.fhi m2).f = r2 at *
  generalize (XF.mn a.blo m3).f = r3 at *
  generalize (XF.mx a.bhi m4).f = r4 at *
  generalize m1.f = m1 at *
  generalize m2.f = m2 at *
  generalize m3.f = m3 at *
  generalize m4.f = m4 at *
  generalize a.flo.f = e1 at *
  generalize a.fhi.f = e2 at *
  generalize a.blo.f = e3 at *
  generalize a.bhi.f = e4 at *
  generalize b.flo.f = f1 at *
  generalize b.fhi.f = f2 at *
  generalize b.blo.f = f3 at *
  generalize b.bhi.f = f4 at *
  generalize a.sum = sa at *
  generalize b.sum = sb at *
  have hs : IntKind.i64.wrap (sa + sb) = sa + sb := IntWalk.i64_in _ (by omega)
  go_enter Tryz.func129, Tryz.ntmps129
  go_wp2_with fail
  refine wp_region_quiet_tail (C := fun w' => ∃ m, w' = (((w.alloc (.cells #[.int .i64 sa, .complex .f64 e1 e2, .complex .f64 e3 e4] 224)).alloc (.cells #[.int .i64 sb, .complex .f64 f1 f2, .complex .f64 f3 f4] 224)).alloc (.cells #[.int .i64 0, .complex .f64 0 0, .complex .f64 0 0] 224)).drewN m) 22 (by kernel_rfl) (by kernel_rfl) ⟨1, rfl⟩ ?_
  simp only [List.take_succ_cons, List.take_zero]
  repeat (quiet_step ((first
    | (go_at_call 172; with_reducible exact Calls.quiet_left (hM1.out _))
    | (go_at_call 172; with_reducible exact Calls.quiet_left (hM2.out _))
    | (go_at_call 171; with_reducible exact Calls.quiet_left (hB1.out _))
    | (go_at_call 171; with_reducible exact Calls.quiet_left (hB2.out _)))))
  refine wpQuiet_nil ?_
  rintro W3 ⟨m, rfl⟩
  simp only [List.drop_succ_cons, List.drop_zero]
  have hst := store_complex
  go_wp2_with fail
  have hB := Blk.new ((w.alloc (.cells #[.int .i64 sa, .complex .f64 e1 e2, .complex .f64 e3 e4] 224)).alloc (.cells #[.int .i64 sb, .complex .f64 f1 f2, .complex .f64 f3 f4] 224)) 224 #[.int .i64 0, .complex .f64 0 0, .complex .f64 0 0]
  have hX : Ext w ((((w.alloc (.cells #[.int .i64 sa, .complex .f64 e1 e2, .complex .f64 e3 e4] 224)).alloc (.cells #[.int .i64 sb, .complex .f64 f1 f2, .complex .f64 f3 f4] 224)).alloc (.cells #[.int .i64 0, .complex .f64 0 0, .complex .f64 0 0] 224)).drewN m) :=
    Ext.trans (Ext.trans (Ext.trans (Ext.alloc _ _) (Ext.alloc _ _)) (Ext.alloc _ _)) (Ext.drewN _ m)
  rw [World.size_alloc, World.size_alloc] at hB
  generalize ((w.alloc (.cells #[.int .i64 sa, .complex .f64 e1 e2, .complex .f64 e3 e4] 224)).alloc (.cells #[.int .i64 sb, .complex .f64 f1 f2, .complex .f64 f3 f4] 224)).alloc (.cells #[.int .i64 0, .complex .f64 0 0, .complex .f64 0 0] 224) = W at *
  have hB' : Blk (W.drewN m) (w.heap.size + 1 + 1) 224 #[.int .i64 0, .complex .f64 0 0, .complex .f64 0 0] := hB
  have hB3 := ((hB'.set_ 0 (.int .i64 (sa + sb))).set_ 1 (.complex .f64 r1 r2)).set_ 2 (.complex .f64 r3 r4)
  refine bodyPost_ret (results_cell_row (P := Tryz.prog) rfl _ _ (w.heap.size + 1 + 1) 224 _ (0, 0) _ rfl hB3 Tryz.underlying224 rfl (by kernel_rfl)) rfl ⟨rfl, ?_⟩
  exact ((Below.setCell hX (p := ⟨_, 0, none⟩) (Nat.le_succ_of_le (Nat.le_succ _)) _).setCell (p := ⟨_, 1, none⟩) (Nat.le_succ_of_le (Nat.le_succ _)) _).setCell (p := ⟨_, 2, none⟩) (Nat.le_succ_of_le (Nat.le_succ _)) _
end Go.Proofs.Lw
namespace Go.Proofs.Lw
open Go Go.RowKit

theorem f0 : (XF.fin 0).f = 0 := fl_zero
theorem seg_dropLast (bs : List Bool) (a b : Nat) (h : a < b) (hb : b ≤ bs.length) : (seg bs a b).dropLast = seg bs a (b - 1) := by
  have h2 := seg_app bs a (b - 1) b (by omega) (by omega) hb
  have hl := seg_len bs (b - 1) b hb
  rw [h2]
  obtain ⟨x, hx⟩ := List.length_eq_one_iff.1 (by rw [hl]; omega : (seg bs (b - 1) b).length = 1)
  rw [hx, List.dropLast_concat]
theorem endA_of (bs : List Bool) (a : Nat) (h : a ≤ bs.length) : endA bs a = a := by unfold endA; omega
theorem endB_of (bs : List Bool) (a b : Nat) (h : a ≤ b) (hb : b ≤ bs.length) : endB bs a b = b := by unfold endB endA; omega
theorem pexcess_at (p : Addr) (bs : List Bool) (a b : Nat) (w : World) (h : RowB w p bs) (hb : bs.length ≤ 1073741824) (hab : a ≤ b) (hbl : b ≤ bs.length) :
    Calls Tryz.prog 169 #[.pointer (some p), .int .i64 a, .int .i64 b] w fun e w' => e = .returned (.int .i64 (exB (seg bs a b))) ∧ ∃ q, w' = w.drewN q := by
  have := pexcess_call p bs a b w h hb
  rwa [endB_of bs a b hab hbl, endA_of bs a (by omega)] at this
theorem preach_at (p : Addr) (bs : List Bool) (a b : Nat) (bi : Int) (hbi : bi = b) (w : World) (h : RowB w p bs) (hb : bs.length ≤ 1073741824) (hab : a < b) (hbl : b ≤ bs.length) :
    Calls Tryz.prog 170 #[.pointer (some p), .int .i64 a, .int .i64 bi] w fun e w' => e = .returned (.complex .f64 (XF.fin (loB (seg bs a b))).f (XF.fin (hiB (seg bs a b))).f) ∧ ∃ q, w' = w.drewN q := by
  subst hbi
  have := preach_call p bs a b w h hb
  rw [endB_of bs a b (by omega) hbl, endA_of bs a (by omega)] at this
  have hn := seg_ne bs a b hab hbl
  rwa [reLoB, reHiB, if_neg hn, if_neg hn] at this

theorem Ext.set {w W : World} (h : Ext w W) {g i : Nat} (hg : w.heap.size ≤ g) (v : Value) : Ext w (W.setCell ⟨g, i, none⟩ v) := Below.setCell h (p := ⟨g, i, none⟩) hg v
theorem Blk.other {w : World} {g g' i : Nat} {t : TypeId} {cs : Array Value} (h : Blk w g t cs) (hne : g ≠ g') (v : Value) : Blk (w.setCell ⟨g', i, none⟩ v) g t cs := (Below.heap_setCell w ⟨g', i, none⟩ v g hne).trans h
theorem Blk.drewN {w : World} {g : Nat} {t : TypeId} {cs : Array Value} (h : Blk w g t cs) (n : Nat) : Blk (w.drewN n) g t cs := h
set_option maxHeartbeats 1000000 in
theorem leaf_call (p : Addr) (bs : List Bool) (a : Nat) (w : World) (h : RowB w p bs) (hb : bs.length ≤ 1073741824) (ha : a ≤ 2147483648) :
    Calls Tryz.prog 128 #[.pointer (some p), .int .i64 a] w fun r w' => r = .returned (ndOf (seg bs a (min (a + 512) bs.length))).val ∧ Ext w w' := by
  have hst := store_complex
  by_cases hla : bs.length ≤ a
  · have hsg : seg bs a (min (a + 512) bs.length) = [] := by unfold seg; rw [List.drop_eq_nil_of_le hla, List.take_nil]
    rw [hsg, nd_nil]
    unfold ND.val
    have HN := Lib.hid nothing_call
    have HL := Lib.hid (fun W hW => rowlen_call p bs W hW)
    have H := Lib.hid h
    simp only
    generalize (XF.pinf).f = pf at *
    generalize (XF.ninf).f = nf at *
    clear h hsg
    have e1 : min ((a : Int) + 512) bs.length = bs.length := by omega
    go_enter Tryz.func128, Tryz.ntmps128
    go_wp2_with (first
      | (go_at_call 126; refine (HL.out _ (H.out.ext (Ext.alloc _ _))).mono ?_; rintro e w' ⟨rfl, rfl⟩)
      | (go_at_call 168; refine (HN.out _).mono ?_; rintro e w' ⟨rfl, rfl⟩))
    refine bodyPost_ret (results_cell_row (P := Tryz.prog) rfl _ _ w.heap.size 224 _ (0, 0) _ rfl (Blk.new _ _ _) Tryz.underlying224 rfl (by kernel_rfl)) rfl ⟨rfl, Ext.alloc _ _⟩
  · obtain ⟨b, hbd⟩ : ∃ b, b = min (a + 512) bs.length := ⟨_, rfl⟩
    have hb1 : a < b ∧ b ≤ bs.length ∧ b ≤ a + 512 := by omega
    obtain ⟨hb1, hb2, hb3⟩ := hb1
    have e1 : min ((a : Int) + 512) bs.length = (b : Nat) := by omega
    rw [← hbd]
    clear hbd
    have hne := seg_ne bs a b hb1 hb2
    have hlen := seg_len bs a b hb2
    have HL := Lib.hid (fun W hW => rowlen_call p bs W hW)
    have H := Lib.hid h
    have HX := Lib.hid (fun W hW => pexcess_at p bs a b W hW hb (by omega) hb2)
    have HR := Lib.hid (fun W hW => preach_at p bs a b _ rfl W hW hb hb1 hb2)
    have bl := loB_bd _ hne
    have bh := hiB_bd _ hne
    unfold ndOf ND.val foLo foHi baLo baHi
    simp only [if_neg hne]
    by_cases h1 : b = a + 1
    · subst h1
      obtain ⟨x, hx⟩ := List.length_eq_one_iff.1 (by rw [hlen]; omega : (seg bs a (a + 1)).length = 1)
      have hp : pmin (seg bs a (a + 1)) = 0 ∧ pmax (seg bs a (a + 1)) = 0 := by rw [hx]; exact ⟨rfl, rfl⟩
      rw [hp.1, hp.2, f0]
      clear hp hx hne hlen bl bh h
      generalize exB (seg bs a (a + 1)) = ex at *
      generalize (XF.fin (loB (seg bs a (a + 1)))).f = lo at *
      generalize (XF.fin (hiB (seg bs a (a + 1)))).f = hi at *
      go_enter Tryz.func128, Tryz.ntmps128
      go_wp2_with (first
        | (go_at_call 126; refine (HL.out _ (H.out.ext (Ext.alloc _ _))).mono ?_; rintro e w' ⟨rfl, rfl⟩)
        | (go_at_call 169; refine (HX.out _ (H.out.ext (Ext.alloc _ _))).mono ?_; rintro e w' ⟨rfl, q, rfl⟩)
        | (go_at_call 170; refine (HR.out _ (H.out.ext (Ext.trans (Ext.alloc _ _) (Ext.drewN _ _)))).mono ?_; rintro e w' ⟨rfl, q2, rfl⟩))
      refine bodyPost_ret (results_cell_row (P := Tryz.prog) rfl _ _ w.heap.size 224 _ (0, 0) _ rfl (((((Blk.drewN (Blk.new _ _ _) _).set_ 0 _).set_ 1 _).set_ 2 _).ext (Ext.alloc _ _)) Tryz.underlying224 rfl (by kernel_rfl)) rfl ⟨rfl, ?_⟩
      exact Ext.trans (Ext.set (Ext.set (Ext.set (Ext.trans (Ext.alloc _ _) (Ext.drewN _ _)) (Nat.le_refl _) _) (Nat.le_refl _) _) (Nat.le_refl _) _) (Ext.alloc _ _)
    · have hne2 := seg_ne bs a (b - 1) (by omega) (by omega)
      have hlen2 := seg_len bs a (b - 1) (by omega)
      have hp1 : pmin (seg bs a b) = min 0 (loB (seg bs a (b - 1))) := by rw [pmin_eq _ (by omega), seg_dropLast bs a b hb1 hb2]
      have hp2 : pmax (seg bs a b) = max 0 (hiB (seg bs a (b - 1))) := by rw [pmax_eq _ (by omega), seg_dropLast bs a b hb1 hb2]
      have bl2 := loB_bd _ hne2
      have bh2 := hiB_bd _ hne2
      rw [hlen2] at bl2 bh2
      have hbi : (b : Int) - 1 = ((b - 1 : Nat) : Int) := by omega
      have HR2 := Lib.hid (fun W hW => preach_at p bs a (b - 1) ((b : Int) - 1) hbi W hW hb (by omega) (by omega))
      have HBo := Lib.hid (fun W => both_call (XF.fin 0) (XF.fin 0) (XF.fin (loB (seg bs a (b - 1)))) (XF.fin (hiB (seg bs a (b - 1)))) W (fin_lt (B := 1073741824) (by omega) (by decide)) (fin_lt (B := 1073741824) (by omega) (by decide)) (fin_lt (B := 1073741824) (by omega) (by decide)) (fin_lt (B := 1073741824) (by omega) (by decide)))
      rw [f0] at HBo
      have em : XF.mn (XF.fin 0) (XF.fin (loB (seg bs a (b - 1)))) = XF.fin (pmin (seg bs a b)) := by rw [hp1]; rfl
      have ex : XF.mx (XF.fin 0) (XF.fin (hiB (seg bs a (b - 1)))) = XF.fin (pmax (seg bs a b)) := by rw [hp2]; rfl
      rw [em, ex] at HBo
      clear em ex hp1 hp2 bl bh bl2 bh2 hne hne2 hlen hlen2 h hbi
      generalize exB (seg bs a b) = ex at *
      generalize (XF.fin (loB (seg bs a b))).f = lo at *
      generalize (XF.fin (hiB (seg bs a b))).f = hi at *
      generalize (XF.fin (pmin (seg bs a b))).f = plo at *
      generalize (XF.fin (pmax (seg bs a b))).f = phi at *
      generalize (XF.fin (loB (seg bs a (b - 1)))).f = lo1 at *
      generalize (XF.fin (hiB (seg bs a (b - 1)))).f = hi1 at *
      go_enter Tryz.func128, Tryz.ntmps128
      go_wp2_with (first
        | (go_at_call 126; refine (HL.out _ (H.out.ext (Ext.alloc _ _))).mono ?_; rintro e w' ⟨rfl, rfl⟩)
        | (go_at_call 169; refine (HX.out _ (H.out.ext (Ext.alloc _ _))).mono ?_; rintro e w' ⟨rfl, q, rfl⟩)
        | (go_at_call 170; refine (HR.out _ (H.out.ext (Ext.trans (Ext.alloc _ _) (Ext.drewN _ _)))).mono ?_; rintro e w' ⟨rfl, q2, rfl⟩; clear HR)
        | (go_at_call 170; refine (HR2.out _ (H.out.ext (Ext.trans (Ext.trans (Ext.alloc _ _) (Ext.drewN _ _)) (Ext.alloc _ _)))).mono ?_; rintro e w' ⟨rfl, q3, rfl⟩)
        | (go_at_call 171; refine (HBo.out _).mono ?_; rintro e w' ⟨rfl, rfl⟩))
      refine bodyPost_ret (results_cell_row (P := Tryz.prog) rfl _ _ w.heap.size 224 _ (0, 0) _ rfl (((((Blk.drewN ((Blk.drewN (Blk.new _ _ _) _).ext (Ext.alloc _ _)) _).other (by omega) _).set_ 0 _).set_ 1 _).set_ 2 _) Tryz.underlying224 rfl (by kernel_rfl)) rfl ⟨rfl, ?_⟩
      exact Ext.set (Ext.set (Ext.set (Ext.set (Ext.trans (Ext.trans (Ext.trans (Ext.alloc _ _) (Ext.drewN _ _)) (Ext.alloc _ _)) (Ext.drewN _ _)) (Nat.le_succ _) _) (Nat.le_refl _) _) (Nat.le_refl _) _) (Nat.le_refl _) _
end Go.Proofs.Lw
namespace Go.Proofs.Lw
open Go Go.RowKit

/-- a node's stretch: f leaves of 512 bits -/
def blk (bs : List Bool) (i : Nat) : List Bool := seg bs (512 * i) (min (512 * i + 512) bs.length)
def tseg (bs : List Bool) (f k : Nat) : List Bool :=
  if f ≤ k ∨ k = 0 then blk bs (k - f) else tseg bs f (2 * k) ++ tseg bs f (2 * k + 1)
termination_by f - k

theorem blk_eq (bs : List Bool) (m : Nat) : blk bs m = seg bs (min (512 * m) bs.length) (min (512 * (m + 1)) bs.length) := by
  unfold blk
  by_cases h : 512 * m ≤ bs.length
  · rw [Nat.min_eq_left h, Nat.mul_add]
  · rw [Nat.min_eq_right (by omega), Nat.min_eq_right (by omega), Nat.min_eq_right (by omega)]
    unfold seg
    rw [List.drop_eq_nil_of_le (by omega), List.take_nil, Nat.sub_self, List.take_zero]
theorem tseg_eq (bs : List Bool) (K : Nat) : ∀ e d m, d + e = K → m < 2 ^ d → tseg bs (2 ^ K) (2 ^ d + m) = seg bs (min (512 * (m * 2 ^ e)) bs.length) (min (512 * ((m + 1) * 2 ^ e)) bs.length) := by
  intro e
  induction e with
  | zero =>
    intro d m hd hm
    obtain rfl : d = K := by omega
    rw [tseg, if_pos (.inl (by omega)), show 2 ^ d + m - 2 ^ d = m by omega, blk_eq]
    simp
  | succ e ih =>
    intro d m hd hm
    have h1 : 2 ^ (d + 1) ≤ 2 ^ K := Nat.pow_le_pow_right (by omega) (by omega)
    have h0 : 0 < 2 ^ d := Nat.pow_pos (by omega)
    rw [Nat.pow_succ] at h1
    rw [tseg, if_neg (by omega)]
    have e1 : 2 * (2 ^ d + m) = 2 ^ (d + 1) + 2 * m := by rw [Nat.pow_succ]; omega
    have e2 : 2 * (2 ^ d + m) + 1 = 2 ^ (d + 1) + (2 * m + 1) := by rw [Nat.pow_succ]; omega
    rw [e2, e1, ih (d + 1) (2 * m) (by omega) (by rw [Nat.pow_succ]; omega), ih (d + 1) (2 * m + 1) (by omega) (by rw [Nat.pow_succ]; omega)]
    have p1 : 2 * m * 2 ^ e = m * 2 ^ (e + 1) := by rw [Nat.pow_succ, Nat.mul_comm 2 m, Nat.mul_assoc, Nat.mul_comm 2]
    have p3 : (2 * m + 1 + 1) * 2 ^ e = (m + 1) * 2 ^ (e + 1) := by rw [show 2 * m + 1 + 1 = (m + 1) * 2 by omega, Nat.pow_succ, Nat.mul_assoc, Nat.mul_comm 2]
    have q1 : 2 * m * 2 ^ e ≤ (2 * m + 1) * 2 ^ e := Nat.mul_le_mul_right _ (by omega)
    have q2 : (2 * m + 1) * 2 ^ e ≤ (2 * m + 1 + 1) * 2 ^ e := Nat.mul_le_mul_right _ (by omega)
    rw [← p1, ← p3]
    exact (seg_app bs _ (min (512 * ((2 * m + 1) * 2 ^ e)) bs.length) _ (by omega) (by omega) (by omega)).symm
theorem tseg_root (bs : List Bool) (K : Nat) (h : bs.length ≤ 512 * 2 ^ K) : tseg bs (2 ^ K) 1 = bs := by
  have := tseg_eq bs K K 0 0 (by omega) (by simp)
  rw [Nat.pow_zero, Nat.add_zero] at this
  rw [this]
  simp only [Nat.zero_mul, Nat.mul_zero, Nat.zero_min, Nat.zero_add, Nat.one_mul]
  rw [Nat.min_eq_right h]
  simp [seg]
theorem tseg_len (bs : List Bool) (K k : Nat) (h1 : 1 ≤ k) (h2 : k < 2 * 2 ^ K) : (tseg bs (2 ^ K) k).length ≤ bs.length := by
  have hl := Nat.log2_self_le (show k ≠ 0 by omega)
  have hu := Nat.lt_log2_self (n := k)
  have hK : k.log2 < K + 1 := (Nat.pow_lt_pow_iff_right (a := 2) (by omega)).1 (by rw [Nat.pow_succ] at *; omega)
  have := tseg_eq bs K (K - k.log2) k.log2 (k - 2 ^ k.log2) (by omega) (by rw [Nat.pow_succ] at hu; omega)
  rw [show 2 ^ k.log2 + (k - 2 ^ k.log2) = k by omega] at this
  rw [this, seg_len _ _ _ (by omega)]
  omega
theorem nd_lt (c : List Bool) (h : c.length ≤ 1073741824) : (ndOf c).lt (2 ^ 50) := by
  have b1 := exB_bd c
  by_cases hc : c = []
  · subst hc
    exact ⟨by simp [ndOf, exB], (fun n hn => by cases hn), (fun n hn => by cases hn), (fun n hn => by cases hn), (fun n hn => by cases hn)⟩
  · have b2 := loB_bd c hc
    have b3 := hiB_bd c hc
    have b4 : -(c.length : Int) ≤ pmin c ∧ pmin c ≤ 0 := by
      refine ⟨?_, pmin_le c⟩
      by_cases h2 : 2 ≤ c.length
      · rw [pmin_eq c h2]
        have hd : c.dropLast ≠ [] := by intro e; have := congrArg List.length e; simp at this; omega
        have := loB_bd _ hd
        rw [List.length_dropLast] at this
        omega
      · have := List.length_pos_iff.2 hc
        obtain ⟨x, rfl⟩ := List.length_eq_one_iff.1 (show c.length = 1 by omega)
        simp [pmin]
    have b5 : 0 ≤ pmax c ∧ pmax c ≤ c.length := by
      refine ⟨pmax_ge c, ?_⟩
      by_cases h2 : 2 ≤ c.length
      · rw [pmax_eq c h2]
        have hd : c.dropLast ≠ [] := by intro e; have := congrArg List.length e; simp at this; omega
        have := hiB_bd _ hd
        rw [List.length_dropLast] at this
        omega
      · have := List.length_pos_iff.2 hc
        obtain ⟨x, rfl⟩ := List.length_eq_one_iff.1 (show c.length = 1 by omega)
        simp [pmax]
    refine ⟨by simp only [ndOf]; omega, ?_, ?_, ?_, ?_⟩ <;> simp only [ndOf, foLo, foHi, baLo, baHi, if_neg hc]
    · exact fin_lt (B := 1073741824) (by omega) (by decide)
    · exact fin_lt (B := 1073741824) (by omega) (by decide)
    · exact fin_lt (B := 1073741824) (by omega) (by decide)
    · exact fin_lt (B := 1073741824) (by omega) (by decide)
end Go.Proofs.Lw
