/- Words for memory: blocks known whole, rows, jumps back to several labels; extension of a world. No program in sight but its types' numbers. Plain laws on float64 at small whole numbers: sums, order, and what stands for them. No program in sight. The walks of math/bits' and word's functions: each comes to its plain function. Plain laws on bits of words: how many are 1; OnesCount64's steps come to that. No program in sight. word's functions again, by plain numbers; Reach and Find. A region that draws its order: operations that are quiet in a class of worlds, and behind them a tail whose order is forced. -/
import Derived.Test.YtaejhdmkjodefaaGreatDoorProg
import Derived.Below
import Derived.Deep.Draws
import Derived.Deep.AppendLies
import Derived.OwnWalk
import Derived.Laws.OwnMore
import Derived.Tactics
import Derived.WalkKit
import Derived.KernelRfl
import Derived.Deep.QuietTactic
import Derived.BigQuiet
import Derived.Deep.DeepCutAuto
import Derived.Deep.LoopGhost
import Derived.Lib.Hide
import Derived.ScopeJumps
import Derived.Deep.DeepFit
import Derived.WideLaws
import Derived.Maps.AppendAt
import GoSem.Core.Float
import Derived.StillTail
set_option linter.unusedSimpArgs false
set_option linter.unusedVariables false
namespace Go.Proofs.Lw
open Go Go.RowKit

theorem ret_int {k : IntKind} {a b : Int} (h : a = b) : Ending.returned (.int k a) = .returned (.int k b) := by rw [h]
theorem ret_bool {a b : Bool} (h : a = b) : Ending.returned (.bool a) = .returned (.bool b) := by rw [h]

/-- whatever was there is there, and as it was -/
abbrev Ext (w w' : World) : Prop := Below w.heap.size w w'
theorem Ext.refl (w : World) : Ext w w := Below.refl _ _
theorem Ext.trans {a b c : World} (h : Ext a b) (k : Ext b c) : Ext a c := Below.trans h (k.mono h.size)
theorem Ext.alloc (w : World) (o : Obj) : Ext w (w.alloc o) := (Below.refl _ _).alloc (Nat.le_refl _) o
theorem Ext.drewN (w : World) (n : Nat) : Ext w (w.drewN n) := ⟨rfl, rfl, rfl, Nat.le_refl _, fun _ _ => rfl⟩
theorem Ext.cell {w w' : World} (h : Ext w w') {p : Addr} {v : Value} (hc : w.cell? p = some v) : w'.cell? p = some v := by
  rcases Nat.lt_or_ge p.block w.heap.size with hlt | hge
  · exact (Below.cell h hlt).trans hc
  · unfold World.cell? at hc
    rw [Array.getElem?_eq_none hge] at hc
    cases hc

theorem Calls.quiet_left {P : Program} {f : FuncId} {args : Array Value} {w : World} {n : Nat} {v : Value}
    (h : Calls P f args (w.drewN n) fun e w' => e = .returned v ∧ w.drewN n = w') : Calls P f args (w.drewN n) fun e w'' => e = .returned v ∧ ∃ m, w'' = w.drewN m :=
  h.mono fun _ _ ⟨he, hm⟩ => ⟨he, n, hm.symm⟩
theorem Calls.quiet_add_left {P : Program} {f : FuncId} {args : Array Value} {w : World} {a n : Nat} {v : Value}
    (h : Calls P f args (w.drewN (a + n)) fun e w' => e = .returned v ∧ w.drewN (a + n) = w') :
    Calls P f args (w.drewN (a + n)) fun e w'' => e = .returned v ∧ ∃ m, w'' = w.drewN (a + m) :=
  h.mono fun _ _ ⟨he, hm⟩ => ⟨he, n, hm.symm⟩
theorem Calls.quiet_add {P : Program} {f : FuncId} {args : Array Value} {w : World} {a n : Nat} {v : Value}
    (h : Calls P f args (w.drewN (a + n)) fun e w' => e = .returned v ∧ ∃ m, w' = (w.drewN (a + n)).drewN m) :
    Calls P f args (w.drewN (a + n)) fun e w'' => e = .returned v ∧ ∃ m, w'' = w.drewN (a + m) :=
  h.mono fun _ _ ⟨he, m, hm⟩ => ⟨he, n + m, by rw [hm, World.drewN_drewN, Nat.add_assoc]⟩

/-- block g is just these cells -/
def Blk (w : World) (g : Nat) (t : TypeId) (cs : Array Value) : Prop := w.heap[g]? = some (.cells cs t (0, 0))
section
variable {w w' : World} {g : Nat} {t : TypeId} {cs : Array Value}
theorem Blk.lt (h : Blk w g t cs) : g < w.heap.size := by
  rcases Nat.lt_or_ge g w.heap.size with hlt | hge
  · exact hlt
  · unfold Blk at h; rw [Array.getElem?_eq_none hge] at h; cases h
theorem Blk.cell (h : Blk w g t cs) (i : Nat) : w.cell? ⟨g, i, none⟩ = cs[i]? := cell_of_row w g i cs t (0, 0) h
theorem Blk.frozen (h : Blk w g t cs) (i : Nat) : w.frozen? ⟨g, i, none⟩ = false := by
  unfold Blk at h
  simp [World.frozen?, h]
theorem Blk.new (w : World) (t : TypeId) (cs : Array Value) : Blk (w.alloc (.cells cs t)) w.heap.size t cs := heap_alloc_new w _
theorem Blk.ext (h : Blk w g t cs) (hb : Ext w w') : Blk w' g t cs := (hb.block g h.lt).trans h
theorem Blk.below {B : Nat} (h : Blk w g t cs) (hb : Below B w w') (hg : g < B) : Blk w' g t cs := (hb.block g hg).trans h
theorem Blk.set_ (h : Blk w g t cs) (i : Nat) (u : Value) : Blk (w.setCell ⟨g, i, none⟩ u) g t (cs.setIfInBounds i u) := by
  unfold Blk at h ⊢
  simp [World.setCell, Array.getElem?_modify, h]
theorem Blk.far (h : Blk w g t cs) {p : Addr} (hp : g ≠ p.block) (u : Value) : Blk (w.setCell p u) g t cs := (Below.heap_setCell w p u g hp).trans h
end

/-- As Q; by a goto to a label: J. -/
def Exit.jumps (J : Nat → Act → World → Prop) (Q : Exit → Act → World → Prop) : Exit → Act → World → Prop
  | .goto l, a, w => J l a w
  | e, a, w => Q e a w
section
variable {P : Program} {a : Act} {w : World} {Q : Exit → Act → World → Prop}
theorem wp_scope_jumpsM {c : Code} (J : Nat → Act → World → Prop) (μ : Nat → Act → World → Nat)
    (pass : ∀ l a w, J l a w → ∃ rest, findLabel c l = some rest ∧ rest.wp P (Exit.jumps (fun l' a' w' => J l' a' w' ∧ μ l' a' w' < μ l a w) Q) a w)
    (first : c.wp P (Exit.jumps J Q) a w) : (Code.scope c).wp P Q a w := by
  intro b k cs
  have key : ∀ n l a w rest, findLabel c l = some rest → μ l a w = n → J l a w → ∃ e a' w', Q e a' w' ∧ Arrives P (lone (b.at a (.code rest :: .inScope c :: k)) cs w) b k cs e a' w' := by
    intro n
    induction n using Nat.strongRecOn with
    | _ n ih =>
      intro l a w rest hf hn hJ
      obtain ⟨rest', hf', hp⟩ := pass l a w hJ
      obtain rfl : rest' = rest := by rw [hf] at hf'; exact (Option.some.inj hf').symm
      obtain ⟨e, a₁, w₁, hq, harr⟩ := hp b (.inScope c :: k) cs
      cases e with
      | normal => exact ⟨.normal, a₁, w₁, hq, Steps.trans harr (.one step_inScope)⟩
      | exit id => exact ⟨.exit id, a₁, w₁, hq, fun k' hk => harr k' (by simp [exitTo, hk])⟩
      | goto l' =>
        obtain ⟨hJ', hlt⟩ := hq
        obtain ⟨rest₂, hf₂, _⟩ := pass l' a₁ w₁ hJ'
        have hg : gotoIn l' (.inScope c :: k) = some (.code rest₂ :: .inScope c :: k) := by simp [gotoIn, hf₂]
        obtain ⟨e₂, a₂, w₂, hq₂, harr₂⟩ := ih _ (by omega) l' a₁ w₁ rest₂ hf₂ rfl hJ'
        exact ⟨e₂, a₂, w₂, hq₂, .of_steps (harr _ hg) harr₂⟩
      | ret => exact ⟨_, a₁, w₁, hq, harr⟩
      | panic ch => exact ⟨_, a₁, w₁, hq, harr⟩
      | outgrown => exact ⟨_, a₁, w₁, hq, harr⟩
  obtain ⟨e, a₁, w₁, hq, harr⟩ := first b (.inScope c :: k) cs
  cases e with
  | normal => exact ⟨.normal, a₁, w₁, hq, .head step_scope (Steps.trans harr (.one step_inScope))⟩
  | exit id => exact ⟨.exit id, a₁, w₁, hq, fun k' hk => .head step_scope (harr k' (by simp [exitTo, hk]))⟩
  | goto l' =>
    obtain ⟨rest₂, hf₂, _⟩ := pass l' a₁ w₁ hq
    have hg : gotoIn l' (.inScope c :: k) = some (.code rest₂ :: .inScope c :: k) := by simp [gotoIn, hf₂]
    obtain ⟨e₂, a₂, w₂, hq₂, harr₂⟩ := key _ l' a₁ w₁ rest₂ hf₂ rfl hq
    exact ⟨e₂, a₂, w₂, hq₂, .of_steps (.head step_scope (harr _ hg)) harr₂⟩
  | ret => exact ⟨_, a₁, w₁, hq, .of_steps (.one step_scope) harr⟩
  | panic ch => exact ⟨_, a₁, w₁, hq, .of_steps (.one step_scope) harr⟩
  | outgrown => exact ⟨_, a₁, w₁, hq, .of_steps (.one step_scope) harr⟩
end

section
variable {P : Program} {a : Act} {w : World} {Q : Exit → Act → World → Prop}
/-- Labels with code behind each: the first way may end at a label where J holds ('hp'). -/
theorem wp_scope_labels {c : Code} (J : Nat → Act → World → Prop) (μ : Nat → Act → World → Nat)
    (pass : ∀ l a w, J l a w → ∀ Q2 : Exit → Act → World → Prop, (∀ l' a' w', J l' a' w' → μ l' a' w' < μ l a w → Q2 (.goto l') a' w') → (∀ a' w', Q .ret a' w' → Q2 .ret a' w') → (∀ a' w', Q .normal a' w' → Q2 .normal a' w') →
      ∃ B, findLabel c l = some (Code.seq Code.skip B) ∧ B.wp P Q2 a w)
    (first : ∀ Q2 : Exit → Act → World → Prop, (∀ l' a' w', J l' a' w' → Q2 (.goto l') a' w') → (∀ a' w', Q .ret a' w' → Q2 .ret a' w') → (∀ a' w', Q .normal a' w' → Q2 .normal a' w') →
      (∀ l a w B, J l a w → findLabel c l = some (Code.seq Code.skip B) → B.wp P Q2 a w) → c.wp P Q2 a w) : (Code.scope c).wp P Q a w := by
  refine wp_scope_jumpsM J μ (fun l a w h => ?_) (first _ (fun _ _ _ h => h) (fun _ _ h => h) (fun _ _ h => h) fun l a w B h hf => ?_)
  · obtain ⟨B, hf, hB⟩ := pass l a w h (Exit.jumps (fun l' a' w' => J l' a' w' ∧ μ l' a' w' < μ l a w) Q) (fun _ _ _ h1 h2 => ⟨h1, h2⟩) (fun _ _ h => h) (fun _ _ h => h)
    exact ⟨_, hf, wp_seq (wp_skip hB)⟩
  · obtain ⟨B', hf', hB⟩ := pass l a w h (Exit.jumps J Q) (fun _ _ _ h1 _ => h1) (fun _ _ h => h) (fun _ _ h => h)
    obtain rfl : B = B' := by rw [hf] at hf'; injection hf' with e; injection e
    exact hB
end
end Go.Proofs.Lw
namespace Go.Proofs.Lw
open Go Ieee

/-- the bits of the float64 that is n -/
def fl (n : Int) : Nat := FloatKind.f64.nearest n
def pinf : Nat := 9218868437227405312
def ninf : Nat := 18442240474082181120

theorem dbl_eq : FloatKind.f64.format = Ieee.double := rfl
theorem leastPlace_dbl : Ieee.double.leastPlace = -1074 := by decide
theorem binade_dbl : Ieee.double.binade = 4503599627370496 := by decide
theorem infRung_dbl : Ieee.double.infRung = 2047 * 4503599627370496 := by decide
theorem signWeight_dbl : Ieee.double.signWeight = 2048 * 4503599627370496 := by decide
theorem frac_dbl : Ieee.double.fractionBits = 52 := rfl

/-- the rung of a whole number -/
def rung (m : Nat) : Nat := if m = 0 then 0 else (m.log2 + 1022) * 4503599627370496 + m * 2 ^ (52 - m.log2)

theorem log2_le52 {m : Nat} (h : m < 2 ^ 53) (h0 : m ≠ 0) : m.log2 ≤ 52 := by
  have := (Nat.log2_lt h0).2 h
  omega

theorem kept_lo {m : Nat} (h : m < 2 ^ 53) (h0 : m ≠ 0) : 4503599627370496 ≤ m * 2 ^ (52 - m.log2) ∧ m * 2 ^ (52 - m.log2) < 2 * 4503599627370496 := by
  have hl := log2_le52 h h0
  have h1 := Nat.log2_self_le h0
  have h2 : m < 2 ^ (m.log2 + 1) := Nat.lt_log2_self
  constructor
  · calc 4503599627370496 = 2 ^ m.log2 * 2 ^ (52 - m.log2) := by rw [← Nat.pow_add]; rw [show m.log2 + (52 - m.log2) = 52 by omega]
      _ ≤ _ := Nat.mul_le_mul_right _ h1
  · calc m * 2 ^ (52 - m.log2) < 2 ^ (m.log2 + 1) * 2 ^ (52 - m.log2) := Nat.mul_lt_mul_of_pos_right h2 (Nat.pow_pos (by omega))
      _ = 2 * 4503599627370496 := by rw [← Nat.pow_add]; rw [show m.log2 + 1 + (52 - m.log2) = 53 by omega]

theorem cut_exact (neg : Bool) (q drop : Nat) (hd : drop ≤ (q * 2 ^ drop).log2 + 2) : Toward.even.cut neg (q * 2 ^ drop) drop = q := by
  unfold Toward.cut
  have hm : min drop ((q * 2 ^ drop).log2 + 2) = drop := by omega
  have hp : 0 < 2 ^ drop := Nat.pow_pos (by omega)
  simp only [hm, Nat.shiftLeft_eq, Nat.one_mul]
  rw [Nat.mul_mod_left, Nat.mul_div_cancel _ hp]
  have : ¬ (2 ^ drop < 2 * 0) := by omega
  have h2 : (2 ^ drop == 2 * 0) = false := by
    rw [beq_eq_false_iff_ne]; omega
  simp [h2]

theorem log2_shift {m k : Nat} (h0 : m ≠ 0) : (m * 2 ^ k).log2 = m.log2 + k := by
  have hp : 0 < 2 ^ k := Nat.pow_pos (by omega)
  have hne : m * 2 ^ k ≠ 0 := Nat.mul_ne_zero h0 (by omega)
  refine (Nat.log2_eq_iff hne).2 ⟨?_, ?_⟩
  · rw [Nat.pow_add]; exact Nat.mul_le_mul_right _ (Nat.log2_self_le h0)
  · rw [show m.log2 + k + 1 = (m.log2 + 1) + k by omega, Nat.pow_add]
    exact Nat.mul_lt_mul_of_pos_right Nat.lt_log2_self hp

theorem nearest_shift (neg : Bool) (m k : Nat) (h : m < 2 ^ 53) : Ieee.double.nearest neg (m * 2 ^ k) (-(k : Int)) = Ieee.double.word neg (rung m) := by
  unfold Format.nearest rung
  by_cases h0 : m = 0
  · subst h0; simp
  have hp : 0 < 2 ^ k := Nat.pow_pos (by omega)
  rw [if_neg (Nat.mul_ne_zero h0 (by omega)), if_neg h0]
  have hl := log2_le52 h h0
  have hk := kept_lo h h0
  have hlast : max (-(k : Int) + ((m * 2 ^ k).log2 : Nat) - (Ieee.double.fractionBits : Nat)) Ieee.double.leastPlace = (m.log2 : Int) - 52 := by
    rw [log2_shift h0, leastPlace_dbl, frac_dbl]; omega
  rw [hlast]
  simp only [leastPlace_dbl, binade_dbl, infRung_dbl]
  have hkept : Toward.even.cut neg ((m * 2 ^ k) <<< (-(k : Int) - ((m.log2 : Int) - 52)).toNat) (((m.log2 : Int) - 52) - -(k : Int)).toNat = m * 2 ^ (52 - m.log2) := by
    by_cases hc : k ≤ 52 - m.log2
    · have e1 : (-(k : Int) - ((m.log2 : Int) - 52)).toNat = 52 - m.log2 - k := by omega
      have e2 : (((m.log2 : Int) - 52) - -(k : Int)).toNat = 0 := by omega
      rw [e1, e2, Nat.shiftLeft_eq, Nat.mul_assoc, ← Nat.pow_add, show k + (52 - m.log2 - k) = 52 - m.log2 by omega]
      have := cut_exact neg (m * 2 ^ (52 - m.log2)) 0 (by omega)
      simpa using this
    · have e1 : (-(k : Int) - ((m.log2 : Int) - 52)).toNat = 0 := by omega
      have e2 : (((m.log2 : Int) - 52) - -(k : Int)).toNat = k - (52 - m.log2) := by omega
      rw [e1, e2]
      have e3 : (m * 2 ^ k) <<< 0 = (m * 2 ^ (52 - m.log2)) * 2 ^ (k - (52 - m.log2)) := by
        rw [Nat.shiftLeft_eq, Nat.mul_assoc, Nat.mul_assoc, ← Nat.pow_add, ← Nat.pow_add]
        congr 2; omega
      rw [e3]
      refine cut_exact neg _ _ ?_
      rw [Nat.mul_assoc, ← Nat.pow_add, log2_shift h0]; omega
  rw [hkept]
  have e4 : ((m.log2 : Int) - 52 - -1074).toNat = m.log2 + 1022 := by omega
  rw [e4]
  congr 1
  have : (m.log2 + 1022) * 4503599627370496 ≤ 1074 * 4503599627370496 := Nat.mul_le_mul_right _ (by omega)
  omega

theorem fl_eq (n : Int) (h : n.natAbs < 2 ^ 53) : fl n = Ieee.double.word (decide (n < 0)) (rung n.natAbs) := by
  have := nearest_shift (decide (n < 0)) n.natAbs 0 h
  simpa [fl, FloatKind.nearest, FloatKind.encode, Format.write, dbl_eq] using this

theorem rung_lt {m : Nat} (h : m < 2 ^ 53) : rung m < 1076 * 4503599627370496 := by
  unfold rung
  by_cases h0 : m = 0
  · rw [if_pos h0]; omega
  · rw [if_neg h0]
    have hl := log2_le52 h h0
    have hk := kept_lo h h0
    have : (m.log2 + 1022) * 4503599627370496 ≤ 1074 * 4503599627370496 := Nat.mul_le_mul_right _ (by omega)
    omega

theorem read_word (neg : Bool) (r : Nat) (hr : r < Ieee.double.signWeight) : Ieee.double.read (Ieee.double.word neg r) =
    if r < Ieee.double.binade then .number neg r Ieee.double.leastPlace
    else if r < Ieee.double.infRung then .number neg (Ieee.double.binade + r % Ieee.double.binade) (Ieee.double.leastPlace + (r / Ieee.double.binade - 1 : Nat))
    else if r = Ieee.double.infRung then .infinity neg
    else .nan neg (r - Ieee.double.infRung) := by
  have hs : Ieee.double.word neg r % Ieee.double.signWeight = r := by
    unfold Format.word
    cases neg
    · simp [Nat.mod_eq_of_lt hr]
    · simp [Nat.mod_eq_of_lt hr]
  have hn : (Ieee.double.word neg r / Ieee.double.signWeight % 2 == 1) = neg := by
    unfold Format.word
    have hp : 0 < Ieee.double.signWeight := by omega
    cases neg
    · simp [Nat.div_eq_of_lt hr]
    · simp [Nat.add_div_left _ hp, Nat.div_eq_of_lt hr]
  unfold Format.read
  simp only [hs, hn]

theorem read_fl (n : Int) (h : n.natAbs < 2 ^ 53) : ∃ k : Nat, Ieee.double.read (fl n) = .number (decide (n < 0)) (n.natAbs * 2 ^ k) (-(k : Int)) := by
  rw [fl_eq n h]
  have hr := rung_lt h
  rw [read_word _ _ (by rw [signWeight_dbl]; omega)]
  rw [binade_dbl, infRung_dbl, leastPlace_dbl]
  by_cases h0 : n.natAbs = 0
  · obtain ⟨k, hk⟩ : ∃ k : Nat, k = 1074 := ⟨_, rfl⟩
    refine ⟨k, ?_⟩
    have : rung n.natAbs = 0 := by unfold rung; rw [if_pos h0]
    rw [this, h0, if_pos (by omega), Nat.zero_mul, hk]; rfl
  · refine ⟨52 - n.natAbs.log2, ?_⟩
    have hl := log2_le52 h h0
    have hk := kept_lo h h0
    have e : rung n.natAbs = (n.natAbs.log2 + 1022) * 4503599627370496 + n.natAbs * 2 ^ (52 - n.natAbs.log2) := by unfold rung; rw [if_neg h0]
    generalize hK : n.natAbs * 2 ^ (52 - n.natAbs.log2) = K at *
    obtain ⟨r, rfl⟩ : ∃ r, K = 4503599627370496 + r := ⟨K - 4503599627370496, by omega⟩
    have hr' : r < 4503599627370496 := by omega
    have e0 : rung n.natAbs = 4503599627370496 * (n.natAbs.log2 + 1023) + r := by rw [e]; omega
    have e1 : rung n.natAbs / 4503599627370496 = n.natAbs.log2 + 1023 := by
      rw [e0, Nat.mul_add_div (by omega), Nat.div_eq_of_lt hr', Nat.add_zero]
    have e2 : rung n.natAbs % 4503599627370496 = r := by
      rw [e0, Nat.mul_add_mod, Nat.mod_eq_of_lt hr']
    have e3 : (-1074 : Int) + ((n.natAbs.log2 + 1023 - 1 : Nat) : Int) = -((52 - n.natAbs.log2 : Nat) : Int) := by omega
    rw [if_neg (by omega), if_pos (by omega), e1, e2, e3]

theorem signed_abs (n : Int) (k j : Nat) : signed (decide (n < 0)) (n.natAbs * 2 ^ k) j = n * 2 ^ (k + j) := by
  unfold signed
  rw [Nat.shiftLeft_eq, Nat.mul_assoc, ← Nat.pow_add]
  by_cases h : n < 0
  · simp only [h, decide_true, if_true]
    have e : n = -((n.natAbs : Nat) : Int) := by omega
    generalize n.natAbs = m at e
    subst e
    simp [Int.natCast_mul, Int.natCast_pow, Int.neg_mul]
  · simp only [h, decide_false]
    have e : n = ((n.natAbs : Nat) : Int) := by omega
    generalize n.natAbs = m at e
    subst e
    simp [Int.natCast_mul, Int.natCast_pow]

theorem natAbs_mul_pow (c : Int) (K : Nat) : (c * 2 ^ K).natAbs = c.natAbs * 2 ^ K := by
  rw [Int.natAbs_mul, Int.natAbs_pow]; rfl

theorem mul_pow_neg (c : Int) (K : Nat) : (c * 2 ^ K < 0) ↔ c < 0 := by
  have hp : (0 : Int) < 2 ^ K := Int.pow_pos (by omega)
  constructor
  · intro h
    rcases Int.lt_or_le c 0 with h1 | h1
    · exact h1
    · have := Int.mul_nonneg h1 (Int.le_of_lt hp); omega
  · intro h
    exact Int.mul_neg_of_neg_of_pos h hp

theorem fl_add (a b : Int) (ha : a.natAbs < 2 ^ 52) (hb : b.natAbs < 2 ^ 52) : Ieee.double.add (fl a) (fl b) = some (fl (a + b)) := by
  obtain ⟨k, hk⟩ := read_fl a (by omega)
  obtain ⟨j, hj⟩ := read_fl b (by omega)
  have hc : (a + b).natAbs < 2 ^ 53 := by omega
  unfold Format.add
  rw [hk, hj]
  obtain ⟨K, hK⟩ : ∃ K : Nat, K = max k j := ⟨_, rfl⟩
  have hbase : min (-(k : Int)) (-(j : Int)) = -(K : Int) := by omega
  simp only [Datum.sum, hbase]
  have e1 : (-(k : Int) - -(K : Int)).toNat = K - k := by omega
  have e2 : (-(j : Int) - -(K : Int)).toNat = K - j := by omega
  rw [e1, e2, signed_abs, signed_abs, show k + (K - k) = K by omega, show j + (K - j) = K by omega, ← Int.add_mul]
  simp only [Option.map_some, Format.write, natAbs_mul_pow]
  rw [nearest_shift _ _ _ hc, fl_eq _ hc]
  congr 2
  by_cases h0 : a + b = 0
  · rw [h0, Int.zero_mul, if_pos rfl]
    by_cases h1 : a < 0
    · have h2 : ¬ b < 0 := by omega
      simp [h2]
    · simp [h1]
  · have hp : (0 : Int) < 2 ^ K := Int.pow_pos (by omega)
    have hne : (a + b) * 2 ^ K ≠ 0 := Int.mul_ne_zero h0 (by omega)
    rw [if_neg hne]
    simp only [mul_pow_neg]

theorem cmp_eq (a b : Int) : compare a b = if a < b then .lt else if a = b then .eq else .gt := rfl
theorem compare_mul (a b : Int) (K : Nat) : compare (a * 2 ^ K) (b * 2 ^ K) = compare a b := by
  have hp : (0 : Int) < 2 ^ K := Int.pow_pos (by omega)
  rw [cmp_eq, cmp_eq]
  rcases Int.lt_trichotomy a b with h | h | h
  · have h2 := Int.mul_lt_mul_of_pos_right h hp
    rw [if_pos h2, if_pos h]
  · subst h; simp
  · have h2 := Int.mul_lt_mul_of_pos_right h hp
    rw [if_neg (by omega), if_neg (by omega), if_neg (by omega), if_neg (by omega)]

theorem fl_order (a b : Int) (ha : a.natAbs < 2 ^ 53) (hb : b.natAbs < 2 ^ 53) : Ieee.double.order (fl a) (fl b) = some (compare a b) := by
  obtain ⟨k, hk⟩ := read_fl a ha
  obtain ⟨j, hj⟩ := read_fl b hb
  unfold Format.order
  rw [hk, hj]
  obtain ⟨K, hK⟩ : ∃ K : Nat, K = max k j := ⟨_, rfl⟩
  have hbase : min (-(k : Int)) (-(j : Int)) = -(K : Int) := by omega
  simp only [Datum.order, hbase]
  have e1 : (-(k : Int) - -(K : Int)).toNat = K - k := by omega
  have e2 : (-(j : Int) - -(K : Int)).toNat = K - j := by omega
  rw [e1, e2, signed_abs, signed_abs, show k + (K - k) = K by omega, show j + (K - j) = K by omega, compare_mul]

theorem read_pinf : Ieee.double.read pinf = .infinity false := by decide +kernel
theorem read_ninf : Ieee.double.read ninf = .infinity true := by decide +kernel
theorem fl_zero : fl 0 = 0 := by decide +kernel

theorem add_pinf (b : Int) (hb : b.natAbs < 2 ^ 53) : Ieee.double.add pinf (fl b) = some pinf := by
  obtain ⟨j, hj⟩ := read_fl b hb
  unfold Format.add
  rw [hj, read_pinf]
  simp only [Datum.sum, Option.map_some]
  congr 1
theorem add_ninf (b : Int) (hb : b.natAbs < 2 ^ 53) : Ieee.double.add ninf (fl b) = some ninf := by
  obtain ⟨j, hj⟩ := read_fl b hb
  unfold Format.add
  rw [hj, read_ninf]
  simp only [Datum.sum, Option.map_some]
  congr 1
theorem order_pinf_l (b : Int) (hb : b.natAbs < 2 ^ 53) : Ieee.double.order pinf (fl b) = some .gt := by
  obtain ⟨j, hj⟩ := read_fl b hb
  unfold Format.order; rw [hj, read_pinf]; rfl
theorem order_pinf_r (b : Int) (hb : b.natAbs < 2 ^ 53) : Ieee.double.order (fl b) pinf = some .lt := by
  obtain ⟨j, hj⟩ := read_fl b hb
  unfold Format.order; rw [hj, read_pinf]; rfl
theorem order_ninf_l (b : Int) (hb : b.natAbs < 2 ^ 53) : Ieee.double.order ninf (fl b) = some .lt := by
  obtain ⟨j, hj⟩ := read_fl b hb
  unfold Format.order; rw [hj, read_ninf]; rfl
theorem order_ninf_r (b : Int) (hb : b.natAbs < 2 ^ 53) : Ieee.double.order (fl b) ninf = some .gt := by
  obtain ⟨j, hj⟩ := read_fl b hb
  unfold Format.order; rw [hj, read_ninf]; rfl
theorem order_pinf_pinf : Ieee.double.order pinf pinf = some .eq := by decide +kernel
theorem order_ninf_ninf : Ieee.double.order ninf ninf = some .eq := by decide +kernel
end Go.Proofs.Lw
namespace Go.Proofs.Lw
open Go Go.RowKit

/-- math/bits.OnesCount64, step by step -/
def onesI (v : Int) : Int :=
  let a := IntKind.u64.wrap (bits .and .u64 (v / 2) 6148914691236517205 + bits .and .u64 v 6148914691236517205)
  let b := IntKind.u64.wrap (bits .and .u64 (a / 4) 3689348814741910323 + bits .and .u64 a 3689348814741910323)
  let c := bits .and .u64 (IntKind.u64.wrap (b / 16 + b)) 1085102592571150095
  let d := IntKind.u64.wrap (c + c / 256)
  let e := IntKind.u64.wrap (d + d / 65536)
  let f := IntKind.u64.wrap (e + e / 4294967296)
  bits .and .i64 (wrap64 f) 127

theorem onesCount_call (v : Int) (h0 : 0 ≤ v) (w : World) : Calls Tryz.prog 228 #[.int .u64 v] w fun e w' => e = .returned (.int .i64 (onesI v)) ∧ w = w' := by
  go_enter Tryz.func228, Tryz.ntmps228
  go_wp2
  go_ret
  exact ⟨rfl, rfl⟩

theorem first_call (n : Int) (w : World) : Calls Tryz.prog 229 #[.int .i64 n] w fun e w' => e = .returned (.int .i64 (min (max n 0) 64)) ∧ w = w' := by
  go_enter Tryz.func229, Tryz.ntmps229
  go_wp2
  all_goals (go_ret; exact ⟨ret_int (by omega), rfl⟩)

def maskN (n : Int) : Nat := if 64 ≤ n then 18446744073709551615 else 2 ^ n.toNat - 1
theorem mask_eq (n : Nat) (h : n < 64) : IntKind.u64.wrap (IntKind.u64.wrap (2 ^ n) - 1) = ((2 ^ n - 1 : Nat) : Int) := by
  have h1 : (2 : Nat) ^ n < 2 ^ 64 := Nat.pow_lt_pow_right (by omega) h
  have h2 : 1 ≤ (2 : Nat) ^ n := Nat.one_le_two_pow
  have e : (2 : Int) ^ n = ((2 ^ n : Nat) : Int) := by simp
  rw [e]
  generalize 2 ^ n = m at *
  simp only [IntKind.wrap_u64]
  omega
theorem mask_call (n : Int) (h0 : 0 ≤ n) (w : World) : Calls Tryz.prog 167 #[.int .i64 n] w fun e w' => e = .returned (.int .u64 (maskN n)) ∧ w = w' := by
  by_cases hm : 64 ≤ n
  · go_enter Tryz.func167, Tryz.ntmps167
    go_wp2
    go_ret
    exact ⟨ret_int (by rw [maskN, if_pos hm]; rfl), rfl⟩
  · go_enter Tryz.func167, Tryz.ntmps167
    go_wp2
    go_ret
    exact ⟨ret_int (by rw [maskN, if_neg (by omega)]; exact mask_eq _ (by omega)), rfl⟩

/-- word.Ones -/
def onesW (v : Nat) (n : Int) : Int := onesI (bits .and .u64 v (maskN (min (max n 0) 64)))
theorem bits_and_nonneg (a b : Int) : 0 ≤ bits .and .u64 a b := by
  unfold bits; simp only [IntKind.wrap_u64]; omega
theorem ones_call (v : Nat) (n : Int) (w : World) : Calls Tryz.prog 173 #[.int .u64 v, .int .i64 n] w fun e w' => e = .returned (.int .i64 (onesW v n)) ∧ w = w' := by
  go_enter Tryz.func173, Tryz.ntmps173
  go_wp2_with (first
    | (go_at_call 229; refine (first_call _ _).mono ?_; rintro e w' ⟨rfl, rfl⟩)
    | (go_at_call 167; refine (mask_call _ (by omega) _).mono ?_; rintro e w' ⟨rfl, rfl⟩)
    | (go_at_call 228; refine (onesCount_call _ (bits_and_nonneg _ _) _).mono ?_; rintro e w' ⟨rfl, rfl⟩))
  go_ret
  exact ⟨rfl, rfl⟩

/-- word.Field at a place that there is -/
def fieldW (v : Nat) (i n : Int) : Int := if n < 1 then 0 else if 64 ≤ i then 0 else bits .and .u64 ((v : Int) / 2 ^ i.toNat) (maskN n)
theorem field_call (v : Nat) (i n : Int) (h0 : 0 ≤ i) (w : World) :
    Calls Tryz.prog 125 #[.int .u64 v, .int .i64 i, .int .i64 n] w fun e w' => e = .returned (.int .u64 (fieldW v i n)) ∧ ∃ k, w' = w.drewN k := by
  by_cases h1 : n < 1
  · go_enter Tryz.func125, Tryz.ntmps125
    go_wp2_with fail
    go_ret
    exact ⟨ret_int (by rw [fieldW, if_pos h1]), 0, rfl⟩
  · by_cases h2 : 64 ≤ i
    · go_enter Tryz.func125, Tryz.ntmps125
      go_wp2_with fail
      go_ret
      exact ⟨ret_int (by rw [fieldW, if_neg (by omega), if_pos h2]), 0, rfl⟩
    · go_enter Tryz.func125, Tryz.ntmps125
      go_wp2_with fail
      go_quiet ((go_at_call 167; exact Calls.quiet_left (mask_call _ (by omega) _)))
      go_wp2_with fail
      go_ret
      exact ⟨ret_int (by rw [fieldW, if_neg (by omega), if_neg (by omega)]), _, rfl⟩

theorem excess_call (v : Nat) (n : Int) (w : World) : Calls Tryz.prog 225 #[.int .u64 v, .int .i64 n] w fun e w' => e = .returned (.int .i64 (wrap64 (wrap64 (2 * onesW v n) - min (max n 0) 64))) ∧ w = w' := by
  go_enter Tryz.func225, Tryz.ntmps225
  go_wp2_with (first
    | (go_at_call 229; refine (first_call _ _).mono ?_; rintro e w' ⟨rfl, rfl⟩)
    | (go_at_call 173; refine (ones_call _ _ _).mono ?_; rintro e w' ⟨rfl, rfl⟩))
  go_ret
  exact ⟨rfl, rfl⟩
end Go.Proofs.Lw
namespace Go.Proofs.Lw
open Go Go.RowKit

/-- how many of the first n bits are 1 -/
def cnt (v : Nat) : Nat → Nat
  | 0 => 0
  | n + 1 => cnt v n + (v.testBit n).toNat

theorem cnt_le (v n : Nat) : cnt v n ≤ n := by
  induction n with
  | zero => simp [cnt]
  | succ n ih => simp only [cnt]; have := Bool.toNat_le (v.testBit n); omega

theorem cnt_add (v a b : Nat) : cnt v (a + b) = cnt v a + cnt (v / 2 ^ a) b := by
  induction b with
  | zero => simp [cnt]
  | succ b ih =>
    rw [← Nat.add_assoc]
    simp only [cnt, ih]
    have : (v / 2 ^ a).testBit b = v.testBit (a + b) := by
      rw [← Nat.shiftRight_eq_div_pow, Nat.testBit_shiftRight]
    rw [this]; omega

theorem cnt_mod (v a n : Nat) (h : n ≤ a) : cnt (v % 2 ^ a) n = cnt v n := by
  induction n with
  | zero => rfl
  | succ n ih =>
    simp only [cnt]
    rw [ih (by omega), Nat.testBit_mod_two_pow]
    have : decide (n < a) = true := by simp; omega
    simp [this]

theorem cnt_mod_ge (v a n : Nat) (h : a ≤ n) : cnt (v % 2 ^ a) n = cnt v a := by
  obtain ⟨k, rfl⟩ : ∃ k, n = a + k := ⟨n - a, by omega⟩
  rw [cnt_add, cnt_mod _ _ _ (Nat.le_refl _)]
  have h0 : v % 2 ^ a / 2 ^ a = 0 := Nat.div_eq_of_lt (Nat.mod_lt _ (Nat.pow_pos (by omega)))
  rw [h0]
  have : ∀ k, cnt 0 k = 0 := by
    intro k; induction k with
    | zero => rfl
    | succ k ih => simp [cnt, ih]
  rw [this]; rfl

theorem cnt_mono (v : Nat) {a b : Nat} (h : a ≤ b) : cnt v a ≤ cnt v b := by
  obtain ⟨k, rfl⟩ : ∃ k, b = a + k := ⟨b - a, by omega⟩
  rw [cnt_add]; omega

/-- bytes, the lowest first -/
def V : List Nat → Nat
  | [] => 0
  | b :: r => b + 256 * V r
def rep (m : Nat) : Nat → Nat
  | 0 => 0
  | k + 1 => m + 256 * rep m k

theorem and_step (x y a c : Nat) (hx : x < 256) (ha : a < 256) : (x + 256 * y) &&& (a + 256 * c) = (x &&& a) + 256 * (y &&& c) := by
  have h1 : ((x + 256 * y) &&& (a + 256 * c)) % 2 ^ 8 = (x &&& a) := by
    rw [Nat.and_mod_two_pow]
    have e1 : (x + 256 * y) % 2 ^ 8 = x := by omega
    have e2 : (a + 256 * c) % 2 ^ 8 = a := by omega
    rw [e1, e2]
  have h2 : ((x + 256 * y) &&& (a + 256 * c)) / 2 ^ 8 = (y &&& c) := by
    rw [Nat.and_div_two_pow]
    have e1 : (x + 256 * y) / 2 ^ 8 = y := by omega
    have e2 : (a + 256 * c) / 2 ^ 8 = c := by omega
    rw [e1, e2]
  have := Nat.div_add_mod ((x + 256 * y) &&& (a + 256 * c)) (2 ^ 8)
  rw [h1, h2] at this
  omega

def s1 (b : Nat) : Nat := ((b / 2) &&& 85) + (b &&& 85)
def s2 (b : Nat) : Nat := ((b / 4) &&& 51) + (b &&& 51)
def s3 (b : Nat) : Nat := (b / 16 + b) &&& 15

theorem s1_a : ∀ b, b < 256 → ∀ t, t < 2 → (b / 2 + 128 * t) &&& 85 = (b / 2) &&& 85 := by decide +kernel
theorem s1_lt : ∀ b, b < 256 → s1 b < 256 := by decide +kernel
theorem s2_a : ∀ b, b < 256 → ∀ t, t < 4 → (b / 4 + 64 * t) &&& 51 = (b / 4) &&& 51 := by decide +kernel
theorem s2_lt : ∀ b, b < 256 → s2 b < 256 ∧ s2 b % 16 ≤ 8 ∧ s2 b / 16 ≤ 8 := by decide +kernel
theorem s12 : ∀ b, b < 256 → s2 (s1 b) % 16 ≤ 4 ∧ s2 (s1 b) / 16 ≤ 4 := by decide +kernel
theorem s3_a : ∀ b, b < 256 → b % 16 ≤ 4 → b / 16 ≤ 4 → ∀ t, t ≤ 4 → (b / 16 + 16 * t + b) &&& 15 = s3 b := by decide +kernel
theorem s3_le : ∀ b, b < 256 → b % 16 ≤ 4 → b / 16 ≤ 4 → s3 b ≤ 8 := by decide +kernel
theorem s123 : ∀ b, b < 256 → s3 (s2 (s1 b)) = cnt b 8 := by decide +kernel

theorem st1 : ∀ (l : List Nat), (∀ b ∈ l, b < 256) → (V l / 2 &&& rep 85 l.length) + (V l &&& rep 85 l.length) = V (l.map s1)
  | [], _ => by simp [V, rep]
  | b :: r, h => by
    have hb := h b (List.mem_cons_self ..)
    have ih := st1 r (fun x hx => h x (List.mem_cons_of_mem _ hx))
    simp only [V, List.length_cons, rep, List.map_cons]
    have e : (b + 256 * V r) / 2 = (b / 2 + 128 * (V r % 2)) + 256 * (V r / 2) := by omega
    rw [e, and_step _ _ _ _ (by omega) (by omega), and_step _ _ _ _ hb (by omega), s1_a b hb _ (by omega), ← ih]
    unfold s1; omega
theorem st2 : ∀ (l : List Nat), (∀ b ∈ l, b < 256) → (V l / 4 &&& rep 51 l.length) + (V l &&& rep 51 l.length) = V (l.map s2)
  | [], _ => by simp [V, rep]
  | b :: r, h => by
    have hb := h b (List.mem_cons_self ..)
    have ih := st2 r (fun x hx => h x (List.mem_cons_of_mem _ hx))
    simp only [V, List.length_cons, rep, List.map_cons]
    have e : (b + 256 * V r) / 4 = (b / 4 + 64 * (V r % 4)) + 256 * (V r / 4) := by omega
    rw [e, and_step _ _ _ _ (by omega) (by omega), and_step _ _ _ _ hb (by omega), s2_a b hb _ (by omega), ← ih]
    unfold s2; omega
theorem V_mod16 : ∀ (l : List Nat), (∀ b ∈ l, b < 256 ∧ b % 16 ≤ 4 ∧ b / 16 ≤ 4) → V l % 16 ≤ 4
  | [], _ => by simp [V]
  | b :: r, h => by
    have hb := h b (List.mem_cons_self ..)
    simp only [V]; omega
theorem st3 : ∀ (l : List Nat), (∀ b ∈ l, b < 256 ∧ b % 16 ≤ 4 ∧ b / 16 ≤ 4) → (V l / 16 + V l) &&& rep 15 l.length = V (l.map s3)
  | [], _ => by simp [V, rep]
  | b :: r, h => by
    obtain ⟨hb, hb1, hb2⟩ := h b (List.mem_cons_self ..)
    have hr : ∀ x ∈ r, x < 256 ∧ x % 16 ≤ 4 ∧ x / 16 ≤ 4 := fun x hx => h x (List.mem_cons_of_mem _ hx)
    have ih := st3 r hr
    have hm := V_mod16 r hr
    simp only [V, List.length_cons, rep, List.map_cons]
    have e : (b + 256 * V r) / 16 + (b + 256 * V r) = (b / 16 + 16 * (V r % 16) + b) + 256 * (V r / 16 + V r) := by omega
    rw [e, and_step _ _ _ _ (by omega) (by omega), s3_a b hb hb1 hb2 _ hm, ih]

theorem V_lt : ∀ (l : List Nat), (∀ b ∈ l, b < 256) → V l < 2 ^ (8 * l.length)
  | [], _ => by simp [V]
  | b :: r, h => by
    have hb := h b (List.mem_cons_self ..)
    have ih := V_lt r (fun x hx => h x (List.mem_cons_of_mem _ hx))
    simp only [V, List.length_cons]
    rw [show 8 * (r.length + 1) = 8 * r.length + 8 by omega, Nat.pow_add]
    omega
def sumL : List Nat → Nat
  | [] => 0
  | b :: r => b + sumL r
theorem cnt_V : ∀ (l : List Nat), (∀ b ∈ l, b < 256) → cnt (V l) (8 * l.length) = sumL (l.map fun b => cnt b 8)
  | [], _ => by simp [V, sumL, cnt]
  | b :: r, h => by
    have hb := h b (List.mem_cons_self ..)
    have ih := cnt_V r (fun x hx => h x (List.mem_cons_of_mem _ hx))
    simp only [V, List.length_cons, List.map_cons, sumL]
    rw [show 8 * (r.length + 1) = 8 + 8 * r.length by omega, cnt_add, ← ih]
    have e1 : (b + 256 * V r) / 2 ^ 8 = V r := by omega
    have e2 : cnt (b + 256 * V r) 8 = cnt b 8 := by
      rw [← cnt_mod (b + 256 * V r) 8 8 (Nat.le_refl _)]
      have : (b + 256 * V r) % 2 ^ 8 = b := by omega
      rw [this]
    rw [e1, e2]

def bytesOf (v : Nat) : Nat → List Nat
  | 0 => []
  | k + 1 => v % 256 :: bytesOf (v / 256) k
theorem V_bytes : ∀ (k v : Nat), v < 2 ^ (8 * k) → V (bytesOf v k) = v
  | 0, v, h => by simp [bytesOf, V] at *; omega
  | k + 1, v, h => by
    simp only [bytesOf, V]
    rw [V_bytes k (v / 256) (by rw [show 8 * (k + 1) = 8 * k + 8 by omega, Nat.pow_add] at h; omega)]
    omega
theorem bytes_lt : ∀ (k v : Nat), ∀ b ∈ bytesOf v k, b < 256
  | 0, v, b, h => by simp [bytesOf] at h
  | k + 1, v, b, h => by
    simp only [bytesOf, List.mem_cons] at h
    rcases h with rfl | h
    · omega
    · exact bytes_lt k _ b h
theorem bytes_len : ∀ (k v : Nat), (bytesOf v k).length = k
  | 0, v => rfl
  | k + 1, v => by simp [bytesOf, bytes_len k]

theorem sum8 (c0 c1 c2 c3 c4 c5 c6 c7 : Nat) (h0 : c0 ≤ 8) (h1 : c1 ≤ 8) (h2 : c2 ≤ 8) (h3 : c3 ≤ 8) (h4 : c4 ≤ 8) (h5 : c5 ≤ 8) (h6 : c6 ≤ 8) (h7 : c7 ≤ 8)
    (c d e f : Nat) (hc : c = V [c0, c1, c2, c3, c4, c5, c6, c7]) (hd : d = c + c / 256) (he : e = d + d / 65536) (hf : f = e + e / 4294967296) :
    f % 128 = c0 + c1 + c2 + c3 + c4 + c5 + c6 + c7 ∧ d < 18446744073709551616 ∧ e < 18446744073709551616 ∧ f < 18446744073709551616 := by
  simp only [V] at hc
  have q1 : c / 256 = c1 + 256 * c2 + 65536 * c3 + 16777216 * c4 + 4294967296 * c5 + 1099511627776 * c6 + 281474976710656 * c7 := by omega
  rw [q1] at hd
  clear q1
  have e1 : d = (c0 + c1) + 256 * (c1 + c2) + 65536 * (c2 + c3) + 16777216 * (c3 + c4) + 4294967296 * (c4 + c5) + 1099511627776 * (c5 + c6) + 281474976710656 * (c6 + c7) + 72057594037927936 * c7 := by omega
  clear hd hc
  have q2 : d / 65536 = (c2 + c3) + 256 * (c3 + c4) + 65536 * (c4 + c5) + 16777216 * (c5 + c6) + 4294967296 * (c6 + c7) + 1099511627776 * c7 := by omega
  rw [q2] at he
  clear q2
  have e2 : e = (c0 + c1 + c2 + c3) + 256 * (c1 + c2 + c3 + c4) + 65536 * (c2 + c3 + c4 + c5) + 16777216 * (c3 + c4 + c5 + c6) + 4294967296 * (c4 + c5 + c6 + c7) + 1099511627776 * (c5 + c6 + c7) + 281474976710656 * (c6 + c7) + 72057594037927936 * c7 := by omega
  clear he
  have q3 : e / 4294967296 = (c4 + c5 + c6 + c7) + 256 * (c5 + c6 + c7) + 65536 * (c6 + c7) + 16777216 * c7 := by omega
  rw [q3] at hf
  clear q3
  refine ⟨by omega, by omega, by omega, by omega⟩

theorem wrap64n (n : Nat) (h : n < 18446744073709551616) : IntKind.u64.wrap (n : Int) = (n : Int) := by
  rw [IntKind.wrap_u64]; omega

theorem rep85 : rep 85 8 = 6148914691236517205 := by decide
theorem rep51 : rep 51 8 = 3689348814741910323 := by decide
theorem rep15 : rep 15 8 = 1085102592571150095 := by decide

theorem and127 (f : Nat) (hf : f < 18446744073709551616) : bits .and .i64 (wrap64 (f : Int)) 127 = ((f % 128 : Nat) : Int) := by
  have h2 : ((127 : Int)) = ((127 : Nat) : Int) := rfl
  show IntKind.i64.wrap ((BitVec.ofInt 64 (wrap64 (f : Int)) &&& BitVec.ofInt 64 127).toNat : Int) = _
  have e1 : (BitVec.ofInt 64 (wrap64 (f : Int))).toNat = f := by
    rw [BitVec.toNat_ofInt]
    unfold wrap64
    omega
  rw [BitVec.toNat_and, e1]
  have e2 : (BitVec.ofInt 64 127).toNat = 127 := by decide
  rw [e2, show (127 : Nat) = 2 ^ 7 - 1 by rfl, Nat.and_two_pow_sub_one_eq_mod, IntKind.wrap_i64]
  omega

theorem onesI_eq (v : Nat) (h : v < 18446744073709551616) : onesI v = (cnt v 64 : Nat) := by
  have hv : V (bytesOf v 8) = v := V_bytes 8 v (by simpa using h)
  have hb := bytes_lt 8 v
  have hl := bytes_len 8 v
  generalize bytesOf v 8 = l at *
  have h1 := st1 l hb
  have hb1 : ∀ b ∈ l.map s1, b < 256 := by
    intro b hm; obtain ⟨x, hx, rfl⟩ := List.mem_map.1 hm; exact s1_lt x (hb x hx)
  have h2 := st2 (l.map s1) hb1
  have hb2 : ∀ b ∈ (l.map s1).map s2, b < 256 ∧ b % 16 ≤ 4 ∧ b / 16 ≤ 4 := by
    intro b hm
    obtain ⟨y, hy, rfl⟩ := List.mem_map.1 hm
    obtain ⟨x, hx, rfl⟩ := List.mem_map.1 hy
    have := s12 x (hb x hx)
    exact ⟨(s2_lt _ (s1_lt x (hb x hx))).1, this.1, this.2⟩
  have h3 := st3 ((l.map s1).map s2) hb2
  simp only [List.length_map, hl, rep85, rep51, rep15] at h1 h2 h3
  have lt1 := V_lt (l.map s1) hb1
  have lt2 := V_lt ((l.map s1).map s2) (fun b hm => (hb2 b hm).1)
  simp only [List.length_map, hl] at lt1 lt2
  have hcnt := cnt_V l hb
  rw [hl, hv] at hcnt
  rw [hv] at h1
  have hb3 : ∀ b ∈ ((l.map s1).map s2).map s3, b ≤ 8 := by
    intro b hm; obtain ⟨x, hx, rfl⟩ := List.mem_map.1 hm; have := hb2 x hx; exact s3_le x this.1 this.2.1 this.2.2
  have hsum : sumL (((l.map s1).map s2).map s3) = sumL (l.map fun b => cnt b 8) := by
    rw [List.map_map, List.map_map]
    congr 1
    exact List.map_congr_left (fun b hm => s123 b (hb b hm))
  rw [← hsum] at hcnt
  generalize hL : ((l.map s1).map s2).map s3 = L at *
  have hLl : L.length = 8 := by rw [← hL]; simp [hl]
  match L, hLl, hb3 with
  | [c0, c1, c2, c3, c4, c5, c6, c7], _, hb3 =>
    have k := sum8 c0 c1 c2 c3 c4 c5 c6 c7 (hb3 _ (by simp)) (hb3 _ (by simp)) (hb3 _ (by simp)) (hb3 _ (by simp)) (hb3 _ (by simp)) (hb3 _ (by simp)) (hb3 _ (by simp)) (hb3 _ (by simp)) _ _ _ _ rfl rfl rfl rfl
    have hs : sumL [c0, c1, c2, c3, c4, c5, c6, c7] = c0 + c1 + c2 + c3 + c4 + c5 + c6 + c7 := by simp only [sumL]; omega
    rw [hs] at hcnt
    rw [← h3] at k
    have hda : V ((l.map s1)) < 18446744073709551616 := by simpa using lt1
    have hdb : V (((l.map s1)).map s2) < 18446744073709551616 := by simpa using lt2
    have hlo : V ((l.map s1).map s2) / 16 + V ((l.map s1).map s2) < 18446744073709551616 := by
      have := V_mod16 ((l.map s1).map s2) hb2
      have hle : ∀ (m : List Nat), m.length ≤ 8 → (∀ b ∈ m, b < 256 ∧ b % 16 ≤ 4 ∧ b / 16 ≤ 4) → V m ≤ rep 68 m.length := by
        intro m
        induction m with
        | nil => intro _ _; simp [V, rep]
        | cons x r ih =>
          intro hm hx
          have h0 := hx x (List.mem_cons_self ..)
          have := ih (by simp at hm; omega) (fun y hy => hx y (List.mem_cons_of_mem _ hy))
          simp only [V, List.length_cons, rep]; omega
      have h8 := hle ((l.map s1).map s2) (by simp [hl]) hb2
      simp only [List.length_map, hl] at h8
      have : rep 68 8 = 4919131752989213764 := by decide
      omega
    unfold onesI
    have u1 : ((v : Int) / 2) = ((v / 2 : Nat) : Int) := by omega
    have u2 : (6148914691236517205 : Int) = ((6148914691236517205 : Nat) : Int) := rfl
    have u3 : (3689348814741910323 : Int) = ((3689348814741910323 : Nat) : Int) := rfl
    have u4 : (1085102592571150095 : Int) = ((1085102592571150095 : Nat) : Int) := rfl
    have ea : IntKind.u64.wrap (bits .and .u64 ((v : Int) / 2) 6148914691236517205 + bits .and .u64 v 6148914691236517205) = ((V (l.map s1) : Nat) : Int) := by
      rw [u1, u2, u64_and_nat _ _ (by omega) (by omega), u64_and_nat _ _ h (by omega), ← Int.natCast_add, h1, wrap64n _ hda]
    have eb : IntKind.u64.wrap (bits .and .u64 (((V (l.map s1) : Nat) : Int) / 4) 3689348814741910323 + bits .and .u64 ((V (l.map s1) : Nat) : Int) 3689348814741910323) = ((V ((l.map s1).map s2) : Nat) : Int) := by
      have : (((V (l.map s1) : Nat) : Int) / 4) = ((V (l.map s1) / 4 : Nat) : Int) := by omega
      rw [this, u3, u64_and_nat _ _ (by omega) (by omega), u64_and_nat _ _ hda (by omega), ← Int.natCast_add, h2, wrap64n _ hdb]
    generalize hB : V ((l.map s1).map s2) = B at *
    have ec : bits .and .u64 (IntKind.u64.wrap ((B : Int) / 16 + (B : Int))) 1085102592571150095 = (((B / 16 + B) &&& 1085102592571150095 : Nat) : Int) := by
      have : ((B : Int) / 16 + (B : Int)) = ((B / 16 + B : Nat) : Int) := by omega
      rw [this, wrap64n _ hlo, u4, u64_and_nat _ _ hlo (by omega)]
    simp only [ea, eb, ec]
    generalize (B / 16 + B) &&& 1085102592571150095 = c at *
    obtain ⟨k1, k2, k3, k4⟩ := k
    have ed : IntKind.u64.wrap ((c : Int) + (c : Int) / 256) = ((c + c / 256 : Nat) : Int) := by
      rw [show ((c : Int) + (c : Int) / 256) = ((c + c / 256 : Nat) : Int) by omega, wrap64n _ k2]
    rw [ed]
    generalize c + c / 256 = d at *
    have ee : IntKind.u64.wrap ((d : Int) + (d : Int) / 65536) = ((d + d / 65536 : Nat) : Int) := by
      rw [show ((d : Int) + (d : Int) / 65536) = ((d + d / 65536 : Nat) : Int) by omega, wrap64n _ k3]
    rw [ee]
    generalize d + d / 65536 = e at *
    have ef : IntKind.u64.wrap ((e : Int) + (e : Int) / 4294967296) = ((e + e / 4294967296 : Nat) : Int) := by
      rw [show ((e : Int) + (e : Int) / 4294967296) = ((e + e / 4294967296 : Nat) : Int) by omega, wrap64n _ k4]
    rw [ef, and127 _ k4, k1, hcnt]
end Go.Proofs.Lw
namespace Go.Proofs.Lw
open Go Go.RowKit

/-- a number of first bits, held to 0 .. 64 -/
def hold (n : Int) : Nat := (min (max n 0) 64).toNat
theorem hold_le (n : Int) : hold n ≤ 64 := by unfold hold; omega
theorem hold_eq (n : Int) : min (max n 0) 64 = (hold n : Int) := by unfold hold; omega
theorem hold_of (n : Nat) (h : n ≤ 64) : hold n = n := by unfold hold; omega

abbrev W64 : Nat := 18446744073709551616
theorem maskN_eq (n : Nat) (h : n ≤ 64) : maskN n = 2 ^ n - 1 := by
  unfold maskN
  by_cases h1 : n = 64
  · subst h1; rfl
  · rw [if_neg (by omega)]; simp
theorem and_mask (v n : Nat) (hv : v < W64) (h : n ≤ 64) : bits .and .u64 v (maskN n) = ((v % 2 ^ n : Nat) : Int) := by
  rw [maskN_eq n h]
  have h1 : (2 : Nat) ^ n ≤ 2 ^ 64 := Nat.pow_le_pow_right (by omega) h
  have h2 : 1 ≤ (2 : Nat) ^ n := Nat.one_le_two_pow
  rw [u64_and_nat _ _ hv (by unfold W64 at *; omega), Nat.and_two_pow_sub_one_eq_mod]
theorem onesW_eq (v : Nat) (n : Int) (hv : v < W64) : onesW v n = (cnt v (hold n) : Nat) := by
  unfold onesW
  rw [hold_eq, and_mask v _ hv (hold_le n)]
  have h1 : v % 2 ^ hold n < W64 := Nat.lt_of_le_of_lt (Nat.mod_le _ _) hv
  rw [onesI_eq _ h1, cnt_mod_ge _ _ _ (hold_le n)]
theorem ones_nat (v : Nat) (n : Int) (hv : v < W64) (w : World) :
    Calls Tryz.prog 173 #[.int .u64 v, .int .i64 n] w fun e w' => e = .returned (.int .i64 (cnt v (hold n) : Nat)) ∧ w = w' := by
  rw [← onesW_eq v n hv]; exact ones_call v n w

theorem fieldW_eq (v : Nat) (i n : Nat) (hv : v < W64) : fieldW v i n = (if n < 1 then 0 else if 64 ≤ i then 0 else (v / 2 ^ i) % 2 ^ n : Nat) := by
  unfold fieldW
  by_cases h1 : n < 1
  · rw [if_pos (by omega), if_pos h1]; rfl
  rw [if_neg (by omega), if_neg h1]
  by_cases h2 : 64 ≤ i
  · rw [if_pos (by omega), if_pos h2]; rfl
  rw [if_neg (by omega), if_neg h2]
  have e : (v : Int) / 2 ^ ((i : Int).toNat) = ((v / 2 ^ i : Nat) : Int) := by simp
  have h3 : v / 2 ^ i < W64 := Nat.lt_of_le_of_lt (Nat.div_le_self _ _) hv
  rw [e]
  by_cases h4 : n ≤ 64
  · rw [and_mask _ _ h3 h4]
  · have : maskN n = maskN (64 : Nat) := by unfold maskN; rw [if_pos (by omega), if_pos (by omega)]
    rw [this, and_mask _ _ h3 (Nat.le_refl _)]
    have h5 : v / 2 ^ i < 2 ^ n := Nat.lt_of_lt_of_le h3 (Nat.pow_le_pow_right (n := 2) (by omega) (by omega : 64 ≤ n))
    rw [Nat.mod_eq_of_lt h5, Nat.mod_eq_of_lt h3]
/-- the bits of v from place i on, n of them -/
def fld (v i n : Nat) : Nat := if n < 1 then 0 else if 64 ≤ i then 0 else (v / 2 ^ i) % 2 ^ n
theorem fld_lt (v i n : Nat) (hv : v < W64) : fld v i n < W64 := by
  unfold fld
  split
  · unfold W64; omega
  split
  · unfold W64; omega
  · exact Nat.lt_of_le_of_lt (Nat.mod_le _ _) (Nat.lt_of_le_of_lt (Nat.div_le_self _ _) hv)
theorem field_nat (v i n : Nat) (hv : v < W64) (w : World) :
    Calls Tryz.prog 125 #[.int .u64 v, .int .i64 i, .int .i64 n] w fun e w' => e = .returned (.int .u64 (fld v i n : Nat)) ∧ ∃ k, w' = w.drewN k := by
  have := field_call v i n (by omega) w
  rwa [fieldW_eq v i n hv] at this

/-- the excess of the first n bits -/
def exc (v n : Nat) : Int := 2 * (cnt v n : Int) - n
theorem exc_bd (v n : Nat) : -(n : Int) ≤ exc v n ∧ exc v n ≤ n := by unfold exc; have := cnt_le v n; omega
theorem exc_succ (v n : Nat) : exc v (n + 1) = exc v n + (if v.testBit n then 1 else -1) := by
  unfold exc; simp only [cnt]
  cases v.testBit n <;> simp <;> omega
theorem excess_nat (v : Nat) (n : Int) (hv : v < W64) (w : World) :
    Calls Tryz.prog 225 #[.int .u64 v, .int .i64 n] w fun e w' => e = .returned (.int .i64 (exc v (hold n))) ∧ w = w' := by
  refine (excess_call v n w).mono ?_
  rintro e w' ⟨rfl, rfl⟩
  refine ⟨ret_int ?_, rfl⟩
  rw [onesW_eq v n hv, hold_eq]
  have h1 := cnt_le v (hold n)
  have h2 := hold_le n
  unfold exc wrap64
  omega

/-- the least, and the greatest, excess of 1 .. n first bits -/
def mnE (v : Nat) : Nat → Int
  | 0 => 64
  | n + 1 => min (mnE v n) (exc v (n + 1))
def mxE (v : Nat) : Nat → Int
  | 0 => -64
  | n + 1 => max (mxE v n) (exc v (n + 1))
theorem mnE_bd (v n : Nat) (h : n ≤ 64) : -64 ≤ mnE v n ∧ mnE v n ≤ 64 := by
  induction n with
  | zero => simp [mnE]
  | succ n ih => have := exc_bd v (n + 1); have := ih (by omega); simp only [mnE]; omega
theorem mxE_bd (v n : Nat) (h : n ≤ 64) : -64 ≤ mxE v n ∧ mxE v n ≤ 64 := by
  induction n with
  | zero => simp [mxE]
  | succ n ih => have := exc_bd v (n + 1); have := ih (by omega); simp only [mxE]; omega

theorem and_one (v : Nat) (hv : v < W64) : bits .and .u64 (v : Int) 1 = ((v % 2 : Nat) : Int) := by
  have := and_mask v 1 hv (by omega)
  simpa [maskN] using this
theorem testBit_div (v i : Nat) : (v / 2 ^ i) % 2 = (v.testBit i).toNat := by
  rw [Nat.testBit_eq_decide_div_mod_eq]
  by_cases h : v / 2 ^ i % 2 = 1
  · simp [h]
  · have : v / 2 ^ i % 2 = 0 := by omega
    simp [this]
theorem exc_step (v i : Nat) : exc v i + ((((v / 2 ^ i) % 2 : Nat) : Int) * 2 - 1) = exc v (i + 1) := by
  rw [exc_succ, testBit_div]; cases v.testBit i <;> simp

theorem conv_float (n : Int) (w : World) : (convert 3 227 (.int .i64 n)).run Tryz.prog w = .ok (.float .f64 (fl n)) w := by kernel_rfl
theorem mk_complex (a b : Nat) (w : World) : (Builtin.complex_ #[227, 227] 222 #[.float .f64 a, .float .f64 b]).run Tryz.prog w = .ok (.complex .f64 a b) w := by kernel_rfl
theorem first_nat (n : Int) (w : World) : Calls Tryz.prog 229 #[.int .i64 n] w fun e w' => e = .returned (.int .i64 (hold n)) ∧ w = w' := by
  rw [← hold_eq]; exact first_call n w
/-- the reach of n first bits, as floats -/
def reLo (v n : Nat) : Nat := if n = 0 then 0 else fl (mnE v n)
def reHi (v n : Nat) : Nat := if n = 0 then 0 else fl (mxE v n)
theorem reach_call (v : Nat) (n : Int) (hv : v < W64) (w : World) :
    Calls Tryz.prog 226 #[.int .u64 v, .int .i64 n] w fun e w' =>
      e = .returned (.complex .f64 (reLo v (hold n)) (reHi v (hold n))) ∧ w = w' := by
  have hle := hold_le n
  generalize hN : hold n = N at *
  have HN := Lib.hid hN
  clear hN
  by_cases h0 : N = 0
  · have hz : ((N : Int) == 0) = true := by rw [beq_iff_eq]; omega
    have H0 := Lib.hid h0
    clear h0
    go_enter Tryz.func226, Tryz.ntmps226
    go_wp2_with (go_at_call 229; refine (first_nat _ _).mono ?_; rintro e w' ⟨rfl, rfl⟩; rw [HN.out])
    go_ret
    exact ⟨by rw [reLo, reHi, if_pos H0.out, if_pos H0.out]; rfl, rfl⟩
  · have hz : ((N : Int) == 0) = false := by rw [beq_eq_false_iff_ne]; omega
    have H0 := Lib.hid h0
    clear h0
    go_enter Tryz.func226, Tryz.ntmps226
    go_wp2_with (go_at_call 229; refine (first_nat _ _).mono ?_; rintro e w' ⟨rfl, rfl⟩; rw [HN.out])
    go_loop [0, 5, 6, 7, 13] (fun a l m e i => ∃ k : Nat, k ≤ N ∧ a = .int .u64 ((v / 2 ^ k : Nat)) ∧ l = .int .i64 (mnE v k) ∧ m = .int .i64 (mxE v k) ∧ e = .int .i64 (exc v k) ∧ i = .int .i64 k) (fun _ _ _ _ i => N - (intOf i).toNat)
    case atStart => exact ⟨0, Nat.zero_le _, by simp, rfl, rfl, rfl, rfl⟩
    case round =>
      obtain ⟨k, hk, rfl, rfl, rfl, rfl, rfl⟩ := hrel
      have h1 := mnE_bd v k (by omega)
      have h2 := mxE_bd v k (by omega)
      have h3 := exc_bd v k
      by_cases hlt : k < N
      · have hvk : v / 2 ^ k < W64 := Nat.lt_of_le_of_lt (Nat.div_le_self _ _) hv
        have HE := Lib.hid (exc_step v k)
        have HX : Hid (v / 2 ^ k / 2 = v / 2 ^ (k + 1)) := Lib.hid (by rw [Nat.div_div_eq_div_mul, Nat.pow_succ])
        generalize v / 2 ^ k = x at *
        have hA := and_one x hvk
        have h4 : x % 2 < 2 := Nat.mod_lt _ (by omega)
        generalize x % 2 = y at *
        go_wp2
        refine ⟨⟨k + 1, by omega, ?_, ?_, ?_, ?_, by go_num⟩, by simp [intOf]; omega⟩
        · rw [← HX.out]; congr 1
        · rw [mnE, ← HE.out]; congr 1; omega
        · rw [mxE, ← HE.out]; congr 1; omega
        · rw [← HE.out]
      · have hc := conv_float
        have hmk := mk_complex
        obtain rfl : k = N := by omega
        have HR : Hid (reLo v k = fl (mnE v k) ∧ reHi v k = fl (mxE v k)) := Lib.hid ⟨by rw [reLo, if_neg H0.out], by rw [reHi, if_neg H0.out]⟩
        generalize mnE v k = a at *
        generalize mxE v k = b at *
        go_wp2
        go_ret
        exact ⟨by rw [HR.out.1, HR.out.2]; rfl, rfl⟩

/-- where the excess is first so great: 0 where it is nowhere within n -/
def findE (v n : Nat) (d : Int) : Nat → Nat
  | 0 => 0
  | f + 1 => if exc v (n - f) = d then n - f else findE v n d f

theorem shr_step (v k : Nat) (hv : v < W64) : bits .and .u64 ((v : Int) / 2 ^ k) 1 = (((v / 2 ^ k) % 2 : Nat) : Int) := by
  have := and_one (v / 2 ^ k) (Nat.lt_of_le_of_lt (Nat.div_le_self _ _) hv)
  simpa using this

theorem find_call (v : Nat) (n d : Int) (hv : v < W64) (w : World) :
    Calls Tryz.prog 368 #[.int .u64 v, .int .i64 n, .int .i64 d] w fun e w' => e = .returned (.int .i64 (findE v (hold n) d (hold n) : Nat)) ∧ w = w' := by
  have hle := hold_le n
  generalize hN : hold n = N at *
  have HN := Lib.hid hN
  clear hN
  go_enter Tryz.func368, Tryz.ntmps368
  go_wp2_with fail
  refine wp_scope_labels (fun l a w' => l = 0 ∧ w' = w ∧ ∃ k : Nat, k ≤ N ∧ findE v N d N = findE v N d (N - k) ∧ ∃ y3 y4 y5 y6 y9 y10 y11 y12 y13 y14 y15 y16 y17 y18 y19 y20 y21 y22 y23 y24 y25 y26 y27 y28 : Value, a = { tmps := #[.int .u64 v, .int .i64 N, .int .i64 d, y3, y4, y5, y6, .int .i64 k, .int .i64 (exc v k), y9, y10, y11, y12, y13, y14, y15, y16, y17, y18, y19, y20, y21, y22, y23, y24, y25, y26, y27, y28], defers := [] })
    (fun _ a _ => N - (intOf (a.tmps.getD 7 undef)).toNat) ?_ ?_
  · rintro l a w' ⟨rfl, rfl, k, hk, hf, y3, y4, y5, y6, y9, y10, y11, y12, y13, y14, y15, y16, y17, y18, y19, y20, y21, y22, y23, y24, y25, y26, y27, y28, rfl⟩ Q2 hg hr _
    refine ⟨_, rfl, ?_⟩
    by_cases hlt : k = N
    · subst hlt
      have hq : ((k : Int) == k) = true := by simp
      have HF := Lib.hid hf
      clear hf
      go_wp2
      refine hr _ _ ?_
      go_ret
      exact ⟨ret_int (by rw [HF.out]; simp [findE]), rfl⟩
    · have hq : ((k : Int) == N) = false := by rw [beq_eq_false_iff_ne]; omega
      have HA := shr_step v k hv
      have HE := Lib.hid (exc_step v k)
      have h4 : v / 2 ^ k % 2 < 2 := Nat.mod_lt _ (by omega)
      generalize v / 2 ^ k % 2 = y at *
      have h3 := exc_bd v k
      have hF : findE v N d (N - k) = if exc v (k + 1) = d then k + 1 else findE v N d (N - (k + 1)) := by
        obtain ⟨m, hm⟩ : ∃ m, N - k = m + 1 := ⟨N - k - 1, by omega⟩
        rw [hm, findE, show N - m = k + 1 by omega, show N - (k + 1) = m by omega]
      have HF := Lib.hid (hf.trans hF)
      clear hF hf
      go_wp2
      · have hne : exc v (k + 1) ≠ d := by rw [← HE.out]; exact bne_iff_ne.1 (by assumption)
        go_step3
        refine hg 0 _ _ ⟨rfl, rfl, k + 1, by omega, ?_, ?_⟩ ?_
        · rw [HF.out, if_neg hne]
        · rw [← HE.out]; exact ⟨_, _, _, _, _, _, _, _, _, _, _, _, _, _, _, _, _, _, _, _, _, _, _, _, rfl⟩
        · simp [intOf]; omega
      · have hne : exc v (k + 1) = d := by rw [← HE.out]; exact bne_eq_false_iff_eq.1 (by assumption)
        refine hr _ _ ?_
        go_ret
        exact ⟨ret_int (by rw [HF.out, if_pos hne]; rfl), rfl⟩
  · intro Q2 hg hr _ hp
    go_wp2_with (go_at_call 229; refine (first_nat _ _).mono ?_; rintro e w' ⟨rfl, rfl⟩; rw [HN.out])
    go_step3
    go_step
    go_step
    exact hp 0 _ _ _ ⟨rfl, rfl, 0, by omega, rfl, _, _, _, _, _, _, _, _, _, _, _, _, _, _, _, _, _, _, _, _, _, _, _, _, rfl⟩ rfl
end Go.Proofs.Lw
namespace Go.Proofs.Lw
open Go Go.RowKit
section
variable {P : Program} {ops : Array Oper} {md : Region.Mode} {C : World → Prop}

/-- f operations of the first n, in whatever order they come up; then L -/
def headQ (P : Program) (md : Region.Mode) (ops : Array Oper) (C : World → Prop) (n : Nat) (L : Array Bool → Act → Prop) : Nat → Array Bool → Act → Prop
  | 0, done, a => L done a
  | f + 1, done, a => Region.ready md ops done ≠ [] ∧ ∀ i ∈ Region.ready md ops done, i < n ∧ qOp P ops C i (headQ P md ops C n L f (done.setIfInBounds i true)) a

theorem headQ_any {n g : Nat} {L : Array Bool → Act → Prop} {Q : Exit → Act → World → Prop} (hL : ∀ done a w, C w → L done a → wpAny P md ops Q g done a w) (f : Nat) :
    ∀ (done : Array Bool) (a : Act) (w : World), C w → headQ P md ops C n L f done a → wpAny P md ops Q (f + g) done a w := by
  induction f with
  | zero => intro done a w hw h; rw [Nat.zero_add]; exact hL _ _ _ hw h
  | succ f ih =>
    intro done a w hw h
    rw [Nat.succ_add]
    refine ⟨fun h0 => absurd h0 h.1, fun i hi => ?_⟩
    exact wpOp_of_qOp hw (fun a' w' hw' h' => ih _ a' w' hw' h') (h.2 i hi).2

theorem headQ_front {n i : Nat} {oi : Oper} {v : Value} {L : Array Bool → Act → Prop} (hi : ops[i]? = some oi) (hsel : ∀ (j : Nat) (o : Oper) cs b, ops[j]? = some o → o.op ≠ .select cs b)
    (hs : Region.sinkB md ops n = true) (hc : Region.chainB md ops n = true) (hn : n < ops.size) (hin : i < n) (hdone : ∀ done a, L done a → ∀ j ∈ Region.ready md ops done, n ≤ j) (f : Nat) :
    ∀ (done : Array Bool) (a : Act), HeadInv md ops n done →
      (∀ j oj, ops[j]? = some oj → j ≠ i → done.getD j true = false → (∀ e ∈ oj.after, Region.binds md e = true → e.on ≠ i) → oi.apart ops oj = true) →
      i ∈ Region.ready md ops done → YieldsIn P ops C oi v a → headQ P md ops C n L f (done.setIfInBounds i true) (a.put oi.dst v) → headQ P md ops C n L (f + 1) done a := by
  induction f with
  | zero =>
    intro done a inv _ hr hy hH
    refine ⟨fun h => (by rw [h] at hr; cases hr), fun j hj => ?_⟩
    have hjn : j < n := (Nat.lt_or_ge j n).resolve_right fun h => tail_waits hs hc hn inv _ i rfl hin (mem_ready.1 hr).1 j h hj
    refine ⟨hjn, ?_⟩
    by_cases e : j = i
    · subst e; exact hy.qOp hi hH
    · exact absurd (hdone _ _ hH j (ready_mono hj e)) (by omega)
  | succ f ih =>
    intro done a inv hfree hr hy hH
    refine ⟨fun h => (by rw [h] at hr; cases hr), fun j hj => ?_⟩
    have hjn : j < n := (Nat.lt_or_ge j n).resolve_right fun h => tail_waits hs hc hn inv _ i rfl hin (mem_ready.1 hr).1 j h hj
    refine ⟨hjn, ?_⟩
    by_cases e : j = i
    · subst e; exact hy.qOp hi hH
    · obtain ⟨hju, oj, hoj, hall⟩ := mem_ready.1 hj
      have hno : ∀ d ∈ oj.after, Region.binds md d = true → d.on ≠ i := by
        intro d hd hb heq
        have := hall d hd hb
        rw [heq, getD_both (mem_ready.1 hr).1] at this
        cases this
      have h2 := qOp_put hoj (hfree j oj hoj e hju hno) (fun cs b => hsel i oi cs b hi) (fun cs b => hsel j oj cs b hoj) hy (hH.2 j (ready_mono hj e)).2
      refine qOp_mono (fun a' h3 => ih _ a' (inv.set hj hjn) (fun k ok hk hki hun hw => ?_) (ready_mono hr (Ne.symm e)) h3.1 ?_) h2
      · refine hfree k ok hk hki ?_ hw
        by_cases ejk : j = k
        · subst ejk; exact hju
        · rwa [getD_set_ne true ejk] at hun
      · rw [Array.setIfInBounds_comm _ _ e]; exact h3.2

theorem headQ_lex {n g : Nat} {A : Act → Prop} (hsel : Region.noSelect ops = true) (hs : Region.sinkB md ops n = true) (hc : Region.chainB md ops n = true) (hn : n < ops.size) (l : List Oper) :
    ∀ (k : Nat) (done : Array Bool) (a : Act), (∀ j, j < l.length → l[j]? = ops[k + j]?) → k + l.length = n → HeadInv md ops n done → Region.lexHead md ops g l.length k done = true → wpQuiet P ops C A l a →
      headQ P md ops C n (fun d b => Region.seqB md ops g n d = true ∧ A b) l.length done a := by
  induction l with
  | nil =>
    intro k done a _ hk _ hB h
    obtain rfl : k = n := by simpa using hk
    exact ⟨by simpa [Region.lexHead] using hB, h⟩
  | cons o l ih =>
    intro k done a hl hk inv hB h
    have h0 : ops[k]? = some o := by simpa using (hl 0 (by simp)).symm
    simp only [List.length_cons, Region.lexHead, Bool.and_eq_true] at hB hk
    have hq : qOp P ops C k (wpQuiet P ops C A l) a := by unfold qOp; simp only [h0]; exact h
    obtain ⟨v, hy, hK⟩ := yieldsIn_of_qOp h0 hq
    have hr : k ∈ Region.ready md ops done := by simpa using hB.1.1
    exact headQ_front h0 (Region.noSelect_spec hsel) hs hc hn (by omega) (fun d b hL => seqB_ready hL.1) l.length done a inv (Region.free_spec h0 hB.1.2) hr hy
      (ih (k + 1) _ _ (fun j hj => by have := hl (j + 1) (by simp; omega); simpa [Nat.add_assoc, Nat.add_comm 1 j] using this) (by omega) (inv.set hr (by omega)) hB.2 hK)

/-- The first n operations quiet in a class, the rest in the text's order. -/
theorem wp_region_quiet_tail {id : Nat} {Q : Exit → Act → World → Prop} {a : Act} {w : World} {l : List Oper} (n : Nat) (hm : P.follows .mixedOrders = true) (hB : Region.lexTailB .any l.toArray n = true) (hC : C { w with drawn := w.drawn + 1 })
    (h : wpQuiet P l.toArray C (fun a' => ∀ w', C w' → wpList P l.toArray Q (l.drop n) a' w') (l.take n) a) : (Code.region id l.toArray true).wp P Q a w := by
  simp only [Region.lexTailB, Bool.and_eq_true, decide_eq_true_eq] at hB
  obtain ⟨⟨⟨⟨hsel, hn⟩, hs⟩, hc⟩, hlex⟩ := hB
  have hlen : (l.take n).length = n := by have : n < l.length := by simpa using hn
                                          simp; omega
  have hdl : (l.drop n).length = l.toArray.size - n := by simp
  have inv0 : HeadInv .any l.toArray n (Array.replicate l.toArray.size false) :=
    ⟨by simp, fun j oj _ hl => (by rw [getD_replicate_false] at hl; cases hl), fun t _ ht => getD_in (by simpa using ht) (getD_replicate_false _ _)⟩
  have hH := headQ_lex (md := .any) (g := l.toArray.size - n) hsel hs hc hn (l.take n) 0 _ a (fun j hj => by rw [hlen] at hj; simp [hj]) (by simpa using hlen) inv0 (by rw [hlen]; exact hlex) h
  refine wp_region_any hm ?_
  have := headQ_any (Q := Q) (g := l.toArray.size - n) (fun d b w' hw' hL => by
    have := wpAny_of_seq (md := .any) (Q' := Q) (l.drop n) n d b w' (fun j => by simp [List.getElem?_drop]) (by rw [hdl]; exact hL.1) (hL.2 w' hw')
    rwa [hdl] at this) _ _ _ _ hC hH
  rw [hlen] at this
  rwa [show n + (l.toArray.size - n) = l.toArray.size by omega] at this
end

/-- the worlds that come of w by what leaves all that was there as it was -/
structure ExtW (w : World) : Type where
  val : World
  property : Ext w val
instance (w : World) : Nonempty (ExtW w) := ⟨⟨w, Ext.refl w⟩⟩
abbrev ExtC (w : World) : World → Prop := fun w' => ∃ x : ExtW w, w' = x.val
theorem ExtC.start (w : World) : ExtC w { w with drawn := w.drawn + 1 } := ⟨⟨w.drew, Ext.drewN w 1⟩, rfl⟩
/-- a callee's contract, met within a class -/
theorem quiet_ext {P : Program} {f : FuncId} {args : Array Value} {w : World} {x : ExtW w} {v : Value}
    (h : Calls P f args x.val fun e w' => e = .returned v ∧ Ext x.val w') : Calls P f args x.val fun e w'' => e = .returned v ∧ ∃ y : ExtW w, w'' = y.val :=
  h.mono fun _ w' ⟨he, hx⟩ => ⟨he, ⟨w', x.property.trans hx⟩, rfl⟩
theorem quiet_ext_same {P : Program} {f : FuncId} {args : Array Value} {w : World} {x : ExtW w} {v : Value}
    (h : Calls P f args x.val fun e w' => e = .returned v ∧ x.val = w') : Calls P f args x.val fun e w'' => e = .returned v ∧ ∃ y : ExtW w, w'' = y.val :=
  h.mono fun _ _ ⟨he, hx⟩ => ⟨he, x, hx.symm⟩
theorem quiet_ext_drewN {P : Program} {f : FuncId} {args : Array Value} {w : World} {x : ExtW w} {v : Value}
    (h : Calls P f args x.val fun e w' => e = .returned v ∧ ∃ k, w' = x.val.drewN k) : Calls P f args x.val fun e w'' => e = .returned v ∧ ∃ y : ExtW w, w'' = y.val :=
  h.mono fun _ w' ⟨he, k, hx⟩ => ⟨he, ⟨w', hx ▸ x.property.trans (Ext.drewN _ k)⟩, rfl⟩
end Go.Proofs.Lw
