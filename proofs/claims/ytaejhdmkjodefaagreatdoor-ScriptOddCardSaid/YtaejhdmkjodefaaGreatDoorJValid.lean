/- scan.text walked. scan.Validate. -/
import Derived.Test.YtaejhdmkjodefaaGreatDoorJScanI
set_option linter.unusedSimpArgs false
set_option linter.unusedVariables false
namespace Go.Proofs.Lw
open Go Go.RowKit

/-- how far a label is from the end -/
def muS (n l k : Nat) : Nat := 2 * (n - k) + if l = 3 then 1 else 0
def inv1 (n l k : Nat) (st : List Bool) : Prop := l = 1 → st ≠ [] ∧ k < n
def kOf (w : World) (g : Nat) : Nat := match w.cell? ⟨g, 1, none⟩ with | some v => (intOf v).toNat | none => 0
theorem muS_ne (n l k : Nat) (h : l ≠ 3) : muS n l k = 2 * (n - k) := by unfold muS; rw [if_neg h, Nat.add_zero]
theorem muS_3 (n k : Nat) : muS n 3 k = 2 * (n - k) + 1 := by unfold muS; rw [if_pos rfl]
theorem kOf_eq {w0 w : World} {g : Nat} {s : ByteArray} {k : Nat} {st : List Bool} {m : Nat} (h : ScanA w0 w g s k st m) : kOf w g = k := by
  unfold kOf
  rw [h.facts.2.1]
  simp [intOf]
/-- what holds at a label -/
def AtL (w0 : World) (g : Nat) (s : ByteArray) (T : Res) (l : Nat) (w : World) : Prop :=
  ∃ (f k : Nat) (st : List Bool) (m : Nat), st.length ≤ k ∧ m ≤ k ∧ inv1 s.size l k st ∧ muS s.size l k < f ∧ T = textF s f (l, k, st, m) ∧ ScanA w0 w g s k st m
set_option maxHeartbeats 4000000 in
set_option maxRecDepth 100000 in
theorem text_call (g : Nat) (s : ByteArray) (w : World) (h : ScanS w g s 0 [] 0) (hs : s.size ≤ 65536) :
    Calls Tryz.prog 74 #[.pointer (some ⟨g, 0, none⟩)] w fun e w' => e = .returned (.bool (textS s).2.1) ∧ ∃ st, Hid (ScanA w w' g s (textS s).1 st (textS s).2.2) := by
  have hs2 : s.size ≤ 1073741824 := by omega
  have hgl : g ≤ w.heap.size := by
    obtain ⟨v, ws, hb, _⟩ := h.ex
    exact Nat.le_of_lt (Blk.lt hb)
  have H0 : Hid (AtL w g s (textS s) 0 w) := Lib.hid ⟨_, 0, [], 0, Nat.le_refl _, Nat.le_refl _, (fun e => absurd e (by decide)), (by rw [muS_ne _ _ _ (by decide)]; omega), rfl, ⟨h, Below.refl _ _, Nat.zero_le _⟩⟩
  clear h
  generalize textS s = T at *
  have HBl := Lib.hid (fun k st m W (hW : ScanA w W g s k st m) => blanksA hW hs2)
  have HNx := Lib.hid (fun k st m W (hW : ScanA w W g s k st m) => nextA hW hs2)
  have HLf := Lib.hid (fun k st m W (hW : ScanA w W g s k st m) => leafA hW hs2)
  have HSr := Lib.hid (fun k st m W (hW : ScanA w W g s k st m) => strA hW hs2)
  have HCo := Lib.hid (fun k st m W (hW : ScanA w W g s k st m) => colonA hW hs2)
  have HOb := Lib.hid (fun k st m W (hW : ScanA w W g s k st m) (hd : st.length ≤ 1048576) => objectA hW hd)
  have HPu := Lib.hid (fun one k st m W (hW : ScanA w W g s k st m) (hd : st.length ≤ 1048576) (hk : k < s.size) (hm : m ≤ 1073741824) => pushA one hW hd hk hs2 hm)
  have HPo := Lib.hid (fun b k st m W (hW : ScanA w W g s k (b :: st) m) (hd : st.length ≤ 1048576) (hk : k < s.size) => popA hW hd hk hs2)
  go_enter Tryz.func74, Tryz.ntmps74
  go_wp2_with fail
  refine wp_scope_labels (fun l a w' => l ≤ 3 ∧ AtL w g s T l w' ∧ ∃ y1 y2 y3 y4 y5 y6 y7 y8 y9 y10 y11 y12 y13 y14 y15 y16 y17 y18 y19 y20 y21 y22 y23 y24 y25 y26 y27 y28 y29 y30 y31 y32 y33 y34 y35 y36 y37 y38 y39 y40 y41 y42 y43 y44 y45 y46 y47 y48 y49 y50 y51 y52 y53 y54 y55 y56 y57 y58 y59 y60 y61 y62 y63 y64 y65 y66 y67 y68 y69 y70 y71 y72 y73 y74 y75 y76 y77 y78 y79 y80 y81 y82 y83 y84 y85 y86 y87 y88 y89 y90 y91 y92 y93 y94 y95 y96 y97 : Value, a = { tmps := #[.pointer (some ⟨g, 0, none⟩), y1, y2, y3, y4, y5, y6, y7, y8, y9, y10, y11, y12, y13, y14, y15, y16, y17, y18, y19, y20, y21, y22, y23, y24, y25, y26, y27, y28, y29, y30, y31, y32, y33, y34, y35, y36, y37, y38, y39, y40, y41, y42, y43, y44, y45, y46, y47, y48, y49, y50, y51, y52, y53, y54, y55, y56, y57, y58, y59, y60, y61, y62, y63, y64, y65, y66, y67, y68, y69, y70, y71, y72, y73, y74, y75, y76, y77, y78, y79, y80, y81, y82, y83, y84, y85, y86, y87, y88, y89, y90, y91, y92, y93, y94, y95, y96, y97], defers := [] }) (fun l _ w' => muS s.size l (kOf w' g)) ?_ ?_
  · rintro l a w' ⟨hl3, ⟨f, k, st, m, hst, hm, hi1, hf, hT, hA⟩, y1, y2, y3, y4, y5, y6, y7, y8, y9, y10, y11, y12, y13, y14, y15, y16, y17, y18, y19, y20, y21, y22, y23, y24, y25, y26, y27, y28, y29, y30, y31, y32, y33, y34, y35, y36, y37, y38, y39, y40, y41, y42, y43, y44, y45, y46, y47, y48, y49, y50, y51, y52, y53, y54, y55, y56, y57, y58, y59, y60, y61, y62, y63, y64, y65, y66, y67, y68, y69, y70, y71, y72, y73, y74, y75, y76, y77, y78, y79, y80, y81, y82, y83, y84, y85, y86, y87, y88, y89, y90, y91, y92, y93, y94, y95, y96, y97, rfl⟩ Q2 hg hr _
    obtain ⟨f, rfl⟩ : ∃ f', f = f' + 1 := ⟨f - 1, by omega⟩
    rw [textF_succ] at hT
    have hkl := hA.le
    have HM : Hid (∀ (l2 : Nat) (w2 : World) (k2 : Nat) (st2 : List Bool) (m2 : Nat), ScanA w w2 g s k2 st2 m2 → muS s.size l2 k2 < muS s.size l k → muS s.size l2 (kOf w2 g) < muS s.size l (kOf w' g)) :=
      Lib.hid (fun l2 w2 k2 st2 m2 h2 hlt => by rw [kOf_eq h2, kOf_eq hA]; exact hlt)
    have HGo : Hid (∀ (l2 : Nat) (a2 : Act) (w2 : World) (k2 : Nat) (st2 : List Bool) (m2 : Nat), l2 ≤ 3 → st2.length ≤ k2 → m2 ≤ k2 → inv1 s.size l2 k2 st2 → muS s.size l2 k2 < muS s.size l k → T = textF s f (l2, k2, st2, m2) → ScanA w w2 g s k2 st2 m2 →
        (∃ y1 y2 y3 y4 y5 y6 y7 y8 y9 y10 y11 y12 y13 y14 y15 y16 y17 y18 y19 y20 y21 y22 y23 y24 y25 y26 y27 y28 y29 y30 y31 y32 y33 y34 y35 y36 y37 y38 y39 y40 y41 y42 y43 y44 y45 y46 y47 y48 y49 y50 y51 y52 y53 y54 y55 y56 y57 y58 y59 y60 y61 y62 y63 y64 y65 y66 y67 y68 y69 y70 y71 y72 y73 y74 y75 y76 y77 y78 y79 y80 y81 y82 y83 y84 y85 y86 y87 y88 y89 y90 y91 y92 y93 y94 y95 y96 y97 : Value, a2 = { tmps := #[.pointer (some ⟨g, 0, none⟩), y1, y2, y3, y4, y5, y6, y7, y8, y9, y10, y11, y12, y13, y14, y15, y16, y17, y18, y19, y20, y21, y22, y23, y24, y25, y26, y27, y28, y29, y30, y31, y32, y33, y34, y35, y36, y37, y38, y39, y40, y41, y42, y43, y44, y45, y46, y47, y48, y49, y50, y51, y52, y53, y54, y55, y56, y57, y58, y59, y60, y61, y62, y63, y64, y65, y66, y67, y68, y69, y70, y71, y72, y73, y74, y75, y76, y77, y78, y79, y80, y81, y82, y83, y84, y85, y86, y87, y88, y89, y90, y91, y92, y93, y94, y95, y96, y97], defers := [] }) → Q2 (.goto l2) a2 w2) :=
      Lib.hid (fun l2 a2 w2 k2 st2 m2 h1 h2 h3 h4 h5 h6 h7 h8 => hg l2 a2 w2 ⟨h1, ⟨f, k2, st2, m2, h2, h3, h4, by omega, h6, h7⟩, h8⟩ (HM.out l2 w2 k2 st2 m2 h7 h5))
    have HR := Lib.hid hr
    have HA := Lib.hid hA
    have HI1 := Lib.hid hi1
    clear hg hr hA HM H0 hi1
    rcases (by omega : l = 0 ∨ l = 2 ∨ (l = 1 ∨ l = 3)) with rfl | rfl | h13
    · -- a value
      have HT : Hid (T = contF s f (stepV s k st m)) := Lib.hid (by rw [hT]; rfl)
      clear hT HI1 hf HPo
      refine ⟨_, rfl, ?_⟩
      have hk1 := skipB_ge s k
      have hk1' := skipB_le s k hkl
      have HV : Hid (stepV s k st m = if nxt s (skipB s k) = 91 then .inl (if nxt s (skipB s (skipB s k + 1)) = 93 then 1 else 0, skipB s (skipB s k + 1), false :: st, max m (st.length + 1))
        else if nxt s (skipB s k) = 123 then .inl (if nxt s (skipB s (skipB s k + 1)) = 125 then 1 else 2, skipB s (skipB s k + 1), true :: st, max m (st.length + 1))
        else if (leafS s (skipB s k)).2 then .inl (3, (leafS s (skipB s k)).1, st, m)
        else .inr ((leafS s (skipB s k)).1, false, m)) := Lib.hid rfl
      rw [HV.out] at HT
      clear HV
      have HB0 := Lib.hid (HBl.out k st m _ HA.out)
      clear HA
      generalize skipB s k = k1 at *
      have HN0 := Lib.hid (HNx.out k1 st m)
      have hlt1 := @nxt_lt s k1
      generalize hx : nxt s k1 = x at *
      by_cases h91 : x = 91
      · subst h91
        rw [if_pos rfl] at HT
        have hlt := hlt1 (by decide)
        have hk2 := skipB_ge s (k1 + 1)
        have hk2' := skipB_le s (k1 + 1) hlt
        have HB1 := Lib.hid (HBl.out (k1 + 1) (false :: st) (max m (st.length + 1)))
        generalize skipB s (k1 + 1) = k2 at *
        have HN1 := Lib.hid (HNx.out k2 (false :: st) (max m (st.length + 1)))
        have hlt2 := @nxt_lt s k2
        generalize hy : nxt s k2 = y at *
        have HW := Lib.hid (And.intro hx hy)
        clear hx hy
        by_cases h93 : y = 93
        · subst h93
          rw [if_pos rfl] at HT
          have hlt2' := hlt2 (by decide)
          go_wp2_with (first
            | (go_at_call 114; (with_reducible refine HB0.out.mono ?_); rintro e w1 ⟨rfl, h1⟩)
            | (go_at_call 115; (with_reducible refine (HN0.out _ h1.out).mono ?_); rintro e w2 ⟨rfl, h2⟩; clear h1 HB0)
            | (go_at_call 116; (with_reducible refine (HPu.out _ _ _ _ _ h2.out (by omega) (by omega) (by omega)).mono ?_); rintro e w3 ⟨rfl, h3⟩)
            | (go_at_call 114; (with_reducible refine (HB1.out _ h3.out).mono ?_); rintro e w4 ⟨rfl, h4⟩)
            | (go_at_call 115; (with_reducible refine (HN1.out _ h4.out).mono ?_); rintro e w5 ⟨rfl, h5⟩))
          go_step3
          refine HGo.out 1 _ _ k2 (false :: st) (max m (st.length + 1)) (by omega) (by simp only [List.length_cons]; omega) (by omega) (fun _ => ⟨by simp, by omega⟩) (by rw [muS_ne _ _ _ (by decide), muS_ne _ _ _ (by decide)]; omega) HT.out h5.out ⟨_, _, _, _, _, _, _, _, _, _, _, _, _, _, _, _, _, _, _, _, _, _, _, _, _, _, _, _, _, _, _, _, _, _, _, _, _, _, _, _, _, _, _, _, _, _, _, _, _, _, _, _, _, _, _, _, _, _, _, _, _, _, _, _, _, _, _, _, _, _, _, _, _, _, _, _, _, _, _, _, _, _, _, _, _, _, _, _, _, _, _, _, _, _, _, _, _, rfl⟩
        · have q93 : ((y : Int) == 93) = false := by rw [beq_eq_false_iff_ne]; omega
          rw [if_neg h93] at HT
          go_wp2_with (first
            | (go_at_call 114; (with_reducible refine HB0.out.mono ?_); rintro e w1 ⟨rfl, h1⟩)
            | (go_at_call 115; (with_reducible refine (HN0.out _ h1.out).mono ?_); rintro e w2 ⟨rfl, h2⟩; clear h1 HB0)
            | (go_at_call 116; (with_reducible refine (HPu.out _ _ _ _ _ h2.out (by omega) (by omega) (by omega)).mono ?_); rintro e w3 ⟨rfl, h3⟩)
            | (go_at_call 114; (with_reducible refine (HB1.out _ h3.out).mono ?_); rintro e w4 ⟨rfl, h4⟩)
            | (go_at_call 115; (with_reducible refine (HN1.out _ h4.out).mono ?_); rintro e w5 ⟨rfl, h5⟩))
          go_step3
          refine HGo.out 0 _ _ k2 (false :: st) (max m (st.length + 1)) (by omega) (by simp only [List.length_cons]; omega) (by omega) (fun e => absurd e (by decide)) (by rw [muS_ne _ _ _ (by decide), muS_ne _ _ _ (by decide)]; omega) HT.out h5.out ⟨_, _, _, _, _, _, _, _, _, _, _, _, _, _, _, _, _, _, _, _, _, _, _, _, _, _, _, _, _, _, _, _, _, _, _, _, _, _, _, _, _, _, _, _, _, _, _, _, _, _, _, _, _, _, _, _, _, _, _, _, _, _, _, _, _, _, _, _, _, _, _, _, _, _, _, _, _, _, _, _, _, _, _, _, _, _, _, _, _, _, _, _, _, _, _, _, _, rfl⟩
      · have q91 : ((x : Int) == 91) = false := by rw [beq_eq_false_iff_ne]; omega
        rw [if_neg h91] at HT
        by_cases h123 : x = 123
        · subst h123
          rw [if_pos rfl] at HT
          have hlt := hlt1 (by decide)
          have hk2 := skipB_ge s (k1 + 1)
          have hk2' := skipB_le s (k1 + 1) hlt
          have HB1 := Lib.hid (HBl.out (k1 + 1) (true :: st) (max m (st.length + 1)))
          generalize skipB s (k1 + 1) = k2 at *
          have HN1 := Lib.hid (HNx.out k2 (true :: st) (max m (st.length + 1)))
          have hlt2 := @nxt_lt s k2
          generalize hy : nxt s k2 = y at *
          have HW := Lib.hid (And.intro hx hy)
          clear hx hy
          by_cases h125 : y = 125
          · subst h125
            rw [if_pos rfl] at HT
            have hlt2' := hlt2 (by decide)
            go_wp2_with (first
              | (go_at_call 114; (with_reducible refine HB0.out.mono ?_); rintro e w1 ⟨rfl, h1⟩)
              | (go_at_call 115; (with_reducible refine (HN0.out _ h1.out).mono ?_); rintro e w2 ⟨rfl, h2⟩; clear h1 HB0)
              | (go_at_call 116; (with_reducible refine (HPu.out _ _ _ _ _ h2.out (by omega) (by omega) (by omega)).mono ?_); rintro e w3 ⟨rfl, h3⟩)
              | (go_at_call 114; (with_reducible refine (HB1.out _ h3.out).mono ?_); rintro e w4 ⟨rfl, h4⟩)
              | (go_at_call 115; (with_reducible refine (HN1.out _ h4.out).mono ?_); rintro e w5 ⟨rfl, h5⟩))
            go_step3
            refine HGo.out 1 _ _ k2 (true :: st) (max m (st.length + 1)) (by omega) (by simp only [List.length_cons]; omega) (by omega) (fun _ => ⟨by simp, by omega⟩) (by rw [muS_ne _ _ _ (by decide), muS_ne _ _ _ (by decide)]; omega) HT.out h5.out ⟨_, _, _, _, _, _, _, _, _, _, _, _, _, _, _, _, _, _, _, _, _, _, _, _, _, _, _, _, _, _, _, _, _, _, _, _, _, _, _, _, _, _, _, _, _, _, _, _, _, _, _, _, _, _, _, _, _, _, _, _, _, _, _, _, _, _, _, _, _, _, _, _, _, _, _, _, _, _, _, _, _, _, _, _, _, _, _, _, _, _, _, _, _, _, _, _, _, rfl⟩
          · have q125 : ((y : Int) == 125) = false := by rw [beq_eq_false_iff_ne]; omega
            rw [if_neg h125] at HT
            go_wp2_with (first
              | (go_at_call 114; (with_reducible refine HB0.out.mono ?_); rintro e w1 ⟨rfl, h1⟩)
              | (go_at_call 115; (with_reducible refine (HN0.out _ h1.out).mono ?_); rintro e w2 ⟨rfl, h2⟩; clear h1 HB0)
              | (go_at_call 116; (with_reducible refine (HPu.out _ _ _ _ _ h2.out (by omega) (by omega) (by omega)).mono ?_); rintro e w3 ⟨rfl, h3⟩)
              | (go_at_call 114; (with_reducible refine (HB1.out _ h3.out).mono ?_); rintro e w4 ⟨rfl, h4⟩)
              | (go_at_call 115; (with_reducible refine (HN1.out _ h4.out).mono ?_); rintro e w5 ⟨rfl, h5⟩))
            go_step3
            refine HGo.out 2 _ _ k2 (true :: st) (max m (st.length + 1)) (by omega) (by simp only [List.length_cons]; omega) (by omega) (fun e => absurd e (by decide)) (by rw [muS_ne _ _ _ (by decide), muS_ne _ _ _ (by decide)]; omega) HT.out h5.out ⟨_, _, _, _, _, _, _, _, _, _, _, _, _, _, _, _, _, _, _, _, _, _, _, _, _, _, _, _, _, _, _, _, _, _, _, _, _, _, _, _, _, _, _, _, _, _, _, _, _, _, _, _, _, _, _, _, _, _, _, _, _, _, _, _, _, _, _, _, _, _, _, _, _, _, _, _, _, _, _, _, _, _, _, _, _, _, _, _, _, _, _, _, _, _, _, _, _, rfl⟩
        · have q123 : ((x : Int) == 123) = false := by rw [beq_eq_false_iff_ne]; omega
          rw [if_neg h123] at HT
          have hok := leafS_ok s k1
          have HLe := Lib.hid (HLf.out k1 st m)
          generalize leafS s k1 = r at *
          obtain ⟨k2, ok⟩ := r
          dsimp only at HT hok HLe
          have HW := Lib.hid hx
          clear hx
          cases ok
          · rw [if_neg (by decide)] at HT
            go_wp2_with (first
              | (go_at_call 114; (with_reducible refine HB0.out.mono ?_); rintro e w1 ⟨rfl, h1⟩)
              | (go_at_call 115; (with_reducible refine (HN0.out _ h1.out).mono ?_); rintro e w2 ⟨rfl, h2⟩)
              | (go_at_call 117; (with_reducible refine (HLe.out _ h2.out).mono ?_); rintro e w3 ⟨rfl, h3⟩))
            refine HR.out _ _ ?_
            go_ret
            rw [HT.out]
            exact ⟨rfl, st, h3⟩
          · rw [if_pos rfl] at HT
            have hok' := hok rfl
            go_wp2_with (first
              | (go_at_call 114; (with_reducible refine HB0.out.mono ?_); rintro e w1 ⟨rfl, h1⟩)
              | (go_at_call 115; (with_reducible refine (HN0.out _ h1.out).mono ?_); rintro e w2 ⟨rfl, h2⟩)
              | (go_at_call 117; (with_reducible refine (HLe.out _ h2.out).mono ?_); rintro e w3 ⟨rfl, h3⟩))
            go_step3
            have hk2' := h3.out.le
            refine HGo.out 3 _ _ k2 st m (by omega) (by omega) (by omega) (fun e => absurd e (by decide)) (by rw [muS_3, muS_ne _ _ _ (by decide)]; omega) HT.out h3.out ⟨_, _, _, _, _, _, _, _, _, _, _, _, _, _, _, _, _, _, _, _, _, _, _, _, _, _, _, _, _, _, _, _, _, _, _, _, _, _, _, _, _, _, _, _, _, _, _, _, _, _, _, _, _, _, _, _, _, _, _, _, _, _, _, _, _, _, _, _, _, _, _, _, _, _, _, _, _, _, _, _, _, _, _, _, _, _, _, _, _, _, _, _, _, _, _, _, _, rfl⟩
    · -- a key
      have HT : Hid (T = contF s f (stepK s k st m)) := Lib.hid (by rw [hT]; rfl)
      clear hT HI1 hf HPo HPu HLf HOb
      refine ⟨_, rfl, ?_⟩
      have hk1 := skipB_ge s k
      have HV : Hid (stepK s k st m = if (strS s (skipB s k)).2 then
          (if (takeS s (skipB s (strS s (skipB s k)).1) [58]).2 then .inl (0, (takeS s (skipB s (strS s (skipB s k)).1) [58]).1, st, m) else .inr ((takeS s (skipB s (strS s (skipB s k)).1) [58]).1, false, m))
        else .inr ((strS s (skipB s k)).1, false, m)) := Lib.hid rfl
      rw [HV.out] at HT
      clear HV
      have HB0 := Lib.hid (HBl.out k st m _ HA.out)
      clear HA
      generalize skipB s k = k1 at *
      have hok := strS_ok s k1
      have HS1 := Lib.hid (HSr.out k1 st m)
      generalize strS s k1 = r at *
      obtain ⟨k2, ok⟩ := r
      dsimp only at HT hok HS1
      cases ok
      · rw [if_neg (by decide)] at HT
        go_wp2_with (first
          | (go_at_call 114; (with_reducible refine HB0.out.mono ?_); rintro e w1 ⟨rfl, h1⟩)
          | (go_at_call 118; (with_reducible refine (HS1.out _ h1.out).mono ?_); rintro e w2 ⟨rfl, h2⟩))
        refine HR.out _ _ ?_
        go_ret
        rw [HT.out]
        exact ⟨rfl, st, h2⟩
      · rw [if_pos rfl] at HT
        have hok' := hok rfl
        have hk3 := skipB_ge s k2
        have HB1 := Lib.hid (HBl.out k2 st m)
        generalize skipB s k2 = k3 at *
        have hok2 := takeS_ok s [58] k3
        have HC := Lib.hid (HCo.out k3 st m)
        generalize takeS s k3 [58] = r at *
        obtain ⟨k4, ok⟩ := r
        dsimp only at HT hok2 HC
        cases ok
        · rw [if_neg (by decide)] at HT
          go_wp2_with (first
            | (go_at_call 114; (with_reducible refine HB0.out.mono ?_); rintro e w1 ⟨rfl, h1⟩)
            | (go_at_call 118; (with_reducible refine (HS1.out _ h1.out).mono ?_); rintro e w2 ⟨rfl, h2⟩; clear h1 HB0)
            | (go_at_call 114; (with_reducible refine (HB1.out _ h2.out).mono ?_); rintro e w3 ⟨rfl, h3⟩)
            | (go_at_call 119; (with_reducible refine (HC.out _ h3.out).mono ?_); rintro e w4 ⟨rfl, h4⟩))
          refine HR.out _ _ ?_
          go_ret
          rw [HT.out]
          exact ⟨rfl, st, h4⟩
        · rw [if_pos rfl] at HT
          have hok2' := hok2 rfl
          simp only [List.length_cons, List.length_nil] at hok2'
          have HOk := Lib.hid hok2'
          clear hok2' hok2
          go_wp2_with (first
            | (go_at_call 114; (with_reducible refine HB0.out.mono ?_); rintro e w1 ⟨rfl, h1⟩)
            | (go_at_call 118; (with_reducible refine (HS1.out _ h1.out).mono ?_); rintro e w2 ⟨rfl, h2⟩; clear h1 HB0)
            | (go_at_call 114; (with_reducible refine (HB1.out _ h2.out).mono ?_); rintro e w3 ⟨rfl, h3⟩)
            | (go_at_call 119; (with_reducible refine (HC.out _ h3.out).mono ?_); rintro e w4 ⟨rfl, h4⟩))
          go_step3
          have hk4' := h4.out.le
          have hk4 := HOk.out
          refine HGo.out 0 _ _ k4 st m (by omega) (by omega) (by omega) (fun e => absurd e (by decide)) (by rw [muS_ne _ _ _ (by decide), muS_ne _ _ _ (by decide)]; omega) HT.out h4.out ⟨_, _, _, _, _, _, _, _, _, _, _, _, _, _, _, _, _, _, _, _, _, _, _, _, _, _, _, _, _, _, _, _, _, _, _, _, _, _, _, _, _, _, _, _, _, _, _, _, _, _, _, _, _, _, _, _, _, _, _, _, _, _, _, _, _, _, _, _, _, _, _, _, _, _, _, _, _, _, _, _, _, _, _, _, _, _, _, _, _, _, _, _, _, _, _, _, _, rfl⟩
    · -- behind a value
      rcases h13 with rfl | rfl
      · obtain ⟨hne, hklt⟩ := HI1.out rfl
        obtain ⟨b, st0, rfl⟩ : ∃ b r, st = b :: r := by cases st with
          | nil => exact absurd rfl hne
          | cons b r => exact ⟨b, r, rfl⟩
        simp only [List.length_cons] at hst
        have HT : Hid (T = contF s f (stepB s (k + 1) st0 m)) := Lib.hid (by rw [hT]; rfl)
        have HK : Hid (2 * (s.size - (k + 1)) + 1 ≤ muS s.size 1 k) := Lib.hid (by rw [muS_ne _ _ _ (by decide)]; omega)
        have HP := Lib.hid (HPo.out b k st0 m _ HA.out (by omega) hklt)
        clear hT HI1 hf HPo HPu HLf HSr HCo HA hne
        refine ⟨_, rfl, ?_⟩
        go_upto_region 20 with (go_at_call 120; (with_reducible refine HP.out.mono ?_); rintro e w1 ⟨rfl, H1⟩)
        go_step3
        have hst0 : st0.length ≤ k + 1 := by omega
        have hk0s : k + 1 ≤ s.size := hklt
        have hm0 : m ≤ k + 1 := by omega
        clear HP hst hm
        generalize k + 1 = k0 at *
        have hkk := skipB_ge s k0
        have HB0 := Lib.hid (HBl.out k0 st0 m _ H1.out)
        have HV : Hid (stepB s k0 st0 m = if st0 = [] then .inr (skipB s k0, decide (skipB s k0 = s.size), m)
          else if nxt s (skipB s k0) = 44 then .inl (if st0.headD false then 2 else 0, skipB s k0 + 1, st0, m)
          else if (nxt s (skipB s k0) = 93 ∧ st0.headD false = false) ∨ (nxt s (skipB s k0) = 125 ∧ st0.headD false = true) then .inl (1, skipB s k0, st0, m)
          else .inr (skipB s k0, false, m)) := Lib.hid rfl
        rw [HV.out] at HT
        clear HV H1
        generalize skipB s k0 = k1 at *
        have HN := Lib.hid (HNx.out k1 st0 m)
        have HOB := Lib.hid (HOb.out k1 st0 m)
        have hlt1 := @nxt_lt s k1
        generalize hx : nxt s k1 = x at *
        have HX := Lib.hid hx
        clear hx
        by_cases hnil : st0 = []
        · subst hnil
          rw [if_pos rfl] at HT
          obtain ⟨bq, hbq⟩ : ∃ bq, ((k1 : Int) == (s.size : Int)) = bq := ⟨_, rfl⟩
          have HQ : Hid (decide (k1 = s.size) = bq) := Lib.hid (by rw [← hbq, Bool.eq_iff_iff, decide_eq_true_eq, beq_iff_eq]; omega)
          rw [HQ.out] at HT
          go_wp2_with (go_at_call 114; (with_reducible refine HB0.out.mono ?_); rintro e w2 ⟨rfl, h2⟩; obtain ⟨hc0, hc1, hc3, hc4, hfz⟩ := h2.out.facts; simp only [List.length_nil] at hc3)
          go_quiet (fail)
          go_wp2_with fail
          refine HR.out _ _ ?_
          go_ret
          rw [HT.out]
          exact ⟨rfl, [], Lib.hid (h2.out.drewN _)⟩
        · rw [if_neg hnil] at HT
          have q0 : ((st0.length : Int) == 0) = false := by rw [beq_eq_false_iff_ne]; have := List.length_pos_iff.2 hnil; omega
          have hd0 : st0.length ≤ 1048576 := by omega
          generalize hob : st0.headD false = ob at *
          have HOE := Lib.hid hob
          clear hob
          by_cases h44 : x = 44
          · subst h44
            rw [if_pos rfl] at HT
            have hlt := hlt1 (by decide)
            cases ob
            · rw [if_neg (by decide)] at HT
              go_wp2_with (first
                | (go_at_call 114; (with_reducible refine HB0.out.mono ?_); rintro e w2 ⟨rfl, h2⟩; obtain ⟨hc0, hc1, hc3, hc4, hfz⟩ := h2.out.facts)
                | (go_at_call 115; (with_reducible refine (HN.out _ h2.out).mono ?_); rintro e w3 ⟨rfl, h3⟩)
                | (go_at_call 121; (with_reducible refine (HOB.out _ h3.out hd0).mono ?_); rintro e w4 ⟨rfl, h4⟩; obtain ⟨_, hc1', _, _, hfz'⟩ := h4.out.facts))
              go_step3
              refine HGo.out 0 _ _ (k1 + 1) st0 m (by omega) (by omega) (by omega) (fun e => absurd e (by decide)) (by have := HK.out; rw [muS_ne _ _ _ (by decide)]; omega) HT.out (h4.out.inc hlt) ⟨_, _, _, _, _, _, _, _, _, _, _, _, _, _, _, _, _, _, _, _, _, _, _, _, _, _, _, _, _, _, _, _, _, _, _, _, _, _, _, _, _, _, _, _, _, _, _, _, _, _, _, _, _, _, _, _, _, _, _, _, _, _, _, _, _, _, _, _, _, _, _, _, _, _, _, _, _, _, _, _, _, _, _, _, _, _, _, _, _, _, _, _, _, _, _, _, _, rfl⟩
            · rw [if_pos rfl] at HT
              go_wp2_with (first
                | (go_at_call 114; (with_reducible refine HB0.out.mono ?_); rintro e w2 ⟨rfl, h2⟩; obtain ⟨hc0, hc1, hc3, hc4, hfz⟩ := h2.out.facts)
                | (go_at_call 115; (with_reducible refine (HN.out _ h2.out).mono ?_); rintro e w3 ⟨rfl, h3⟩)
                | (go_at_call 121; (with_reducible refine (HOB.out _ h3.out hd0).mono ?_); rintro e w4 ⟨rfl, h4⟩; obtain ⟨_, hc1', _, _, hfz'⟩ := h4.out.facts))
              go_step3
              refine HGo.out 2 _ _ (k1 + 1) st0 m (by omega) (by omega) (by omega) (fun e => absurd e (by decide)) (by have := HK.out; rw [muS_ne _ _ _ (by decide)]; omega) HT.out (h4.out.inc hlt) ⟨_, _, _, _, _, _, _, _, _, _, _, _, _, _, _, _, _, _, _, _, _, _, _, _, _, _, _, _, _, _, _, _, _, _, _, _, _, _, _, _, _, _, _, _, _, _, _, _, _, _, _, _, _, _, _, _, _, _, _, _, _, _, _, _, _, _, _, _, _, _, _, _, _, _, _, _, _, _, _, _, _, _, _, _, _, _, _, _, _, _, _, _, _, _, _, _, _, rfl⟩
          · have q44 : ((x : Int) == 44) = false := by rw [beq_eq_false_iff_ne]; omega
            rw [if_neg h44] at HT
            by_cases h93 : x = 93
            · subst h93
              have hlt := hlt1 (by decide)
              cases ob
              · rw [if_pos (.inl ⟨rfl, rfl⟩)] at HT
                go_wp2_with (first
                  | (go_at_call 114; (with_reducible refine HB0.out.mono ?_); rintro e w2 ⟨rfl, h2⟩; obtain ⟨hc0, hc1, hc3, hc4, hfz⟩ := h2.out.facts)
                  | (go_at_call 115; (with_reducible refine (HN.out _ h2.out).mono ?_); rintro e w3 ⟨rfl, h3⟩)
                  | (go_at_call 121; (with_reducible refine (HOB.out _ h3.out hd0).mono ?_); rintro e w4 ⟨rfl, h4⟩))
                go_step3
                refine HGo.out 1 _ _ k1 st0 m (by omega) (by omega) (by omega) (fun _ => ⟨hnil, hlt⟩) (by have := HK.out; rw [muS_ne _ _ _ (by decide)]; omega) HT.out h4.out ⟨_, _, _, _, _, _, _, _, _, _, _, _, _, _, _, _, _, _, _, _, _, _, _, _, _, _, _, _, _, _, _, _, _, _, _, _, _, _, _, _, _, _, _, _, _, _, _, _, _, _, _, _, _, _, _, _, _, _, _, _, _, _, _, _, _, _, _, _, _, _, _, _, _, _, _, _, _, _, _, _, _, _, _, _, _, _, _, _, _, _, _, _, _, _, _, _, _, rfl⟩
              · rw [if_neg (by rintro (⟨_, h⟩ | ⟨h, _⟩) <;> exact absurd h (by decide))] at HT
                go_wp2_with (first
                  | (go_at_call 114; (with_reducible refine HB0.out.mono ?_); rintro e w2 ⟨rfl, h2⟩; obtain ⟨hc0, hc1, hc3, hc4, hfz⟩ := h2.out.facts)
                  | (go_at_call 115; (with_reducible refine (HN.out _ h2.out).mono ?_); rintro e w3 ⟨rfl, h3⟩)
                  | (go_at_call 121; (with_reducible refine (HOB.out _ h3.out hd0).mono ?_); rintro e w4 ⟨rfl, h4⟩))
                refine HR.out _ _ ?_
                go_ret
                rw [HT.out]
                exact ⟨rfl, st0, h4⟩
            · have q93 : ((x : Int) == 93) = false := by rw [beq_eq_false_iff_ne]; omega
              by_cases h125 : x = 125
              · subst h125
                have hlt := hlt1 (by decide)
                cases ob
                · rw [if_neg (by rintro (⟨h, _⟩ | ⟨_, h⟩) <;> exact absurd h (by decide))] at HT
                  go_wp2_with (first
                    | (go_at_call 114; (with_reducible refine HB0.out.mono ?_); rintro e w2 ⟨rfl, h2⟩; obtain ⟨hc0, hc1, hc3, hc4, hfz⟩ := h2.out.facts)
                    | (go_at_call 115; (with_reducible refine (HN.out _ h2.out).mono ?_); rintro e w3 ⟨rfl, h3⟩)
                    | (go_at_call 121; (with_reducible refine (HOB.out _ h3.out hd0).mono ?_); rintro e w4 ⟨rfl, h4⟩))
                  refine HR.out _ _ ?_
                  go_ret
                  rw [HT.out]
                  exact ⟨rfl, st0, h4⟩
                · rw [if_pos (.inr ⟨rfl, rfl⟩)] at HT
                  go_wp2_with (first
                    | (go_at_call 114; (with_reducible refine HB0.out.mono ?_); rintro e w2 ⟨rfl, h2⟩; obtain ⟨hc0, hc1, hc3, hc4, hfz⟩ := h2.out.facts)
                    | (go_at_call 115; (with_reducible refine (HN.out _ h2.out).mono ?_); rintro e w3 ⟨rfl, h3⟩)
                    | (go_at_call 121; (with_reducible refine (HOB.out _ h3.out hd0).mono ?_); rintro e w4 ⟨rfl, h4⟩))
                  go_step3
                  refine HGo.out 1 _ _ k1 st0 m (by omega) (by omega) (by omega) (fun _ => ⟨hnil, hlt⟩) (by have := HK.out; rw [muS_ne _ _ _ (by decide)]; omega) HT.out h4.out ⟨_, _, _, _, _, _, _, _, _, _, _, _, _, _, _, _, _, _, _, _, _, _, _, _, _, _, _, _, _, _, _, _, _, _, _, _, _, _, _, _, _, _, _, _, _, _, _, _, _, _, _, _, _, _, _, _, _, _, _, _, _, _, _, _, _, _, _, _, _, _, _, _, _, _, _, _, _, _, _, _, _, _, _, _, _, _, _, _, _, _, _, _, _, _, _, _, _, rfl⟩
              · have q125 : ((x : Int) == 125) = false := by rw [beq_eq_false_iff_ne]; omega
                rw [if_neg (by rintro (⟨h, _⟩ | ⟨h, _⟩) <;> omega)] at HT
                go_wp2_with (first
                  | (go_at_call 114; (with_reducible refine HB0.out.mono ?_); rintro e w2 ⟨rfl, h2⟩; obtain ⟨hc0, hc1, hc3, hc4, hfz⟩ := h2.out.facts)
                  | (go_at_call 115; (with_reducible refine (HN.out _ h2.out).mono ?_); rintro e w3 ⟨rfl, h3⟩))
                refine HR.out _ _ ?_
                go_ret
                rw [HT.out]
                exact ⟨rfl, st0, h3⟩
      · obtain ⟨st0, rfl⟩ : ∃ st0, st0 = st := ⟨st, rfl⟩
        have HT : Hid (T = contF s f (stepB s k st0 m)) := Lib.hid (by rw [hT]; rfl)
        have HK : Hid (2 * (s.size - k) + 1 ≤ muS s.size 3 k) := Lib.hid (by rw [muS_3]; exact Nat.le_refl _)
        have H1 := Lib.hid HA.out
        clear hT HI1 hf HPo HPu HLf HSr HCo HA
        refine ⟨_, rfl, ?_⟩
        obtain ⟨k0, hk0⟩ : ∃ k0, k0 = k := ⟨_, rfl⟩
        subst hk0
        have hkk := skipB_ge s k0
        have HB0 := Lib.hid (HBl.out k0 st0 m _ H1.out)
        have HV : Hid (stepB s k0 st0 m = if st0 = [] then .inr (skipB s k0, decide (skipB s k0 = s.size), m)
          else if nxt s (skipB s k0) = 44 then .inl (if st0.headD false then 2 else 0, skipB s k0 + 1, st0, m)
          else if (nxt s (skipB s k0) = 93 ∧ st0.headD false = false) ∨ (nxt s (skipB s k0) = 125 ∧ st0.headD false = true) then .inl (1, skipB s k0, st0, m)
          else .inr (skipB s k0, false, m)) := Lib.hid rfl
        rw [HV.out] at HT
        clear HV H1
        generalize skipB s k0 = k1 at *
        have HN := Lib.hid (HNx.out k1 st0 m)
        have HOB := Lib.hid (HOb.out k1 st0 m)
        have hlt1 := @nxt_lt s k1
        generalize hx : nxt s k1 = x at *
        have HX := Lib.hid hx
        clear hx
        by_cases hnil : st0 = []
        · subst hnil
          rw [if_pos rfl] at HT
          obtain ⟨bq, hbq⟩ : ∃ bq, ((k1 : Int) == (s.size : Int)) = bq := ⟨_, rfl⟩
          have HQ : Hid (decide (k1 = s.size) = bq) := Lib.hid (by rw [← hbq, Bool.eq_iff_iff, decide_eq_true_eq, beq_iff_eq]; omega)
          rw [HQ.out] at HT
          go_wp2_with (go_at_call 114; (with_reducible refine HB0.out.mono ?_); rintro e w2 ⟨rfl, h2⟩; obtain ⟨hc0, hc1, hc3, hc4, hfz⟩ := h2.out.facts; simp only [List.length_nil] at hc3)
          go_quiet (fail)
          go_wp2_with fail
          refine HR.out _ _ ?_
          go_ret
          rw [HT.out]
          exact ⟨rfl, [], Lib.hid (h2.out.drewN _)⟩
        · rw [if_neg hnil] at HT
          have q0 : ((st0.length : Int) == 0) = false := by rw [beq_eq_false_iff_ne]; have := List.length_pos_iff.2 hnil; omega
          have hd0 : st0.length ≤ 1048576 := by omega
          generalize hob : st0.headD false = ob at *
          have HOE := Lib.hid hob
          clear hob
          by_cases h44 : x = 44
          · subst h44
            rw [if_pos rfl] at HT
            have hlt := hlt1 (by decide)
            cases ob
            · rw [if_neg (by decide)] at HT
              go_wp2_with (first
                | (go_at_call 114; (with_reducible refine HB0.out.mono ?_); rintro e w2 ⟨rfl, h2⟩; obtain ⟨hc0, hc1, hc3, hc4, hfz⟩ := h2.out.facts)
                | (go_at_call 115; (with_reducible refine (HN.out _ h2.out).mono ?_); rintro e w3 ⟨rfl, h3⟩)
                | (go_at_call 121; (with_reducible refine (HOB.out _ h3.out hd0).mono ?_); rintro e w4 ⟨rfl, h4⟩; obtain ⟨_, hc1', _, _, hfz'⟩ := h4.out.facts))
              go_step3
              refine HGo.out 0 _ _ (k1 + 1) st0 m (by omega) (by omega) (by omega) (fun e => absurd e (by decide)) (by have := HK.out; rw [muS_ne _ _ _ (by decide)]; omega) HT.out (h4.out.inc hlt) ⟨_, _, _, _, _, _, _, _, _, _, _, _, _, _, _, _, _, _, _, _, _, _, _, _, _, _, _, _, _, _, _, _, _, _, _, _, _, _, _, _, _, _, _, _, _, _, _, _, _, _, _, _, _, _, _, _, _, _, _, _, _, _, _, _, _, _, _, _, _, _, _, _, _, _, _, _, _, _, _, _, _, _, _, _, _, _, _, _, _, _, _, _, _, _, _, _, _, rfl⟩
            · rw [if_pos rfl] at HT
              go_wp2_with (first
                | (go_at_call 114; (with_reducible refine HB0.out.mono ?_); rintro e w2 ⟨rfl, h2⟩; obtain ⟨hc0, hc1, hc3, hc4, hfz⟩ := h2.out.facts)
                | (go_at_call 115; (with_reducible refine (HN.out _ h2.out).mono ?_); rintro e w3 ⟨rfl, h3⟩)
                | (go_at_call 121; (with_reducible refine (HOB.out _ h3.out hd0).mono ?_); rintro e w4 ⟨rfl, h4⟩; obtain ⟨_, hc1', _, _, hfz'⟩ := h4.out.facts))
              go_step3
              refine HGo.out 2 _ _ (k1 + 1) st0 m (by omega) (by omega) (by omega) (fun e => absurd e (by decide)) (by have := HK.out; rw [muS_ne _ _ _ (by decide)]; omega) HT.out (h4.out.inc hlt) ⟨_, _, _, _, _, _, _, _, _, _, _, _, _, _, _, _, _, _, _, _, _, _, _, _, _, _, _, _, _, _, _, _, _, _, _, _, _, _, _, _, _, _, _, _, _, _, _, _, _, _, _, _, _, _, _, _, _, _, _, _, _, _, _, _, _, _, _, _, _, _, _, _, _, _, _, _, _, _, _, _, _, _, _, _, _, _, _, _, _, _, _, _, _, _, _, _, _, rfl⟩
          · have q44 : ((x : Int) == 44) = false := by rw [beq_eq_false_iff_ne]; omega
            rw [if_neg h44] at HT
            by_cases h93 : x = 93
            · subst h93
              have hlt := hlt1 (by decide)
              cases ob
              · rw [if_pos (.inl ⟨rfl, rfl⟩)] at HT
                go_wp2_with (first
                  | (go_at_call 114; (with_reducible refine HB0.out.mono ?_); rintro e w2 ⟨rfl, h2⟩; obtain ⟨hc0, hc1, hc3, hc4, hfz⟩ := h2.out.facts)
                  | (go_at_call 115; (with_reducible refine (HN.out _ h2.out).mono ?_); rintro e w3 ⟨rfl, h3⟩)
                  | (go_at_call 121; (with_reducible refine (HOB.out _ h3.out hd0).mono ?_); rintro e w4 ⟨rfl, h4⟩))
                go_step3
                refine HGo.out 1 _ _ k1 st0 m (by omega) (by omega) (by omega) (fun _ => ⟨hnil, hlt⟩) (by have := HK.out; rw [muS_ne _ _ _ (by decide)]; omega) HT.out h4.out ⟨_, _, _, _, _, _, _, _, _, _, _, _, _, _, _, _, _, _, _, _, _, _, _, _, _, _, _, _, _, _, _, _, _, _, _, _, _, _, _, _, _, _, _, _, _, _, _, _, _, _, _, _, _, _, _, _, _, _, _, _, _, _, _, _, _, _, _, _, _, _, _, _, _, _, _, _, _, _, _, _, _, _, _, _, _, _, _, _, _, _, _, _, _, _, _, _, _, rfl⟩
              · rw [if_neg (by rintro (⟨_, h⟩ | ⟨h, _⟩) <;> exact absurd h (by decide))] at HT
                go_wp2_with (first
                  | (go_at_call 114; (with_reducible refine HB0.out.mono ?_); rintro e w2 ⟨rfl, h2⟩; obtain ⟨hc0, hc1, hc3, hc4, hfz⟩ := h2.out.facts)
                  | (go_at_call 115; (with_reducible refine (HN.out _ h2.out).mono ?_); rintro e w3 ⟨rfl, h3⟩)
                  | (go_at_call 121; (with_reducible refine (HOB.out _ h3.out hd0).mono ?_); rintro e w4 ⟨rfl, h4⟩))
                refine HR.out _ _ ?_
                go_ret
                rw [HT.out]
                exact ⟨rfl, st0, h4⟩
            · have q93 : ((x : Int) == 93) = false := by rw [beq_eq_false_iff_ne]; omega
              by_cases h125 : x = 125
              · subst h125
                have hlt := hlt1 (by decide)
                cases ob
                · rw [if_neg (by rintro (⟨h, _⟩ | ⟨_, h⟩) <;> exact absurd h (by decide))] at HT
                  go_wp2_with (first
                    | (go_at_call 114; (with_reducible refine HB0.out.mono ?_); rintro e w2 ⟨rfl, h2⟩; obtain ⟨hc0, hc1, hc3, hc4, hfz⟩ := h2.out.facts)
                    | (go_at_call 115; (with_reducible refine (HN.out _ h2.out).mono ?_); rintro e w3 ⟨rfl, h3⟩)
                    | (go_at_call 121; (with_reducible refine (HOB.out _ h3.out hd0).mono ?_); rintro e w4 ⟨rfl, h4⟩))
                  refine HR.out _ _ ?_
                  go_ret
                  rw [HT.out]
                  exact ⟨rfl, st0, h4⟩
                · rw [if_pos (.inr ⟨rfl, rfl⟩)] at HT
                  go_wp2_with (first
                    | (go_at_call 114; (with_reducible refine HB0.out.mono ?_); rintro e w2 ⟨rfl, h2⟩; obtain ⟨hc0, hc1, hc3, hc4, hfz⟩ := h2.out.facts)
                    | (go_at_call 115; (with_reducible refine (HN.out _ h2.out).mono ?_); rintro e w3 ⟨rfl, h3⟩)
                    | (go_at_call 121; (with_reducible refine (HOB.out _ h3.out hd0).mono ?_); rintro e w4 ⟨rfl, h4⟩))
                  go_step3
                  refine HGo.out 1 _ _ k1 st0 m (by omega) (by omega) (by omega) (fun _ => ⟨hnil, hlt⟩) (by have := HK.out; rw [muS_ne _ _ _ (by decide)]; omega) HT.out h4.out ⟨_, _, _, _, _, _, _, _, _, _, _, _, _, _, _, _, _, _, _, _, _, _, _, _, _, _, _, _, _, _, _, _, _, _, _, _, _, _, _, _, _, _, _, _, _, _, _, _, _, _, _, _, _, _, _, _, _, _, _, _, _, _, _, _, _, _, _, _, _, _, _, _, _, _, _, _, _, _, _, _, _, _, _, _, _, _, _, _, _, _, _, _, _, _, _, _, _, rfl⟩
              · have q125 : ((x : Int) == 125) = false := by rw [beq_eq_false_iff_ne]; omega
                rw [if_neg (by rintro (⟨h, _⟩ | ⟨h, _⟩) <;> omega)] at HT
                go_wp2_with (first
                  | (go_at_call 114; (with_reducible refine HB0.out.mono ?_); rintro e w2 ⟨rfl, h2⟩; obtain ⟨hc0, hc1, hc3, hc4, hfz⟩ := h2.out.facts)
                  | (go_at_call 115; (with_reducible refine (HN.out _ h2.out).mono ?_); rintro e w3 ⟨rfl, h3⟩))
                refine HR.out _ _ ?_
                go_ret
                rw [HT.out]
                exact ⟨rfl, st0, h3⟩
  · intro Q2 hg hr _ hp
    go_step
    go_step3
    go_step
    go_step
    exact hp 0 _ _ _ ⟨by omega, H0.out, _, _, _, _, _, _, _, _, _, _, _, _, _, _, _, _, _, _, _, _, _, _, _, _, _, _, _, _, _, _, _, _, _, _, _, _, _, _, _, _, _, _, _, _, _, _, _, _, _, _, _, _, _, _, _, _, _, _, _, _, _, _, _, _, _, _, _, _, _, _, _, _, _, _, _, _, _, _, _, _, _, _, _, _, _, _, _, _, _, _, _, _, _, _, _, _, _, rfl⟩ rfl
end Go.Proofs.Lw
namespace Go.Proofs.Lw
open Go Go.RowKit

/-- the verdict of a record, and what stands beside it -/
def validS (s : ByteArray) (deep : Nat) : Nat × Nat :=
  if 65536 < s.size then (4, 0) else if (textS s).2.1 = false then (3, (textS s).1) else if deep < (textS s).2.2 then (2, (textS s).2.2) else (1, (textS s).2.2)
set_option maxHeartbeats 1000000 in
set_option maxRecDepth 100000 in
theorem validate_call (s : ByteArray) (deep : Nat) (hd1 : 1 ≤ deep) (hd2 : deep ≤ 4096) (hs : s.size ≤ 1073741824) (w : World) :
    Calls Tryz.prog 36 #[.string s, .int .i64 deep] w fun e w' => e = .returned (.tuple #[.int .i64 ((validS s deep).1 : Nat), .int .i64 ((validS s deep).2 : Nat), .int .i64 0]) ∧ Ext w w' := by
  have HV : Hid (validS s deep = if 65536 < s.size then (4, 0) else if (textS s).2.1 = false then (3, (textS s).1) else if deep < (textS s).2.2 then (2, (textS s).2.2) else (1, (textS s).2.2)) := Lib.hid rfl
  generalize validS s deep = V at *
  by_cases hl : 65536 < s.size
  · rw [if_pos hl] at HV
    go_enter Tryz.func36, Tryz.ntmps36
    go_wp2_with fail
    go_ret3
    rw [HV.out]
    exact ⟨rfl, Ext.refl _⟩
  · rw [if_neg hl] at HV
    have hT := text_call w.heap.size s (w.alloc (.cells #[.string s, .int .i64 (0 : Nat), .slice none 0 0, .int .i64 (0 : Nat), .int .i64 (0 : Nat)] 154))
      ⟨.slice none 0 0, [], Blk.new _ _ _, World.ownsRow_nil _ _ _ _, trivial, by simp, by simp, by simp⟩ (by omega)
    have HT := Lib.hid hT
    clear hT
    have hts : (textS s).1 ≤ (textS s).1 := Nat.le_refl _
    generalize textS s = T at *
    obtain ⟨k, ok, m⟩ := T
    dsimp only at HT HV
    have HX : Hid (∀ w', Below w.heap.size (w.alloc (.cells #[.string s, .int .i64 (0 : Nat), .slice none 0 0, .int .i64 (0 : Nat), .int .i64 (0 : Nat)] 154)) w' → Ext w w') := Lib.hid (fun w' h => ((Below.refl _ w).alloc (Nat.le_refl _) _).trans h)
    cases ok
    · rw [if_pos rfl] at HV
      go_enter Tryz.func36, Tryz.ntmps36
      go_wp2_with (go_at_call 74; refine HT.out.mono ?_; rintro e w1 ⟨rfl, st, h1⟩; obtain ⟨hc0, hc1, hc3, hc4, hfz⟩ := h1.out.facts)
      go_quiet (fail)
      go_wp2_with fail
      go_ret3
      rw [HV.out]
      exact ⟨rfl, (HX.out _ h1.out.below).trans (Ext.drewN _ _)⟩
    · rw [if_neg (by decide)] at HV
      by_cases hm : deep < m
      · rw [if_pos hm] at HV
        go_enter Tryz.func36, Tryz.ntmps36
        go_wp2_with (go_at_call 74; refine HT.out.mono ?_; rintro e w1 ⟨rfl, st, h1⟩; obtain ⟨hc0, hc1, hc3, hc4, hfz⟩ := h1.out.facts)
        go_quiet (fail)
        go_wp2_with fail
        go_ret3
        rw [HV.out]
        exact ⟨rfl, (HX.out _ h1.out.below).trans (Ext.drewN _ _)⟩
      · rw [if_neg hm] at HV
        go_enter Tryz.func36, Tryz.ntmps36
        go_wp2_with (go_at_call 74; refine HT.out.mono ?_; rintro e w1 ⟨rfl, st, h1⟩; obtain ⟨hc0, hc1, hc3, hc4, hfz⟩ := h1.out.facts)
        go_quiet (fail)
        go_wp2_with fail
        go_ret3
        rw [HV.out]
        exact ⟨rfl, (HX.out _ h1.out.below).trans (Ext.drewN _ _)⟩
/-- so semi.look and semi.Make are told -/
def vdOf (s : ByteArray) : Int := ((validS s 4096).1 : Nat)
theorem verdict_holds (s : ByteArray) (hs : s.size ≤ 1073741824) : Verdict s (vdOf s) := fun W =>
  (validate_call s 4096 (by omega) (by omega) hs W).mono fun _ _ ⟨a, b⟩ => ⟨⟨_, _, a⟩, b⟩
end Go.Proofs.Lw
