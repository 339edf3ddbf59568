/- scan.str. -/
import Derived.Test.YtaejhdmkjodefaaGreatDoorJScan
set_option linter.unusedSimpArgs false
set_option linter.unusedVariables false
namespace Go.Proofs.Lw
open Go Go.RowKit

/-- where a string ends, behind its first mark: from k on in a state, with fuel -/
def strF (s : ByteArray) : Nat → Nat → Nat → Nat × Bool
  | 0, k, _ => (k, false)
  | f + 1, k, st =>
    if k = s.size then (k, false)
    else if st = 0 ∧ nxt s k < 32 then (k, false)
    else if st = 0 ∧ nxt s k = 34 then (k + 1, true)
    else if st = 0 ∧ nxt s k = 92 then (if (escS s (k + 1)).2 then strF s f (escS s (k + 1)).1 0 else ((escS s (k + 1)).1, false))
    else if 7 < ustep st (nxt s k) then (k, false)
    else strF s f (k + 1) (ustep st (nxt s k))
/-- where a string ends -/
def strS (s : ByteArray) (k : Nat) : Nat × Bool := if nxt s k = 34 then strF s (s.size + 1) (k + 1) 0 else (k, false)
theorem escS_ge (s : ByteArray) (k : Nat) : k ≤ (escS s k).1 := by
  unfold escS
  split
  · exact Nat.le_refl _
  · split
    · exact Nat.le_refl _
    · split
      · exact Nat.le_trans (Nat.le_succ _) (hexS_ge s 4 (k + 1))
      · exact Nat.le_succ _
set_option maxHeartbeats 2000000 in
set_option maxRecDepth 100000 in
theorem str_call (g : Nat) (s : ByteArray) (k0 : Nat) (v : Value) (depth most : Nat) (w : World) (h : ScanB w g s k0 v depth most) (hs : s.size ≤ 1073741824) (hk0 : k0 ≤ s.size) :
    Calls Tryz.prog 118 #[.pointer (some ⟨g, 0, none⟩)] w fun e w' => e = .returned (.bool (strS s k0).2) ∧ ScanB w' g s (strS s k0).1 v depth most ∧ Onl g w w' ∧ (strS s k0).1 ≤ s.size := by
  have HTk := Lib.hid (take_call g s ⟨#[34]⟩ k0 v depth most w h hs hk0 (by decide) (by decide))
  have HE0 : Hid (takeS s k0 [34] = if nxt s k0 = 34 then (k0 + 1, true) else (k0, false)) := Lib.hid (by simp [takeS])
  have HS0 : Hid (strS s k0 = if nxt s k0 = 34 then strF s (s.size + 1) (k0 + 1) 0 else (k0, false)) := Lib.hid rfl
  have HLT : Hid (nxt s k0 = 34 → k0 < s.size) := Lib.hid (fun e => nxt_lt (by omega))
  have H := Lib.hid h
  clear h
  generalize strS s k0 = T at *
  change Hid (Calls _ _ _ _ fun e w' => e = .returned (.bool (takeS s k0 [34]).2) ∧ ScanB w' g s (takeS s k0 [34]).1 v depth most ∧ Onl g w w' ∧ (takeS s k0 [34]).1 ≤ s.size) at HTk
  rw [HE0.out] at HTk
  clear HE0
  generalize nxt s k0 = x0 at *
  by_cases h34 : x0 = 34
  · subst h34
    rw [if_pos rfl] at HTk HS0
    have hk0l := HLT.out rfl
    clear HLT
    go_enter Tryz.func118, Tryz.ntmps118
    go_wp2_with fail
    refine wp_scope_labels (fun l a w' => l = 0 ∧ ∃ f k st : Nat, k ≤ s.size ∧ s.size - k < f ∧ st ≤ 7 ∧ T = strF s f k st ∧ ScanB w' g s k v depth most ∧ Onl g w w' ∧ ∃ y1 y2 y4 y5 y6 y7 y8 y9 y10 y11 y12 y13 y14 y15 y16 y17 y18 y19 y20 y21 y22 y23 y24 y25 y26 y27 y28 y29 y30 y31 y32 y33 y34 y35 y36 y37 y38 y39 y40 y41 y42 y43 y44 y45 y46 y47 y48 y49 y50 y51 y52 y53 y54 y55 y56 y57 y58 y59 y60 y61 y62 y63 y64 y65 y66 y67 y68 y69 y70 y71 y72 y73 y74 y75 y76 : Value, a = { tmps := #[.pointer (some ⟨g, 0, none⟩), y1, y2, .int .i64 (st : Nat), y4, y5, y6, y7, y8, y9, y10, y11, y12, y13, y14, y15, y16, y17, y18, y19, y20, y21, y22, y23, y24, y25, y26, y27, y28, y29, y30, y31, y32, y33, y34, y35, y36, y37, y38, y39, y40, y41, y42, y43, y44, y45, y46, y47, y48, y49, y50, y51, y52, y53, y54, y55, y56, y57, y58, y59, y60, y61, y62, y63, y64, y65, y66, y67, y68, y69, y70, y71, y72, y73, y74, y75, y76], defers := [] })
      (fun _ _ w' => s.size - (match w'.cell? ⟨g, 1, none⟩ with | some v => (intOf v).toNat | none => 0)) ?_ ?_
    · rintro l a w' ⟨rfl, f, k, st, hk, hf, hst, hT, hS, hX, y1, y2, y4, y5, y6, y7, y8, y9, y10, y11, y12, y13, y14, y15, y16, y17, y18, y19, y20, y21, y22, y23, y24, y25, y26, y27, y28, y29, y30, y31, y32, y33, y34, y35, y36, y37, y38, y39, y40, y41, y42, y43, y44, y45, y46, y47, y48, y49, y50, y51, y52, y53, y54, y55, y56, y57, y58, y59, y60, y61, y62, y63, y64, y65, y66, y67, y68, y69, y70, y71, y72, y73, y74, y75, y76, rfl⟩ Q2 hg hr _
      refine ⟨_, rfl, ?_⟩
      obtain ⟨f, rfl⟩ : ∃ f', f = f' + 1 := ⟨f - 1, by omega⟩
      obtain ⟨hc0, hc1, hfz⟩ := hS.facts
      have HS := Lib.hid hS
      have HX := Lib.hid hX
      have HT := Lib.hid hT
      have HG := Lib.hid hg
      have HR := Lib.hid hr
      clear hS hX hT HTk HS0 hg hr
      have hmeas : ∀ (w2 : World) (j : Nat), w2.cell? ⟨g, 1, none⟩ = some (.int .i64 (j : Nat)) → k < j → j ≤ s.size →
          s.size - (match w2.cell? ⟨g, 1, none⟩ with | some v => (intOf v).toNat | none => 0) < s.size - (match w'.cell? ⟨g, 1, none⟩ with | some v => (intOf v).toNat | none => 0) := by
        intro w2 j h1 h2 h3
        rw [h1, hc1]
        have q1 : (intOf (.int .i64 ((j : Nat) : Int))).toNat = j := by simp [intOf]
        have q2 : (intOf (.int .i64 (k : Int))).toNat = k := by simp [intOf]
        simp only [q1, q2]
        omega
      have HM := Lib.hid hmeas
      clear hmeas
      by_cases hlt : k = s.size
      · have hq : ((k : Int) == (s.size : Int)) = true := by rw [beq_iff_eq]; omega
        have HT2 : Hid (T = (k, false)) := Lib.hid (by rw [HT.out, strF, if_pos hlt])
        clear HT hlt
        go_wp2_with fail
        go_quiet (fail)
        go_wp2_with fail
        refine HR.out _ _ ?_
        go_ret
        rw [HT2.out]
        exact ⟨rfl, Blk.drewN HS.out _, HX.out.trans (Onl.of_ext (Ext.drewN w' _)), hk⟩
      · have hkl : k < s.size := by omega
        have hq : ((k : Int) == (s.size : Int)) = false := by rw [beq_eq_false_iff_ne]; omega
        have hn : nxt s k = s[k].toNat := by unfold nxt; rw [dif_pos hkl]
        have HT2 : Hid (T = if st = 0 ∧ nxt s k < 32 then (k, false) else if st = 0 ∧ nxt s k = 34 then (k + 1, true)
            else if st = 0 ∧ nxt s k = 92 then (if (escS s (k + 1)).2 then strF s f (escS s (k + 1)).1 0 else ((escS s (k + 1)).1, false))
            else if 7 < ustep st (nxt s k) then (k, false) else strF s f (k + 1) (ustep st (nxt s k))) := Lib.hid (by rw [HT.out, strF, if_neg hlt])
        clear HT hlt
        obtain ⟨x, hx⟩ : ∃ x, s[k].toNat = x := ⟨_, rfl⟩
        have hx256 : x < 256 := by rw [← hx]; exact UInt8.toNat_lt _
        rw [hn, hx] at HT2
        clear hn
        have HI := Lib.hid (show ∀ q, ScanB ((w'.drewN q).setCell ⟨g, 1, none⟩ (.int .i64 ((k : Int) + 1))) g s (k + 1) v depth most from fun q => ScanB.inc (Blk.drewN HS.out q))
        have HO := Lib.hid (show ∀ q, Onl g w ((w'.drewN q).setCell ⟨g, 1, none⟩ (.int .i64 ((k : Int) + 1))) from fun q => (HX.out.trans (Onl.of_ext (Ext.drewN w' q))).inc _)
        have hes := escS_ge s (k + 1)
        have HEs := Lib.hid (fun W (hW : ScanB W g s (k + 1) v depth most) => escape_call g s (k + 1) v depth most W hW hs (by omega))
        generalize escS s (k + 1) = es at *
        have HSt := Lib.hid (fun W => ustep_call st x hst hx256 W)
        have hle := ustep_le st x (by omega)
        by_cases hst0 : st = 0
        · subst hst0
          by_cases h32 : x < 32
          · rw [if_pos ⟨rfl, h32⟩] at HT2
            go_wp2_with fail
            go_quiet (fail)
            go_wp2_with fail
            go_quiet (fail)
            go_wp2_with fail
            refine HR.out _ _ ?_
            go_ret
            rw [HT2.out]
            exact ⟨rfl, Blk.drewN HS.out _, HX.out.trans (Onl.of_ext (Ext.drewN w' _)), hk⟩
          · rw [if_neg (fun h => h32 h.2)] at HT2
            by_cases h34 : x = 34
            · rw [if_pos ⟨rfl, h34⟩] at HT2
              subst h34
              go_wp2_with fail
              go_quiet (fail)
              go_wp2_with fail
              go_quiet (fail)
              go_wp2_with fail
              refine HR.out _ _ ?_
              go_ret
              rw [HT2.out]
              simp only [World.drewN_drewN]
              exact ⟨rfl, HI.out _, HO.out _, hkl⟩
            · rw [if_neg (fun h => h34 h.2)] at HT2
              have q34 : ((x : Int) == 34) = false := by rw [beq_eq_false_iff_ne]; omega
              by_cases h92 : x = 92
              · rw [if_pos ⟨rfl, h92⟩] at HT2
                subst h92
                obtain ⟨k2, ok⟩ := es
                dsimp only at HEs HT2 hes
                cases ok
                · rw [if_neg (by decide)] at HT2
                  go_wp2_with fail
                  go_quiet (fail)
                  go_wp2_with fail
                  go_quiet (fail)
                  simp only [World.drewN_drewN]
                  go_wp2_with (go_at_call 164; refine (HEs.out _ (HI.out _)).mono ?_; rintro e w3 ⟨rfl, hS3, hX3, hk3⟩)
                  refine HR.out _ _ ?_
                  go_ret
                  rw [HT2.out]
                  exact ⟨rfl, hS3, (HO.out _).trans hX3, hk3⟩
                · rw [if_pos rfl] at HT2
                  go_wp2_with fail
                  go_quiet (fail)
                  go_wp2_with fail
                  go_quiet (fail)
                  simp only [World.drewN_drewN]
                  go_wp2_with (go_at_call 164; refine (HEs.out _ (HI.out _)).mono ?_; rintro e w3 ⟨rfl, hS3, hX3, hk3⟩)
                  go_step3
                  refine HG.out 0 _ _ ⟨rfl, f, k2, 0, hk3, by omega, by omega, HT2.out, hS3, (HO.out _).trans hX3, _, _, _, _, _, _, _, _, _, _, _, _, _, _, _, _, _, _, _, _, _, _, _, _, _, _, _, _, _, _, _, _, _, _, _, _, _, _, _, _, _, _, _, _, _, _, _, _, _, _, _, _, _, _, _, _, _, _, _, _, _, _, _, _, _, _, _, _, _, _, _, _, _, _, _, rfl⟩ (HM.out _ k2 hS3.facts.2.1 (by omega) hk3)
              · rw [if_neg (fun h => h92 h.2)] at HT2
                have q92 : ((x : Int) == 92) = false := by rw [beq_eq_false_iff_ne]; omega
                generalize ustep 0 x = st2 at *
                by_cases h7 : 7 < st2
                · rw [if_pos h7] at HT2
                  go_wp2_with fail
                  go_quiet (fail)
                  go_wp2_with fail
                  go_quiet (fail)
                  go_wp2_with (go_at_call 165; refine (HSt.out _).mono ?_; rintro e w3 ⟨rfl, rfl⟩)
                  refine HR.out _ _ ?_
                  go_ret
                  rw [HT2.out]
                  exact ⟨rfl, Blk.drewN HS.out _, HX.out.trans (Onl.of_ext (Ext.drewN w' _)), hk⟩
                · rw [if_neg h7] at HT2
                  go_wp2_with fail
                  go_quiet (fail)
                  go_wp2_with fail
                  go_quiet (fail)
                  simp only [World.drewN_drewN]
                  go_wp2_with (go_at_call 165; refine (HSt.out _).mono ?_; rintro e w3 ⟨rfl, rfl⟩)
                  go_step3
                  refine HG.out 0 _ _ ⟨rfl, f, k + 1, st2, hkl, by omega, by omega, HT2.out, HI.out _, HO.out _, _, _, _, _, _, _, _, _, _, _, _, _, _, _, _, _, _, _, _, _, _, _, _, _, _, _, _, _, _, _, _, _, _, _, _, _, _, _, _, _, _, _, _, _, _, _, _, _, _, _, _, _, _, _, _, _, _, _, _, _, _, _, _, _, _, _, _, _, _, _, _, _, _, _, _, rfl⟩ (HM.out _ (k + 1) (HI.out _).facts.2.1 (by omega) hkl)
        · rw [if_neg (fun h => hst0 h.1), if_neg (fun h => hst0 h.1), if_neg (fun h => hst0 h.1)] at HT2
          have q0 : ((st : Int) == 0) = false := by rw [beq_eq_false_iff_ne]; omega
          generalize ustep st x = st2 at *
          by_cases h7 : 7 < st2
          · rw [if_pos h7] at HT2
            go_wp2_with fail
            go_quiet (fail)
            go_wp2_with fail
            go_quiet (fail)
            go_wp2_with (go_at_call 165; refine (HSt.out _).mono ?_; rintro e w3 ⟨rfl, rfl⟩)
            refine HR.out _ _ ?_
            go_ret
            rw [HT2.out]
            exact ⟨rfl, Blk.drewN HS.out _, HX.out.trans (Onl.of_ext (Ext.drewN w' _)), hk⟩
          · rw [if_neg h7] at HT2
            go_wp2_with fail
            go_quiet (fail)
            go_wp2_with fail
            go_quiet (fail)
            simp only [World.drewN_drewN]
            go_wp2_with (go_at_call 165; refine (HSt.out _).mono ?_; rintro e w3 ⟨rfl, rfl⟩)
            go_step3
            refine HG.out 0 _ _ ⟨rfl, f, k + 1, st2, hkl, by omega, by omega, HT2.out, HI.out _, HO.out _, _, _, _, _, _, _, _, _, _, _, _, _, _, _, _, _, _, _, _, _, _, _, _, _, _, _, _, _, _, _, _, _, _, _, _, _, _, _, _, _, _, _, _, _, _, _, _, _, _, _, _, _, _, _, _, _, _, _, _, _, _, _, _, _, _, _, _, _, _, _, _, _, _, _, _, rfl⟩ (HM.out _ (k + 1) (HI.out _).facts.2.1 (by omega) hkl)
    · intro Q2 hg hr _ hp
      go_wp2_with (go_at_call 119; refine HTk.out.mono ?_; rintro e w1 ⟨rfl, hS1, hX1, hk1⟩)
      go_step3
      go_step
      go_step
      exact hp 0 _ _ _ ⟨rfl, s.size + 1, k0 + 1, 0, hk1, by omega, by omega, HS0.out, hS1, hX1, _, _, _, _, _, _, _, _, _, _, _, _, _, _, _, _, _, _, _, _, _, _, _, _, _, _, _, _, _, _, _, _, _, _, _, _, _, _, _, _, _, _, _, _, _, _, _, _, _, _, _, _, _, _, _, _, _, _, _, _, _, _, _, _, _, _, _, _, _, _, _, _, _, _, _, rfl⟩ rfl
  · rw [if_neg h34] at HTk HS0
    go_enter Tryz.func118, Tryz.ntmps118
    go_wp2_with fail
    refine wp_scope_labels (fun _ _ _ => False) (fun _ _ _ => 0) (fun _ _ _ h => h.elim) ?_
    intro Q2 hg hr _ hp
    go_wp2_with (go_at_call 119; refine HTk.out.mono ?_; rintro e w1 ⟨rfl, hS1, hX1, hk1⟩)
    refine hr _ _ ?_
    go_ret
    rw [HS0.out]
    exact ⟨rfl, hS1, hX1, hk1⟩
end Go.Proofs.Lw
