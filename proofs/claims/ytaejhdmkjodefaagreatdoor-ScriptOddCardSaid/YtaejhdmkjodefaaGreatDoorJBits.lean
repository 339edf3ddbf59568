/- bits.Builder: what Put does to the words. bits: Bit, Len, Row; a row's words. -/
import Derived.Test.YtaejhdmkjodefaaGreatDoorJMem
import Derived.Test.YtaejhdmkjodefaaGreatDoorJShelf
import Derived.StillTailTactics
import Derived.Deep.RegionLaw
import Derived.BigRegion
import Derived.WalkSpells
import Derived.Deep.RegionWith
import Derived.Deep.RegionHeld3
set_option linter.unusedSimpArgs false
set_option linter.unusedVariables false
namespace Go.Proofs.Lw
open Go Go.RowKit

/-- all blocks but g and o, of those that were there, are as they were -/
structure Off2 (w w' : World) (g : Nat) (o : Option Nat) : Prop where
  os : w'.os = w.os
  tape : w'.tape = w.tape
  output : w'.output = w.output
  size : w.heap.size ≤ w'.heap.size
  block : ∀ i, i < w.heap.size → i ≠ g → some i ≠ o → w'.heap[i]? = w.heap[i]?

def u64s (ws : List Nat) : List Value := ws.map fun x => .int .u64 (x : Nat)
theorem u64s_len (ws : List Nat) : (u64s ws).length = ws.length := by simp [u64s]
theorem u64s_get (ws : List Nat) (i : Nat) (h : i < ws.length) : (u64s ws)[i]? = some (.int .u64 (ws.getD i 0 : Nat)) := by
  simp [u64s, List.getElem?_eq_getElem h]

structure IsBld (w : World) (base g : Nat) (v : Value) (ws : List Nat) (n : Nat) : Prop where
  blk : Blk w g 160 #[v, .int .i64 n]
  own : w.ownsRow base 112 1 v ws.length (u64s ws)
  ge : base ≤ g
  lt : ∀ x ∈ ws, x < W64
  len : ws.length = (n + 63) / 64

theorem own_ne {w : World} {base : Nat} {e : TypeId} {size n : Nat} {v : Value} {xs : List Value} {g : Nat} {t : TypeId} {cs : Array Value} (h : w.ownsRow base e size v n xs) (hg : Blk w g t cs) (hne : e ≠ t) : v.ownBlock ≠ some g := by
  rcases h.2 with ⟨rfl, _⟩ | ⟨g', cap, cur, rfl, _, hh, _⟩
  · simp [Value.ownBlock]
  · intro he
    have : g' = g := by simpa [Value.ownBlock] using he
    subst this
    unfold Blk at hg
    rw [hh] at hg
    injection hg with h'
    injection h' with _ ht
    exact hne ht
theorem IsBld.grown {w w1 : World} {base g : Nat} {v : Value} {ws : List Nat} {n : Nat} {o : Obj} (h : IsBld w base g v ws n) (hg : (w.alloc o).grownBy w1 v.ownBlock) :
    Blk w1 g 160 #[v, .int .i64 n] ∧ w1.cell? ⟨g, 0, none⟩ = some v ∧ w1.cell? ⟨g, 1, none⟩ = some (.int .i64 n) ∧ w1.frozen? ⟨g, 0, none⟩ = false ∧ w1.frozen? ⟨g, 1, none⟩ = false := by
  have hne := own_ne h.own h.blk (by decide)
  have hb : Blk w1 g 160 #[v, .int .i64 n] := (hg.block g (by have := h.blk.lt; simp; omega) (fun e => hne e.symm)).trans ((Below.heap_alloc w o g h.blk.lt).trans h.blk)
  exact ⟨hb, by simpa using hb.cell 0, by simpa using hb.cell 1, hb.frozen 0, hb.frozen 1⟩

theorem bitLenAux_le : ∀ (f x k : Nat), x < 2 ^ k → Lib.bitLenAux f x ≤ k
  | 0, x, k, h => by simp [Lib.bitLenAux]
  | f + 1, x, k, h => by
    unfold Lib.bitLenAux
    by_cases h0 : x = 0
    · rw [if_pos h0]; omega
    · rw [if_neg h0]
      obtain ⟨j, rfl⟩ : ∃ j, k = j + 1 := ⟨k - 1, by rcases k with _ | k <;> simp_all⟩
      have := bitLenAux_le f (x / 2) j (by rw [Nat.pow_succ] at h; omega)
      omega
theorem need_call (x : Nat) (hx : x < W64) (w : World) : Calls Tryz.prog 124 #[.int .u64 x] w fun e w' => e = .returned (.int .i64 (Lib.bitLen x : Nat)) ∧ w = w' := by
  have h0 : (0 : Int) ≤ (x : Int) := by omega
  have h1 : (x : Int) ≤ 18446744073709551615 := by unfold W64 at hx; omega
  have C := fun W => Tryz.bits_Len64 (x : Int) W h0 h1
  have HC := Lib.hid C
  clear C
  go_enter Tryz.func124, Tryz.ntmps124
  go_wp2_with (go_at_call 166; refine (HC.out _).mono ?_; rintro e w' ⟨rfl, rfl⟩)
  go_ret
  exact ⟨by simp, rfl⟩

/-- the words behind a Put -/
def putWs (ws : List Nat) (n x k : Nat) : List Nat :=
  if n % 64 = 0 then ws ++ [x]
  else
    let l := ws.dropLast ++ [ws.getD (ws.length - 1) 0 ||| (x * 2 ^ (n % 64)) % W64]
    if n % 64 + k ≤ 64 then l else l ++ [x / 2 ^ (64 - n % 64)]

theorem u64_info : (Tryz.prog.info? 112).map (fun i => (i.zero, i.size, i.bytes)) = some (some (.int .u64 0), 1, 8) := by kernel_rfl

theorem Blk.two {W w1 : World} {g : Nat} {t : TypeId} {a b : Value} {row : Option Nat} (hB : Blk W g t #[a, b]) (hg : W.grownBy w1 row) (hne : row ≠ some g) :
    Blk w1 g t #[a, b] ∧ w1.cell? ⟨g, 0, none⟩ = some a ∧ w1.cell? ⟨g, 1, none⟩ = some b ∧ w1.frozen? ⟨g, 0, none⟩ = false ∧ w1.frozen? ⟨g, 1, none⟩ = false := by
  have hb : Blk w1 g t #[a, b] := (hg.block g hB.lt (fun e => hne e.symm)).trans hB
  exact ⟨hb, by simpa using hb.cell 0, by simpa using hb.cell 1, hb.frozen 0, hb.frozen 1⟩
theorem Blk.drew' {w : World} {g : Nat} {t : TypeId} {cs : Array Value} (h : Blk w g t cs) : Blk w.drew g t cs := h
theorem Blk.alloc' {w : World} {g : Nat} {t : TypeId} {cs : Array Value} (h : Blk w g t cs) (o : Obj) : Blk (w.alloc o) g t cs := (Below.heap_alloc w o g h.lt).trans h
theorem cell_new_set (w : World) (p : Addr) (u x : Value) (t : TypeId) : ∀ j y, [x][j]? = some y → ((w.setCell p u).alloc (.cells #[x] t)).cell? ((⟨w.heap.size, 0, none⟩ : Addr).add j) = some y := by
  intro j y hy
  have h := cell_one_new (w.setCell p u) x t j y hy
  have e : (w.setCell p u).heap.size = w.heap.size := by simp [World.setCell]
  rwa [e] at h

theorem put_end {w w1 : World} {base g g2 cap m : Nat} {v : Value} {ws ws' : List Nat} {n k : Nat} {m' : Int} {xs : List Value} (h : IsBld w base g v ws n)
    (hown : w1.ownsRow base 112 1 (.slice (some ⟨g2, 0, none⟩) m cap) m xs)
    (hblk : ∀ i, i < w.heap.size → i ≠ g → some i ≠ v.ownBlock → w1.heap[i]? = w.heap[i]?) (hst : w1.os = w.os ∧ w1.tape = w.tape ∧ w1.output = w.output) (hsz : w.heap.size ≤ w1.heap.size)
    (hb1 : Blk w1 g 160 #[v, .int .i64 m']) (hat : some g2 = v.ownBlock ∨ w.heap.size ≤ g2)
    (hxs : xs = u64s ws') (hm : m = ws'.length) (hlt : ∀ x ∈ ws', x < W64) (hlen : ws'.length = (n + k + 63) / 64) :
    ∃ v', IsBld ((w1.setCell ⟨g, 0, none⟩ (.slice (some ⟨g2, 0, none⟩) m cap)).setCell ⟨g, 1, none⟩ (.int .i64 (n + k))) base g v' ws' (n + k) ∧
      Off2 w ((w1.setCell ⟨g, 0, none⟩ (.slice (some ⟨g2, 0, none⟩) m cap)).setCell ⟨g, 1, none⟩ (.int .i64 (n + k))) g v.ownBlock ∧ (v'.ownBlock = v.ownBlock ∨ ∃ j, v'.ownBlock = some j ∧ w.heap.size ≤ j) := by
  subst hm hxs
  have hne : g2 ≠ g := fun e => own_ne hown hb1 (by decide) (by simp [Value.ownBlock, e])
  have b1 := (hb1.set_ 0 (.slice (some ⟨g2, 0, none⟩) ws'.length cap)).set_ 1 (.int .i64 (n + k))
  refine ⟨.slice (some ⟨g2, 0, none⟩) ws'.length cap, ⟨?_, ?_, h.ge, hlt, hlen⟩, ⟨?_, ?_, ?_, ?_, ?_⟩, ?_⟩
  · simpa using b1
  · exact ownsRow_setCell_other (ownsRow_setCell_other hown (by simpa [Value.ownBlock] using hne) _) (by simpa [Value.ownBlock] using hne) _
  · exact hst.1
  · exact hst.2.1
  · exact hst.2.2
  · simpa [World.setCell] using hsz
  · intro i hi hg ho
    exact ((Below.heap_setCell _ _ _ _ (by simpa using hg)).trans (Below.heap_setCell _ _ _ _ (by simpa using hg))).trans (hblk i hi hg ho)
  · rcases hat with e | e
    · exact .inl (by simpa [Value.ownBlock] using e)
    · exact .inr ⟨g2, rfl, e⟩

theorem putWs_len (ws : List Nat) (n x k : Nat) (h : ws.length = (n + 63) / 64) (h1 : 1 ≤ k) (h2 : k ≤ 64) : (putWs ws n x k).length = (n + k + 63) / 64 := by
  unfold putWs
  split
  · simp; omega
  · dsimp only
    split <;> simp <;> omega
theorem or_lt (a b : Nat) (ha : a < W64) (hb : b < W64) : a ||| b < W64 := Nat.or_lt_two_pow (n := 64) ha hb
theorem putWs_lt (ws : List Nat) (n x k : Nat) (h : ∀ y ∈ ws, y < W64) (hx : x < W64) : ∀ y ∈ putWs ws n x k, y < W64 := by
  have hl : ws.getD (ws.length - 1) 0 < W64 := by
    rcases Nat.lt_or_ge (ws.length - 1) ws.length with h1 | h1
    · rw [List.getD_eq_getElem?_getD, List.getElem?_eq_getElem h1]; exact h _ (List.getElem_mem _)
    · rw [List.getD_eq_getElem?_getD, List.getElem?_eq_none h1]; simp [W64]
  have hd : ∀ y ∈ ws.dropLast, y < W64 := fun y hy => h y (List.dropLast_subset _ hy)
  have hz : (x * 2 ^ (n % 64)) % W64 < W64 := Nat.mod_lt _ (by simp [W64])
  have ho := or_lt _ _ hl hz
  have hq : x / 2 ^ (64 - n % 64) < W64 := Nat.lt_of_le_of_lt (Nat.div_le_self _ _) hx
  unfold putWs
  intro y hy
  split at hy
  · rcases List.mem_append.1 hy with hy | hy
    · exact h y hy
    · rw [List.mem_singleton.1 hy]; exact hx
  · dsimp only at hy
    split at hy
    · rcases List.mem_append.1 hy with hy | hy
      · exact hd y hy
      · rw [List.mem_singleton.1 hy]; exact ho
    · rcases List.mem_append.1 hy with hy | hy
      · rcases List.mem_append.1 hy with hy | hy
        · exact hd y hy
        · rw [List.mem_singleton.1 hy]; exact ho
      · rw [List.mem_singleton.1 hy]; exact hq

theorem last_lt {ws : List Nat} (h : ∀ y ∈ ws, y < W64) : ws.getD (ws.length - 1) 0 < W64 := by
  rcases Nat.lt_or_ge (ws.length - 1) ws.length with h1 | h1
  · rw [List.getD_eq_getElem?_getD, List.getElem?_eq_getElem h1]; exact h _ (List.getElem_mem _)
  · rw [List.getD_eq_getElem?_getD, List.getElem?_eq_none h1]; simp [W64]
theorem or_put (a x p : Nat) (ha : a < W64) : bits .or .u64 (a : Int) (IntKind.u64.wrap ((x : Int) * 2 ^ p)) = ((a ||| (x * 2 ^ p) % W64 : Nat) : Int) := by
  have e : IntKind.u64.wrap ((x : Int) * 2 ^ p) = ((x * 2 ^ p % W64 : Nat) : Int) := by
    have h : ((x * 2 ^ p : Nat) : Int) = (x : Int) * 2 ^ p := by push_cast; rfl
    rw [← h]
    generalize x * 2 ^ p = m
    rw [IntKind.wrap_u64]; unfold W64; omega
  rw [e, u64_or_nat _ _ ha (Nat.mod_lt _ (by simp [W64]))]
theorem u64s_set (ws : List Nat) (y : Nat) (h : 0 < ws.length) : (u64s ws).set (ws.length - 1) (.int .u64 (y : Nat)) = u64s (ws.dropLast ++ [y]) := by
  apply List.ext_getElem?
  intro i
  rw [List.getElem?_set]
  by_cases hi : ws.length - 1 = i
  · subst hi
    rw [if_pos rfl, if_pos (by simp [u64s]; omega)]
    simp [u64s, List.getElem?_append]
  · rw [if_neg hi]
    simp only [u64s, List.map_append, List.map_dropLast, List.getElem?_append, List.length_dropLast, List.length_map, List.getElem?_dropLast]
    by_cases h2 : i < ws.length - 1
    · simp [h2]
    · rw [if_neg h2, List.getElem?_eq_none (by simp; omega), List.getElem?_eq_none (by simp; omega)]
set_option maxRecDepth 100000 in
set_option maxHeartbeats 1000000 in
theorem put_call (x k n : Nat) (base g : Nat) (v : Value) (ws : List Nat) (w : World) (h : IsBld w base g v ws n) (hbase : base ≤ w.heap.size) (hk1 : 1 ≤ k) (hk2 : k ≤ 64) (hx : x < 2 ^ k) (hn : n ≤ 1073741824) :
    Calls Tryz.prog 88 #[.pointer (some ⟨g, 0, none⟩), .int .u64 x, .int .i64 k] w fun e w' => e = .returned (.int .i64 0) ∧
      ∃ v', IsBld w' base g v' (putWs ws n x k) (n + k) ∧ Off2 w w' g v.ownBlock ∧ (v'.ownBlock = v.ownBlock ∨ ∃ j, v'.ownBlock = some j ∧ w.heap.size ≤ j) := by
  have hxW : x < W64 := Nat.lt_of_lt_of_le hx (Nat.pow_le_pow_right (n := 2) (by omega) hk2)
  have hneed : Lib.bitLen x ≤ k := bitLenAux_le 64 x k hx
  have hc0 := h.blk.cell 0
  have hc1 := h.blk.cell 1
  have hf0 := h.blk.frozen 0
  have hf1 := h.blk.frozen 1
  simp at hc0 hc1
  obtain ⟨i0, hi, hz0, hz1, hz2⟩ := info_parts u64_info
  have hlen := h.len
  have hwl : ws.length ≤ 16777217 := by omega
  by_cases hat : n % 64 = 0
  · have hq : ((n : Int) % 64 == 0) = true := by rw [beq_iff_eq]; omega
    have H := Lib.hid h
    have HA := Lib.hid hat
    have HI := Lib.hid hi
    have HZ0 := Lib.hid hz0
    have HZ1 := Lib.hid hz1
    have HZ2 := Lib.hid hz2
    have HL := Lib.hid hlen
    clear h hat hi hz0 hz1 hz2 hlen
    go_enter Tryz.func88, Tryz.ntmps88
    go_wp2_with (first
      | (go_at_call 124; refine (need_call _ hxW _).mono ?_; rintro e w' ⟨rfl, rfl⟩)
      | (at_builtin; go_loud (refine wpList_append_lies _ rfl (.tmp 43) (.tmp 45) 152 rfl base 112 i0 _ 1 8 Tryz.underlying152 HI.out HZ0.out HZ1.out HZ2.out rfl (by decide) v ws.length (u64s ws) rfl (H.out.own.alloc _) ⟨w.heap.size, 0, none⟩ 1 1 [.int .u64 (x : Nat)] rfl rfl (cell_one_new _ _ _) (by simp [Value.oneCell']) (by decide) (by unfold maxLen; omega) (by omega) (by simp; omega) _ rfl ?_); intro g2 cap w1 hown hgrow hat2 hlt2; obtain ⟨hd0, hd1, hd2, hf2, hf3⟩ := H.out.grown hgrow))
    go_ret
    have e1 : putWs ws n x k = ws ++ [x] := by rw [putWs, if_pos HA.out]
    refine ⟨rfl, ?_⟩
    rw [e1]
    refine put_end H.out hown (fun i hi hg ho => (hgrow.block i (by simp; omega) ho).trans (Below.heap_alloc w _ i hi)) ⟨hgrow.os, hgrow.tape, hgrow.output⟩ (Nat.le_trans (by simp) hgrow.size) hd0 ?_ (by simp [u64s]) (by simp) ?_ ?_
    · rcases hat2 with e | e
      · exact .inl e.symm
      · exact .inr (by simp at e; omega)
    · rw [← e1]; exact putWs_lt _ _ _ _ H.out.lt hxW
    · rw [← e1]; exact putWs_len _ _ _ _ HL.out hk1 hk2
  · have hq : ((n : Int) % 64 == 0) = false := by rw [beq_eq_false_iff_ne]; omega
    have hpos : 0 < ws.length := by omega
    obtain ⟨g2, cap, hv, hge2, hlt2⟩ := h.own.form hpos
    subst hv
    have hne := own_ne h.own h.blk (by decide)
    have hne2 : ¬ g2 = g := fun e => hne (by simp [Value.ownBlock, e])
    have hne3 : ¬ g = g2 := fun e => hne2 e.symm
    have hcl := h.own.cellAt (ws.length - 1) (by omega)
    rw [u64s_get ws _ (by omega)] at hcl
    have hfl := h.own.frozenAt (ws.length - 1)
    generalize hlast : ws.getD (ws.length - 1) 0 = last at hcl
    have H := Lib.hid h
    have HA := Lib.hid hat
    have HI := Lib.hid hi
    have HZ0 := Lib.hid hz0
    have HZ1 := Lib.hid hz1
    have HZ2 := Lib.hid hz2
    have HL := Lib.hid hlen
    have HLa := Lib.hid hlast
    have HN := Lib.hid hne
    clear h hat hi hz0 hz1 hz2 hlen hlast hne
    have hi1 : (0 : Int) ≤ (ws.length : Int) - 1 := by omega
    have hi2 : (ws.length : Int) - 1 < (ws.length : Int) := by omega
    have hi3 : (1 : Int) ≤ (ws.length : Int) := by omega
    have hs1 : IntKind.i64.wrap ((ws.length : Int) - 1) = (ws.length : Int) - 1 := IntWalk.i64_in _ (by omega)
    have hs2 : ((ws.length : Int) - 1).toNat = ws.length - 1 := by omega
    by_cases hk : n % 64 + k ≤ 64
    · go_enter Tryz.func88, Tryz.ntmps88
      go_wp2_with (go_at_call 124; refine (need_call _ hxW _).mono ?_; rintro e w' ⟨rfl, rfl⟩)
      go_still_tail 17, (by kernel_rfl)
      change wpList _ _ _ _ _ w.drew
      go_wp2
      go_ret
      have e1 : putWs ws n x k = ws.dropLast ++ [last ||| (x * 2 ^ (n % 64)) % W64] := by
        unfold putWs; rw [if_neg HA.out, HLa.out]; dsimp only; rw [if_pos hk]
      have hO := (H.out.own.stored (ws.length - 1) (.int .u64 (bits .or .u64 (last : Int) (IntKind.u64.wrap ((x : Int) * 2 ^ (n % 64)))))).1
      have hl2 : (putWs ws n x k).length = ws.length := by rw [e1]; simp; omega
      have hx2 : (u64s ws).set (ws.length - 1) (.int .u64 (bits .or .u64 (last : Int) (IntKind.u64.wrap ((x : Int) * 2 ^ (n % 64))))) = u64s (putWs ws n x k) := by
        rw [e1, or_put _ _ _ (HLa.out ▸ last_lt H.out.lt)]; exact u64s_set _ _ hpos
      rw [hx2] at hO
      refine ⟨rfl, .slice (some ⟨g2, 0, none⟩) ws.length cap, ⟨?_, ?_, H.out.ge, putWs_lt _ _ _ _ H.out.lt hxW, putWs_len _ _ _ _ HL.out hk1 hk2⟩, ⟨rfl, rfl, rfl, by simp [World.setCell], ?_⟩, .inl rfl⟩
      · exact Blk.drew' (by simpa using ((H.out.blk.far (p := ⟨g2, ws.length - 1, none⟩) hne3 _).set_ 1 (.int .i64 (n + k))))
      · rw [hl2]; exact ownsRow_setCell_other hO (by simpa [Value.ownBlock] using hne2) _
      · intro i hi hg ho
        exact (Below.heap_setCell _ _ _ _ (by simpa using hg)).trans (Below.heap_setCell _ _ _ _ (by simpa [Value.ownBlock] using ho))
    · have hO := H.out.own.stored (ws.length - 1) (.int .u64 (bits .or .u64 (last : Int) (IntKind.u64.wrap ((x : Int) * 2 ^ (n % 64)))))
      have e1 : putWs ws n x k = ws.dropLast ++ [last ||| (x * 2 ^ (n % 64)) % W64] ++ [x / 2 ^ (64 - n % 64)] := by
        unfold putWs; rw [if_neg HA.out, HLa.out]; dsimp only; rw [if_neg hk]
      have hl2 : (putWs ws n x k).length = ws.length + 1 := by rw [e1]; simp; omega
      have hx2 : (u64s ws).set (ws.length - 1) (.int .u64 (bits .or .u64 (last : Int) (IntKind.u64.wrap ((x : Int) * 2 ^ (n % 64))))) ++ [.int .u64 ((x : Int) / 2 ^ (64 - n % 64))] = u64s (putWs ws n x k) := by
        rw [e1, or_put _ _ _ (HLa.out ▸ last_lt H.out.lt), u64s_set _ _ hpos]; simp [u64s]
      have HX2 := Lib.hid hx2
      have HL2 := Lib.hid hl2
      clear hx2 hl2 e1
      have HO := Lib.hid hO.1
      clear hO
      have hcA : ∀ V o, ((w.setCell ⟨g2, ws.length - 1, none⟩ V).alloc o).cell? ⟨g, 0, none⟩ = some (.slice (some ⟨g2, 0, none⟩) ws.length cap) := fun V o => by
        simpa using ((H.out.blk.far (p := ⟨g2, ws.length - 1, none⟩) hne3 V).alloc' o).cell 0
      have hs3 : IntKind.i64.wrap (64 - (n : Int) % 64) = 64 - (n : Int) % 64 := IntWalk.i64_in _ (by omega)
      have hs4 : (0 : Int) ≤ 64 - (n : Int) % 64 := by omega
      have hs5 : 64 - (n : Int) % 64 < 64 := by have := HA.out; omega
      have hs6 : (64 - (n : Int) % 64).toNat = 64 - n % 64 := by omega
      go_enter Tryz.func88, Tryz.ntmps88
      go_wp2_with (go_at_call 124; refine (need_call _ hxW _).mono ?_; rintro e w' ⟨rfl, rfl⟩)
      go_still_tail 17, (by kernel_rfl)
      change wpList _ _ _ _ _ w.drew
      go_wp2
      go_region_law (go_loud (refine step_append_lies _ rfl (.tmp 74) (.tmp 79) 152 rfl base 112 i0 _ 1 8 Tryz.underlying152 HI.out HZ0.out HZ1.out HZ2.out rfl (by decide) _ ws.length _ rfl (by exact HO.out.alloc _) ⟨w.heap.size, 0, none⟩ 1 1 _ rfl rfl (cell_new_set _ _ _ _ _) (by simp [Value.oneCell']) (by decide) (by unfold maxLen; omega) (by omega) (by simp; omega) _ rfl ?_); intro g3 cap3 w1 hown hgrow hat2 hlt2; obtain ⟨hd0, hd1, hd2, hf2, hf3⟩ := Blk.two (by exact (H.out.blk.far (p := ⟨g2, ws.length - 1, none⟩) hne3 _).alloc' _) hgrow HN.out)
      all_goals
        go_wp2
        go_ret
        refine ⟨rfl, put_end H.out hown (fun i hi hg ho => (hgrow.block i (by simp; omega) ho).trans ((Below.heap_alloc _ _ i (by simp; omega)).trans (Below.heap_setCell _ _ _ _ (by simpa [Value.ownBlock] using ho)))) ⟨hgrow.os, hgrow.tape, hgrow.output⟩ (Nat.le_trans (by simp) hgrow.size) hd0 ?_ HX2.out HL2.out.symm (putWs_lt _ _ _ _ H.out.lt hxW) (putWs_len _ _ _ _ HL.out hk1 hk2)⟩
        rcases hat2 with e | e
        · exact .inl e.symm
        · exact .inr (by simp at e; omega)
end Go.Proofs.Lw
namespace Go.Proofs.Lw
open Go Go.RowKit

/-- a slice value that reads as these words -/
def IsWords (w : World) (v : Value) (ws : List Nat) : Prop :=
  ∃ A c, v = .slice A ws.length c ∧ ws.length ≤ c ∧ c ≤ maxLen ∧ (0 < ws.length → ∃ g cs, A = some ⟨g, 0, none⟩ ∧ Blk w g 112 cs ∧ ∀ i, i < ws.length → cs[i]? = some (.int .u64 (ws.getD i 0 : Nat)))
theorem IsWords.ext {w w' : World} {v : Value} {ws : List Nat} (h : IsWords w v ws) (e : Ext w w') : IsWords w' v ws := by
  obtain ⟨A, c, h1, h2, h3, h4⟩ := h
  exact ⟨A, c, h1, h2, h3, fun h0 => by obtain ⟨g, cs, a, b, d⟩ := h4 h0; exact ⟨g, cs, a, b.ext e, d⟩⟩
theorem IsWords.of_own {w : World} {base : Nat} {v : Value} {ws : List Nat} (h : w.ownsRow base 112 1 v ws.length (u64s ws)) : IsWords w v ws := by
  rcases h.2 with ⟨rfl, h0⟩ | ⟨g, cap, cur, rfl, _, hb, hc, hm, hs, ht⟩
  · exact ⟨none, 0, by rw [h0], by omega, by unfold maxLen; omega, fun h => by omega⟩
  · refine ⟨_, cap, rfl, hc, hm, fun _ => ⟨g, cur, rfl, hb, fun i hi => ?_⟩⟩
    have := u64s_get ws i hi
    rw [← ht, List.getElem?_take, if_pos (by omega)] at this
    simpa using this
/-- a row of bits behind a pointer: its words, how many bits -/
def IsRow (w : World) (p : Addr) (ws : List Nat) (n : Nat) : Prop :=
  (∃ g v, p = ⟨g, 0, none⟩ ∧ Blk w g 179 #[v, .int .i64 n] ∧ IsWords w v ws) ∧ ws.length = (n + 63) / 64 ∧ (∀ x ∈ ws, x < W64) ∧ n ≤ 1073741824
theorem IsRow.ext {w w' : World} {p : Addr} {ws : List Nat} {n : Nat} (h : IsRow w p ws n) (e : Ext w w') : IsRow w' p ws n := by
  obtain ⟨⟨g, v, a, b, c⟩, d⟩ := h
  exact ⟨⟨g, v, a, b.ext e, c.ext e⟩, d⟩

theorem bit_call (one : Bool) (n : Nat) (base g : Nat) (v : Value) (ws : List Nat) (w : World) (h : IsBld w base g v ws n) (hbase : base ≤ w.heap.size) (hn : n ≤ 1073741824) :
    Calls Tryz.prog 80 #[.pointer (some ⟨g, 0, none⟩), .bool one] w fun e w' => e = .returned (.int .i64 0) ∧
      ∃ v', IsBld w' base g v' (putWs ws n one.toNat 1) (n + 1) ∧ Off2 w w' g v.ownBlock ∧ (v'.ownBlock = v.ownBlock ∨ ∃ j, v'.ownBlock = some j ∧ w.heap.size ≤ j) := by
  cases one
  · have P := put_call 0 1 n base g v ws w h hbase (by omega) (by omega) (by omega) hn
    have HP := Lib.hid P
    clear P h
    go_enter Tryz.func80, Tryz.ntmps80
    go_wp2_with (go_at_call 88; refine HP.out.mono ?_; rintro e w' ⟨rfl, hp⟩)
    go_ret
    exact ⟨rfl, hp⟩
  · have P := put_call 1 1 n base g v ws w h hbase (by omega) (by omega) (by omega) hn
    have HP := Lib.hid P
    clear P h
    go_enter Tryz.func80, Tryz.ntmps80
    go_wp2_with (go_at_call 88; refine HP.out.mono ?_; rintro e w' ⟨rfl, hp⟩)
    go_ret
    exact ⟨rfl, hp⟩

theorem blen_call (n : Nat) (base g : Nat) (v : Value) (ws : List Nat) (w : World) (h : IsBld w base g v ws n) :
    Calls Tryz.prog 82 #[.pointer (some ⟨g, 0, none⟩)] w fun e w' => e = .returned (.int .i64 n) ∧ w = w' := by
  have hc1 := h.blk.cell 1
  simp at hc1
  go_enter Tryz.func82, Tryz.ntmps82
  go_wp2
  go_ret
  exact ⟨rfl, rfl⟩
theorem rlen_call (n : Nat) (p : Addr) (ws : List Nat) (w : World) (h : IsRow w p ws n) :
    Calls Tryz.prog 126 #[.pointer (some p)] w fun e w' => e = .returned (.int .i64 n) ∧ w = w' := by
  obtain ⟨⟨g, v, rfl, hb, _⟩, _⟩ := h
  have hc1 := hb.cell 1
  simp at hc1
  go_enter Tryz.func126, Tryz.ntmps126
  go_wp2
  go_ret
  exact ⟨rfl, rfl⟩

def wordAt (ws : List Nat) (i : Int) : Nat := if i < 0 then 0 else ws.getD i.toNat 0
theorem wordAt_lt (ws : List Nat) (h : ∀ x ∈ ws, x < W64) (i : Int) : wordAt ws i < W64 := by
  unfold wordAt
  split
  · simp [W64]
  · rcases Nat.lt_or_ge i.toNat ws.length with h1 | h1
    · rw [List.getD_eq_getElem?_getD, List.getElem?_eq_getElem h1]; exact h _ (List.getElem_mem _)
    · rw [List.getD_eq_getElem?_getD, List.getElem?_eq_none h1]; simp [W64]
theorem word_call (p : Addr) (ws : List Nat) (n : Nat) (i : Int) (w : World) (h : IsRow w p ws n) :
    Calls Tryz.prog 131 #[.pointer (some p), .int .i64 i] w fun e w' => e = .returned (.int .u64 (wordAt ws i : Nat)) ∧ w = w' := by
  obtain ⟨⟨g, v, rfl, hb, A, c, rfl, hc1, hc2, hw⟩, _⟩ := h
  have hc0 := hb.cell 0
  have hc1' := hb.cell 1
  simp at hc0 hc1'
  by_cases h0 : i < 0
  · go_enter Tryz.func131, Tryz.ntmps131
    go_wp2
    go_ret
    simp [wordAt, h0]
  · by_cases h1 : i < ws.length
    · obtain ⟨g2, cs, rfl, hb2, hcs⟩ := hw (by omega)
      obtain ⟨k, rfl⟩ := Int.eq_ofNat_of_zero_le (by omega : 0 ≤ i)
      have hk := (hb2.cell k).trans (hcs k (by omega))
      go_enter Tryz.func131, Tryz.ntmps131
      go_wp2
      go_ret
      exact ⟨ret_int (by rw [wordAt, if_neg (by omega)]; simp), rfl⟩
    · have hg : wordAt ws i = 0 := by
        rw [wordAt, if_neg h0, List.getD_eq_getElem?_getD, List.getElem?_eq_none (by omega)]; rfl
      have HG := Lib.hid hg
      clear hg
      go_enter Tryz.func131, Tryz.ntmps131
      go_wp2
      go_ret
      exact ⟨ret_int (by rw [HG.out]; rfl), rfl⟩

theorem Ext.of_drew {w w' : World} (h : Ext w.drew w') : Ext w w' := ⟨h.os, h.tape, h.output, h.size, h.block⟩
theorem Ext.of_grown {w w1 : World} {o : Obj} {row : Option Nat} (hg : (w.alloc o).grownBy w1 row) (hr : ∀ k, row = some k → w.heap.size ≤ k) : Ext w w1 :=
  ⟨hg.os, hg.tape, hg.output, Nat.le_trans (by simp) hg.size, fun i hi => (hg.block i (by simp; omega) (fun e => by have := hr i e.symm; omega)).trans (Below.heap_alloc w o i hi)⟩
theorem clone_call (base : Nat) (v : Value) (ws : List Nat) (w : World) (h : w.ownsRow base 112 1 v ws.length (u64s ws)) (hl : ws.length ≤ 16777217) :
    Calls Tryz.prog 127 #[v] w fun e w' => ∃ v', e = .returned v' ∧ IsWords w' v' ws ∧ Ext w w' := by
  obtain ⟨i0, hi, hz0, hz1, hz2⟩ := info_parts u64_info
  have HI := Lib.hid hi
  have HZ0 := Lib.hid hz0
  have HZ1 := Lib.hid hz1
  have HZ2 := Lib.hid hz2
  clear hi hz0 hz1 hz2
  have hq := fun (W : World) a n c n' c' => Lib.run_eql_slice_nil (P := Tryz.prog) W 152 112 a n c n' c' Tryz.underlying152
  rcases h.2 with ⟨rfl, h0⟩ | ⟨g, cap, cur, rfl, _, hb, hc, hm, hs, ht⟩
  · go_enter Tryz.func127, Tryz.ntmps127
    go_wp2
    go_ret
    exact ⟨_, rfl, ⟨none, 0, by rw [h0]; rfl, by omega, by unfold maxLen; omega, fun h => by omega⟩, Ext.refl _⟩
  · have hcell : ∀ j u, (u64s ws)[j]? = some u → w.cell? ((⟨g, 0, none⟩ : Addr).add j) = some u := h.cells rfl
    have H := Lib.hid h
    clear h
    go_enter Tryz.func127, Tryz.ntmps127
    go_wp2_with (at_builtin; go_loud (refine wpList_append_own _ rfl (.tmp 5) (.tmp 6) 152 rfl w.heap.size 112 i0 _ 1 8 Tryz.underlying152 HI.out HZ0.out HZ1.out HZ2.out rfl (by decide) (.slice (some ⟨w.heap.size, 0, none⟩) 0 0) 0 [] rfl (by simpa using World.ownsRow_lit w #[] 0 (Nat.le_refl _) (by decide) rfl) ⟨g, 0, none⟩ ws.length cap (u64s ws) rfl (by simp [u64s]) (fun j u hu => ((Ext.alloc w _).cell (hcell j u hu))) (by simp [u64s, Value.oneCell']) (by unfold maxLen; omega) (by omega) (by simp) ?_); intro v1 w1 hown hgrow hn)
    go_ret
    exact ⟨v1, rfl, IsWords.of_own (base := w.heap.size) (by simpa using hown), Ext.of_grown hgrow (by simp [Value.ownBlock])⟩

theorem clone_form (base : Nat) (v : Value) (ws : List Nat) (w : World) (h : w.ownsRow base 112 1 v ws.length (u64s ws)) (hl : ws.length ≤ 16777217) :
    Calls Tryz.prog 127 #[v] w fun e w' => ∃ A c, e = .returned (.slice A ws.length c) ∧ IsWords w' (.slice A ws.length c) ws ∧ Ext w w' :=
  (clone_call base v ws w h hl).mono fun _ _ ⟨v', he, hw, hx⟩ => by
    obtain ⟨A, c, rfl, hr⟩ := hw
    exact ⟨A, c, he, ⟨A, c, rfl, hr⟩, hx⟩
/-- what a slice of words and a number make, boxed -/
theorem row_box (n : Nat) (base g : Nat) (v : Value) (ws : List Nat) (w : World) (h : IsBld w base g v ws n) (hn : n ≤ 1073741824) :
    Calls Tryz.prog 84 #[.pointer (some ⟨g, 0, none⟩)] w fun e w' => ∃ p, e = .returned (.pointer (some p)) ∧ IsRow w' p ws n ∧ Ext w w' := by
  have hc0 := h.blk.cell 0
  have hc1 := h.blk.cell 1
  simp at hc0 hc1
  have hgl := h.blk.lt
  have hl : ws.length ≤ 16777217 := by have := h.len; omega
  have H := Lib.hid h
  clear h
  go_enter Tryz.func84, Tryz.ntmps84
  go_wp2_with fail
  go_region_with ((go_at_call 127; refine (clone_form base _ ws _ (by exact H.out.own) hl).mono ?_; rintro e w' ⟨A, c, rfl, hw, hx⟩; have hd1 := hx.cell (p := ⟨g, 1, none⟩) (by exact hc1)))
  all_goals
    go_wp2
    go_ret
    exact ⟨⟨w'.heap.size, 0, none⟩, rfl, ⟨⟨_, _, rfl, Blk.new _ _ _, hw.ext (Ext.alloc _ _)⟩, H.out.len, H.out.lt, hn⟩, (Ext.of_drew hx).trans (Ext.alloc _ _)⟩
end Go.Proofs.Lw
