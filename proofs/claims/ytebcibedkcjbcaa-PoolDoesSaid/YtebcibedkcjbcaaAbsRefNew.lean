/-
  THE DOCUMENT'S POOL IS MADE.
-/
import Derived.Test.YtebcibedkcjbcaaAbsRef
set_option linter.unusedSimpArgs false
set_option linter.unusedVariables false
set_option maxRecDepth 100000
namespace Go.Proofs.Ytebcibedkcjbcaa
open Go.Abs

/-- the first ones are still to come -/
def later (n j : Nat) : List Nat := ((List.range n).drop j).reverse
theorem later_n (n : Nat) : later n n = [] := by simp [later]
theorem later_0 (n : Nat) : later n 0 = (List.range n).reverse := by simp [later]
theorem later_succ (n j : Nat) (h : j < n) : later n j = later n (j + 1) ++ [j] := by
  unfold later
  rw [List.drop_eq_getElem_cons (by simpa using h)]
  simp
theorem later_len (n j : Nat) : (later n j).length = n - j := by simp [later]

section
variable (n r lb fb B : Nat) (lv fv : Value) (ws : List Pkt) (hs : List Nat)

theorem ref_new_loop (hn0 : 0 < n) (hn : n ≤ 200) (hlen : hs.length = ws.length) (b1 : B ≤ r) (b2 : B ≤ lb) (b3 : B ≤ fb) (O : Oracle) (L : Loops (Value × Heap)) : ∀ (j m : Nat) (H : Heap) (ev : Value), j ≤ n → j < m → IsRef H r lb fb lv fv ev ws hs →
    ((j = n ∧ ev = .slice none 0 0) ∨ ∃ c cap rest, Room H ev c cap (later n j) rest ∧ c ≠ fb ∧ B ≤ c) → ∀ (x0 x1 x2 x5 x6 x7 x8 x9 x10 x11 x12 x13 x14 x15 x16 x17 x18 x19 x20 x21 x22 x23 x24 x25 x26 x27 x28 x29 x30 x31 x32 x33 : Value),
    ∃ H' ev' c cap rest, loopN m (runCode Try.prog O L f21_c0) (f21_k0 O L) [x0, x1, x2, .pointer (some ⟨r, 0, none⟩), .int .i64 ((j : Int) - 1), x5, x6, x7, x8, x9, x10, x11, x12, x13, x14, x15, x16, x17, x18, x19, x20, x21, x22, x23, x24, x25, x26, x27, x28, x29, x30, x31, x32, x33] H = some (.pointer (some ⟨r, 0, none⟩), H') ∧ RefS H' r lb fb c cap lv fv ev' ws hs (List.range n).reverse rest ∧ B ≤ c ∧ H.length ≤ H'.length ∧ ∀ b, b < B → b < H.length → H'[b]? = H[b]? := by
  intro j
  induction j with
  | zero =>
    intro m H ev hj hm hI hE x0 x1 x2 x5 x6 x7 x8 x9 x10 x11 x12 x13 x14 x15 x16 x17 x18 x19 x20 x21 x22 x23 x24 x25 x26 x27 x28 x29 x30 x31 x32 x33
    obtain ⟨m, rfl⟩ : ∃ k, m = k + 1 := ⟨m - 1, by omega⟩
    rcases hE with ⟨h, _⟩ | ⟨c, cap, rest, hR, hc, hB⟩
    · omega
    · rw [later_0] at hR
      have e : decide ((0 : Int) ≤ ((0 : Nat) : Int) - 1) = false := by decide
      refine ⟨H, ev, c, cap, rest, ?_, ⟨hI, hR, hlen, hc, by simp; omega⟩, hB, Nat.le_refl _, fun _ _ _ => rfl⟩
      rw [loop_succ, f21_b0_eq]
      unfold f21_b0
      simp -implicitDefEqProofs only [b_geq, e, r_opt, ob_some, iteV_false, again_exit]
      rw [f21_e0_0_eq]
      rfl
  | succ j ih =>
    intro m H ev hj hm hI hE x0 x1 x2 x5 x6 x7 x8 x9 x10 x11 x12 x13 x14 x15 x16 x17 x18 x19 x20 x21 x22 x23 x24 x25 x26 x27 x28 x29 x30 x31 x32 x33
    obtain ⟨m, rfl⟩ : ∃ k, m = k + 1 := ⟨m - 1, by omega⟩
    have e : decide ((0 : Int) ≤ ((j + 1 : Nat) : Int) - 1) = true := decide_eq_true (by omega)
    have e2 : (((j + 1 : Nat) : Int) - 1) = (j : Int) := by omega
    have e3 : IntKind.i64.wrap ((j : Int) - 1) = (j : Int) - 1 := wrap_i64 (by omega) (by omega)
    have hl1 := (List.getElem?_eq_some_iff.mp hI.hr).1
    have hl2 := (List.getElem?_eq_some_iff.mp hI.L.blk).1
    have hl3 := (List.getElem?_eq_some_iff.mp hI.F.blk).1
    have q0 : ld1 (.pointer (some ⟨r, 2, none⟩)) H = some (ev, H) := by rw [x_ld1, hI.hr]; rfl
    have gb := bld1 H (j : Int)
    have main : ∃ ev' H1 c cap rest, app 3 1 8 ev (.slice (some ⟨H.length, 0, none⟩) 1 1) (H ++ [.cells [.int .i64 j] 3 .row]) = some (ev', H1) ∧ Room H1 ev' c cap (later n j) rest ∧ c ≠ fb ∧ B ≤ c ∧ r ≠ c ∧ H.length ≤ H1.length ∧ H1[r]? = H[r]? ∧ H1[lb]? = H[lb]? ∧ H1[fb]? = H[fb]? ∧ ∀ b, b < B → b < H.length → H1[b]? = H[b]? := by
      rw [later_succ n j (by omega)]
      rcases hE with ⟨h, rfl⟩ | ⟨c, cap, rest, hR, hc, hB⟩
      · obtain ⟨ev', H1, ga, hR1, hlen1, k1⟩ := room_nil H j
        rw [h, later_n]
        exact ⟨ev', H1, _, _, _, ga, hR1, by omega, by omega, by omega, by omega, k1 r hl1, k1 lb hl2, k1 fb hl3, fun b _ hb => k1 b hb⟩
      · have hrc : r ≠ c := by
          intro e
          have h1 := hI.hr
          rw [e, hR.blk] at h1
          simp at h1
        have hlc : lb ≠ c := by
          intro e
          have h1 := hI.L.blk
          rw [e, hR.blk] at h1
          simp at h1
        obtain ⟨ev', H1, c', cap', rest', ga, hR1, hlen1, hc', k1⟩ := room_app hR j (by rw [later_len]; omega)
        exact ⟨ev', H1, c', cap', rest', ga, hR1, by omega, by omega, by omega, hlen1, k1 r hl1 hrc, k1 lb hl2 hlc, k1 fb hl3 (fun e => hc e.symm), fun b hb1 hb2 => k1 b hb2 (by omega)⟩
    obtain ⟨ev', H1, c, cap, rest, ga, hR1, hc, hB, hrc, hlen1, kr, kl, kf, kb⟩ := main
    have hr1 : H1[r]? = some (.cells [lv, fv, ev] 76 .fix) := by rw [kr, hI.hr]
    have g3 := st_ref2 hR1.val hr1
    have nl : r ≠ lb := by
      intro e
      have h1 := hI.hr
      rw [e, hI.L.blk] at h1
      simp at h1
    have nf : r ≠ fb := by
      intro e
      have h1 := hI.hr
      rw [e, hI.F.blk] at h1
      simp at h1
    have hI2 : IsRef (H1.set r (.cells [lv, fv, ev'] 76 .fix)) r lb fb lv fv ev' ws hs :=
      ⟨List.getElem?_set_self (by omega), own_same hI.L (by rw [List.getElem?_set_ne nl, kl]), own_same hI.F (by rw [List.getElem?_set_ne nf, kf])⟩
    have hR2 : Room (H1.set r (.cells [lv, fv, ev'] 76 .fix)) ev' c cap (later n j) rest := hR1.same (by rw [List.getElem?_set_ne hrc])
    obtain ⟨H', ev2, c2, cap2, rest2, hl, hS, hB2, hle, hk⟩ := ih m _ ev' (by omega) (by omega) hI2 (.inr ⟨c, cap, rest, hR2, hc, hB⟩) x0 x1 x2 x5 x6 x7 x8 x9 x10 x11 x12 x13 x14 x15 x16 x17 x18 (.int .i64 (j : Nat)) (.bool true) (.int .i64 (j : Nat)) (.int .i64 ((j : Int) - 1)) (.pointer (some ⟨r, 0, none⟩)) (.pointer (some ⟨r, 0, none⟩)) (.pointer (some ⟨r, 0, none⟩)) (.pointer (some ⟨r, 2, none⟩)) ev (.int .i64 (j : Nat)) (.slice (some ⟨H.length, 0, none⟩) 1 1) ev' (.pointer (some ⟨r, 0, none⟩)) (.pointer (some ⟨r, 2, none⟩)) x33
    refine ⟨H', ev2, c2, cap2, rest2, ?_, hS, hB2, by simp at hle; omega, fun b hb1 hb2 => ?_⟩
    · rw [loop_succ, f21_b0_eq]
      unfold f21_b0
      simp -implicitDefEqProofs only [b_geq, e, e2, r_opt, ob_some, iteV_true, r_nil, r_fAddr, Nat.zero_add, q0, gb, ga, g3, b_sub, e3, again_normal]
      exact hl
    · rw [hk b hb1 (by simp; omega), List.getElem?_set_ne (by omega), kb b hb1 hb2]

end
theorem ref_new {pr : Prims} {H : Heap} (hn' : pr (.func 21) = none) (n : Nat) (h1 : 0 < n) (h200 : n ≤ 200) {m : Nat} (hm : 210 < m) :
    ∃ H' r lb fb lv fv ev c cap rest, lvl Try.prog pr m (.func 21) [.int .i64 n] H = some (.pointer (some ⟨r, 0, none⟩), H') ∧ RefS H' r lb fb c cap lv fv ev (List.replicate n pk0) (List.replicate n 0) (List.range n).reverse rest ∧
      H.length ≤ r ∧ H.length ≤ lb ∧ H.length ≤ fb ∧ H.length ≤ c ∧ H.length ≤ H'.length ∧ ∀ b, b < H.length → H'[b]? = H[b]? := by
  have e1 : decide ((n : Int) < 1) = false := by simp; omega
  have e2 : decide ((200 : Int) < n) = false := by simp; omega
  have w : IntKind.i64.wrap ((n : Int) - 1) = (n : Int) - 1 := wrap_i64 (by omega) (by omega)
  have m1 : mkSlice 27 4 32 [.int .i64 0, .int .i64 0, .int .i64 0, .int .u32 0] (.int .i64 n) (.int .i64 n) H = some ((.slice (some ⟨H.length, 0, none⟩) n n), H ++ [Blk.cells (List.replicate n pk0.cells).flatten 27 .row]) := by
    rw [x_mkSlice (H := H) 27 4 32 [.int .i64 0, .int .i64 0, .int .i64 0, .int .u32 0] .i64 .i64 n (by omega) (by omega) (by omega) rfl, Int.toNat_natCast]
    rfl
  have m2 : mkSlice 3 1 8 [.int .i64 0] (.int .i64 n) (.int .i64 n) (H ++ [Blk.cells (List.replicate n pk0.cells).flatten 27 .row]) = some ((.slice (some ⟨(H ++ [Blk.cells (List.replicate n pk0.cells).flatten 27 .row]).length, 0, none⟩) n n), H ++ [Blk.cells (List.replicate n pk0.cells).flatten 27 .row] ++ [Blk.cells (List.replicate n [.int .i64 0]).flatten 3 .row]) := by
    rw [x_mkSlice (H := H ++ [Blk.cells (List.replicate n pk0.cells).flatten 27 .row]) 3 1 8 [.int .i64 0] .i64 .i64 n (by omega) (by omega) (by omega) rfl, Int.toNat_natCast]
  have hI : IsRef (H ++ [Blk.cells (List.replicate n pk0.cells).flatten 27 .row] ++ [Blk.cells (List.replicate n [.int .i64 0]).flatten 3 .row] ++ [.cells [(.slice (some ⟨H.length, 0, none⟩) n n), (.slice (some ⟨(H ++ [Blk.cells (List.replicate n pk0.cells).flatten 27 .row]).length, 0, none⟩) n n), .slice none 0 0] 76 .fix]) (H ++ [Blk.cells (List.replicate n pk0.cells).flatten 27 .row] ++ [Blk.cells (List.replicate n [.int .i64 0]).flatten 3 .row]).length H.length (H ++ [Blk.cells (List.replicate n pk0.cells).flatten 27 .row]).length (.slice (some ⟨H.length, 0, none⟩) n n) (.slice (some ⟨(H ++ [Blk.cells (List.replicate n pk0.cells).flatten 27 .row]).length, 0, none⟩) n n) (.slice none 0 0) (List.replicate n pk0) (List.replicate n 0) := by
    refine ⟨x_last _ _, ?_, ?_⟩
    · have h0 : Own Pkt.cells 27 (H ++ [Blk.cells (List.replicate n pk0.cells).flatten 27 .row]) (.slice (some ⟨H.length, 0, none⟩) n n) H.length (List.replicate n pk0) := ⟨by rw [List.length_replicate], by rw [List.map_replicate, x_last]⟩
      exact (h0.app _).app _
    · have h0 : Own hasE 3 (H ++ [Blk.cells (List.replicate n pk0.cells).flatten 27 .row] ++ [Blk.cells (List.replicate n [.int .i64 0]).flatten 3 .row]) (.slice (some ⟨(H ++ [Blk.cells (List.replicate n pk0.cells).flatten 27 .row]).length, 0, none⟩) n n) (H ++ [Blk.cells (List.replicate n pk0.cells).flatten 27 .row]).length (List.replicate n 0) := ⟨by rw [List.length_replicate], by rw [List.map_replicate, x_last]; rfl⟩
      exact h0.app _
  have e3 : bld Try.prog 76 [(0, (.slice (some ⟨H.length, 0, none⟩) n n)), (1, (.slice (some ⟨(H ++ [Blk.cells (List.replicate n pk0.cells).flatten 27 .row]).length, 0, none⟩) n n))] = some (.agg #[(.slice (some ⟨H.length, 0, none⟩) n n), (.slice (some ⟨(H ++ [Blk.cells (List.replicate n pk0.cells).flatten 27 .row]).length, 0, none⟩) n n), .slice none 0 0]) := by kernel_rfl
  have e4 : (Value.cells (.agg #[(.slice (some ⟨H.length, 0, none⟩) n n), (.slice (some ⟨(H ++ [Blk.cells (List.replicate n pk0.cells).flatten 27 .row]).length, 0, none⟩) n n), .slice none 0 0])).toList = [(.slice (some ⟨H.length, 0, none⟩) n n), (.slice (some ⟨(H ++ [Blk.cells (List.replicate n pk0.cells).flatten 27 .row]).length, 0, none⟩) n n), .slice none 0 0] := rfl
  obtain ⟨H', ev', c, cap, rest, hl, hS, hB, hle, hk⟩ := ref_new_loop n (H ++ [Blk.cells (List.replicate n pk0.cells).flatten 27 .row] ++ [Blk.cells (List.replicate n [.int .i64 0]).flatten 3 .row]).length H.length (H ++ [Blk.cells (List.replicate n pk0.cells).flatten 27 .row]).length H.length (.slice (some ⟨H.length, 0, none⟩) n n) (.slice (some ⟨(H ++ [Blk.cells (List.replicate n pk0.cells).flatten 27 .row]).length, 0, none⟩) n n) (List.replicate n pk0) (List.replicate n 0) h1 h200 (by simp) (by simp) (by omega) (by simp) (lvl Try.prog pr (m - 1)) (loopN (m - 1)) n (m - 1) _ _ (Nat.le_refl _) (by omega) hI (.inl ⟨rfl, rfl⟩) (.int .i64 (n : Nat)) undef (.pointer none) (.int .i64 (n : Nat)) (.bool false) (.bool false) (.int .i64 (n : Nat)) (.bool false) (.bool false) (.int .i64 (n : Nat)) (.slice (some ⟨H.length, 0, none⟩) n n) (.int .i64 (n : Nat)) (.slice (some ⟨(H ++ [Blk.cells (List.replicate n pk0.cells).flatten 27 .row]).length, 0, none⟩) n n) (.agg #[(.slice (some ⟨H.length, 0, none⟩) n n), (.slice (some ⟨(H ++ [Blk.cells (List.replicate n pk0.cells).flatten 27 .row]).length, 0, none⟩) n n), .slice none 0 0]) (.pointer (some ⟨(H ++ [Blk.cells (List.replicate n pk0.cells).flatten 27 .row] ++ [Blk.cells (List.replicate n [.int .i64 0]).flatten 3 .row]).length, 0, none⟩)) (.int .i64 (n : Nat)) (.int .i64 ((n : Int) - 1)) undef undef undef undef undef undef undef undef undef undef undef undef undef undef undef
  refine ⟨H', (H ++ [Blk.cells (List.replicate n pk0.cells).flatten 27 .row] ++ [Blk.cells (List.replicate n [.int .i64 0]).flatten 3 .row]).length, H.length, (H ++ [Blk.cells (List.replicate n pk0.cells).flatten 27 .row]).length, (.slice (some ⟨H.length, 0, none⟩) n n), (.slice (some ⟨(H ++ [Blk.cells (List.replicate n pk0.cells).flatten 27 .row]).length, 0, none⟩) n n), ev', c, cap, rest, ?_, hS, by simp, by omega, by simp, hB, by simp at hle; omega, fun b hb => ?_⟩
  · refine lvl_at hn' (by omega) ?_
    rw [f21_eq]
    unfold f21
    simp -implicitDefEqProofs only [b_lss, b_gtr, e1, e2, r_opt, r_ret, ob_some, r_gdff, r_gdff2, pick_f, iteV_false, m1, m2, e3, e4, x_newB, b_sub, w]
    exact hl
  · rw [hk b hb (by simp; omega), List.getElem?_append_left (by simp; omega), List.getElem?_append_left (by simp; omega), List.getElem?_append_left hb]

theorem ref_new_no {pr : Prims} {H : Heap} (hn : pr (.func 21) = none) (n : Int) (h : n < 1 ∨ 200 < n) {m : Nat} (hm : 0 < m) :
    lvl Try.prog pr m (.func 21) [.int .i64 n] H = some (.pointer none, H) := by
  refine lvl_at hn (by omega) ?_
  rw [f21_eq]
  unfold f21
  by_cases e1 : n < 1
  · simp -implicitDefEqProofs [e1]
  · have e2 : 200 < n := by omega
    simp -implicitDefEqProofs [e1, e2]

end Go.Proofs.Ytebcibedkcjbcaa
