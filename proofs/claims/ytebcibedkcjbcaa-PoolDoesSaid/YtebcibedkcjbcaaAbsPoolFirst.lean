import Derived.Test.YtebcibedkcjbcaaAbsPoolOnce
import Derived.Test.YtebcibedkcjbcaaAbsArg
set_option linter.unusedSimpArgs false
set_option linter.unusedVariables false
set_option maxRecDepth 100000
namespace Go.Proofs.Ytebcibedkcjbcaa
open Go.Abs

theorem bneq (a b : Bool) : bin Try.prog .neq 4 (.bool a) (.bool b) = some (.bool (a != b)) := by cases a <;> cases b <;> kernel_rfl
theorem beql (a b : Bool) : bin Try.prog .eql 4 (.bool a) (.bool b) = some (.bool (a == b)) := by cases a <;> cases b <;> kernel_rfl
theorem maxI (a b : Int) : minmax Try.prog true [.int .i64 a, .int .i64 b] = some (.int .i64 (max a b)) := by
  simp [minmax, flat, purF, pur, Builtin.max_, Builtin.max2, pure, bind, Sem.bind]
  split <;> omega

theorem sl_more {H H' : Heap} {v : Value} {sz b p s : Nat} {rows : List (List Value)} {l : List Slot} {top free : Int} (h : Sl H v sz b rows) (hp : IsPool H p s l top free) (hm : ∀ b, b < H.length → b ≠ p → b ≠ s → H'[b]? = H[b]?) : Sl H' v sz b rows := by
  refine ⟨h.len, h.at_, fun h0 => ?_⟩
  obtain ⟨e, he⟩ := h.blk h0
  have hl := (List.getElem?_eq_some_iff.mp he).1
  have h1 : b ≠ p := by
    intro hb
    have h1 := hp.hp
    rw [← hb, he] at h1
    simp [poolB] at h1
  have h2 : b ≠ s := by
    intro hb
    have h1 := hp.hs
    rw [← hb, he] at h1
    simp [slotsB] at h1
  exact ⟨e, by rw [hm b hl h1 h2, he]⟩

section
variable (a n : Nat) (v : Value) (xs : List Pkt) (b p s : Nat)

theorem first_loop (hn : 0 < n) (h200 : n ≤ 200) (hx : xs.length ≤ 300) : ∀ (r i m : Nat) (l : List Slot) (H : Heap), xs.length - i = r → i ≤ xs.length → r < m → Sl H v 4 b (xs.map Pkt.cells) →
    IsPool H p s l (topOf n (min i n)) ((n : Int) - (min i n : Nat)) → Filled l n (min i n) (fun j => xs.getD j pk0) → ∀ (x2 x3 x8 x9 x10 x11 x12 x13 x14 x15 x16 x17 x18 x19 x20 x21 x22 x23 x24 x25 x26 x27 x28 x29 x30 x31 x32 x33 x34 x35 x36 x37 x38 x39 x40 x41 x42 x43 x44 x45 x46 x47 x48 x49 x50 x51 x52 x53 x54 x55 x56 x57 x58 x59 x60 x61 x62 x63 x64 x65 x66 x67 x68 x69 x70 x71 x72 x73 x74 : Value),
    ∃ H', loopN m (runCode Try.prog (lvl Try.prog pk 599) (loopN 599) f4_c0) (f4_k0 (lvl Try.prog pk 599) (loopN 599)) [.int .u8 (a : Nat), v, x2, x3, .bool false, .int .i64 (n : Nat), .pointer (some ⟨p, 0, none⟩), .int .i64 (i : Nat), x8, x9, x10, x11, x12, x13, x14, x15, x16, x17, x18, x19, x20, x21, x22, x23, x24, x25, x26, x27, x28, x29, x30, x31, x32, x33, x34, x35, x36, x37, x38, x39, x40, x41, x42, x43, x44, x45, x46, x47, x48, x49, x50, x51, x52, x53, x54, x55, x56, x57, x58, x59, x60, x61, x62, x63, x64, x65, x66, x67, x68, x69, x70, x71, x72, x73, x74] H = some (.bool true, H') := by
  intro r
  induction r with
  | zero =>
    intro i m l H hr hi hm hs h hf x2 x3 x8 x9 x10 x11 x12 x13 x14 x15 x16 x17 x18 x19 x20 x21 x22 x23 x24 x25 x26 x27 x28 x29 x30 x31 x32 x33 x34 x35 x36 x37 x38 x39 x40 x41 x42 x43 x44 x45 x46 x47 x48 x49 x50 x51 x52 x53 x54 x55 x56 x57 x58 x59 x60 x61 x62 x63 x64 x65 x66 x67 x68 x69 x70 x71 x72 x73 x74
    obtain ⟨m, rfl⟩ : ∃ k, m = k + 1 := ⟨m - 1, by omega⟩
    obtain rfl : i = xs.length := by omega
    have hlen := hs.len
    rw [List.length_map] at hlen
    have e : decide ((xs.length : Int) < xs.length) = false := by simp
    have g5 := free_is (pr := pk) (flatPr_no rfl) h (m := 599) (by omega)
    have g6 := fun H => flat_call (P := Try.prog) (ids := [16, 27]) (g := 16) rfl (n := 599) (by omega) H
    have w : IntKind.i64.wrap ((n : Int) - xs.length) = (n : Int) - xs.length := wrap_i64 (by omega) (by omega)
    have z : ((n : Int) - (min xs.length n : Nat) == max ((n : Int) - xs.length) 0) = true := by simp; omega
    rw [loop_succ, f4_b0_eq]
    unfold f4_b0
    simp -implicitDefEqProofs only [hlen, b_lss, e, r_opt, ob_some, iteV_false, again_exit]
    rw [f4_e0_0_eq]
    unfold f4_e0_0
    refine ⟨H, ?_⟩
    simp -implicitDefEqProofs only [g6, g5, hlen, r_opt, r_ret, ob_some, r_gdt, r_gdt2, b_sub, w, maxI, b_eql, z, pick_t, oneOf_one]
  | succ r ih =>
    intro i m l H hr hi hm hs h hf x2 x3 x8 x9 x10 x11 x12 x13 x14 x15 x16 x17 x18 x19 x20 x21 x22 x23 x24 x25 x26 x27 x28 x29 x30 x31 x32 x33 x34 x35 x36 x37 x38 x39 x40 x41 x42 x43 x44 x45 x46 x47 x48 x49 x50 x51 x52 x53 x54 x55 x56 x57 x58 x59 x60 x61 x62 x63 x64 x65 x66 x67 x68 x69 x70 x71 x72 x73 x74
    obtain ⟨m, rfl⟩ : ∃ k, m = k + 1 := ⟨m - 1, by omega⟩
    have hlen := hs.len
    rw [List.length_map] at hlen
    have e : decide ((i : Int) < xs.length) = true := by simp; omega
    obtain ⟨x, hxi⟩ : ∃ x, xs[i]? = some x := ⟨xs[i], List.getElem?_eq_getElem (by omega)⟩
    have hat := hs.at_ i .i64 (by rw [List.length_map]; omega)
    have hld := hs.ldN (fun _ => rfl) hxi
    have hval : Value.agg ⟨x.cells⟩ = x.val := rfl
    rw [hval] at hld
    have e3 : IntKind.i64.wrap ((i : Int) + 1) = ((i + 1 : Nat) : Int) := by rw [wrap_i64 (by omega) (by omega)]; omega
    rw [loop_succ, f4_b0_eq]
    unfold f4_b0
    by_cases hin : i < n
    · have hmin : min i n = i := by omega
      have hmin1 : min (i + 1) n = i + 1 := by omega
      rw [hmin] at h hf
      obtain ⟨H1, l1, g, i1, f1, _, m1⟩ := put_fill (pr := pk) (flatPr_no rfl) (n := n) h hf hin h200 (m := 599) (by omega)
      have hgx : xs.getD i pk0 = x := by simp [List.getD, hxi]
      rw [hgx] at g
      have e4 : decide ((i : Int) < n) = true := by simp; omega
      have e5 : ((i : Int) != i) = false := by simp
      rw [← hmin1] at i1 f1
      simp -implicitDefEqProofs only [hlen, b_lss, e, r_opt, r_ret, ob_some, iteV_true, hat, hld, g, ext_0, ext_1, e4, bneq, bne_self_eq_false, r_gdff, r_gdff2, r_gdt, r_gdt2, b_neq, e5, pick_f, pick_t, u_not, Bool.not_true, r_gdft, r_gdft2, iteV_false, b_add, e3, again_normal]
      exact ih (i + 1) m l1 H1 (by omega) (by omega) (by omega) (sl_more hs h m1) i1 f1 _ _ _ _ _ _ _ _ _ _ _ _ _ _ _ _ _ _ _ _ _ _ _ _ _ _ _ _ _ _ _ _ _ _ _ _ _ _ _ _ _ _ _ _ _ _ _ _ _ _ _ _ _ _ _ _ _ _ _ _ _ _ _ _ _ _ _ _ _
    · have hmin : min i n = n := by omega
      have hmin1 : min (i + 1) n = n := by omega
      rw [hmin] at h hf
      have g := put_full (pr := pk) (flatPr_no rfl) (n := n) h (Nat.le_refl _) (m := 599) (by omega) x
      have e4 : decide ((i : Int) < n) = false := by simp; omega
      have e5 : ((0 : Int) != 0) = false := by decide
      have i1 : IsPool (H ++ [pkB x]) p s l (topOf n (min (i + 1) n)) ((n : Int) - (min (i + 1) n : Nat)) := by rw [hmin1]; exact h.app [pkB x]
      have f1 : Filled l n (min (i + 1) n) (fun j => xs.getD j pk0) := by rw [hmin1]; exact hf
      simp -implicitDefEqProofs only [hlen, b_lss, e, r_opt, r_ret, ob_some, iteV_true, hat, hld, g, ext_0, ext_1, e4, bneq, bne_self_eq_false, r_gdff, r_gdff2, r_gdt, r_gdt2, b_neq, e5, pick_f, pick_t, u_not, Bool.not_true, Bool.not_false, r_gdft, r_gdft2, iteV_false, b_add, e3, again_normal]
      exact ih (i + 1) m l (H ++ [pkB x]) (by omega) (by omega) (by omega) (sl_more hs h fun b hb _ _ => List.getElem?_append_left hb) i1 f1 _ _ _ _ _ _ _ _ _ _ _ _ _ _ _ _ _ _ _ _ _ _ _ _ _ _ _ _ _ _ _ _ _ _ _ _ _ _ _ _ _ _ _ _ _ _ _ _ _ _ _ _ _ _ _ _ _ _ _ _ _ _ _ _ _ _ _ _ _

end
theorem poolFirst_true (a : Nat) (ha : a < 256) (v : Value) (xs : List Pkt) (H : Heap) (b : Nat) (hs : Sl H v 4 b (xs.map Pkt.cells)) : ∃ H', lvl Try.prog pk 600 (.func 4) [.int .u8 (a : Nat), v] H = some (.bool true, H') := by
  have e1 : ((a : Nat) : Int).tmod 200 = ((a % 200 : Nat) : Int) := by rw [Int.tmod_eq_emod_of_nonneg (by omega)]; omega
  have e2 : IntKind.i64.wrap ((1 : Int) + (a % 200 : Nat)) = ((1 + a % 200 : Nat) : Int) := by rw [wrap_i64 (by omega) (by omega)]; omega
  have c2 := fun H => cv53 H ((a % 200 : Nat) : Int) (by omega) (by omega)
  have r1 := b_rem (P := Try.prog) 5 .u8 (a : Int) 200 (by omega)
  rw [e1] at r1
  have hn : 0 < 1 + a % 200 := by omega
  have h200 : 1 + a % 200 ≤ 200 := by omega
  have g1 := new_ok (H := H) (pr := pk) (flatPr_no rfl) (1 + a % 200) hn h200 (m := 599) (by omega)
  have i0 := made_pool (H := H) (1 + a % 200)
  have f0 := Filled.made (1 + a % 200) (fun j => xs.getD j pk0)
  have hlen := hs.len
  rw [List.length_map] at hlen
  have g6 := fun H => flat_call (P := Try.prog) (ids := [16, 27]) (g := 16) rfl (n := 599) (by omega) H
  by_cases hx : xs.length ≤ 300
  · have e3 : decide ((300 : Int) < xs.length) = false := by simp; omega
    have hs' : Sl (heapN H (made (1 + a % 200))) v 4 b (xs.map Pkt.cells) := hs.same fun hb => by
      unfold heapN
      exact List.getElem?_append_left hb
    obtain ⟨H', hl⟩ := first_loop a (1 + a % 200) v xs b (H.length + 1) H.length hn h200 hx xs.length 0 599 (made (1 + a % 200)) _ (by omega) (by omega) (by omega) hs'
      (by rw [Nat.zero_min]; have : topOf (1 + a % 200) 0 = 0 := if_pos hn
          rw [this]; simpa using i0) (by rw [Nat.zero_min]; exact f0)
      undef undef undef undef (.int .u8 (a : Nat)) (.int .u8 (a % 200 : Nat)) (.int .i64 (a % 200 : Nat)) (.int .i64 (1 + a % 200 : Nat)) (.int .i64 (1 + a % 200 : Nat)) (.pointer (some ⟨H.length + 1, 0, none⟩)) (.pointer (some ⟨H.length + 1, 0, none⟩)) (.bool false) (.bool false) v (.int .i64 xs.length) (.bool false) (.bool false) undef undef undef undef undef undef undef undef undef undef undef undef undef undef undef undef undef undef undef undef undef undef undef undef undef undef undef undef undef undef undef undef undef undef undef undef undef undef undef undef undef undef undef undef undef undef undef undef undef undef undef undef
    refine ⟨H', ?_⟩
    refine lvl_at (flatPr_no rfl) (by omega) ?_
    rw [f4_eq]
    unfold f4
    simp -implicitDefEqProofs only [r1, c2, e2, b_add, g1, e22, r_opt, r_ret, ob_some, r_gdff, r_gdff2, hlen, b_gtr, e3, pick_f, iteV_false]
    exact hl
  · have e3 : decide ((300 : Int) < xs.length) = true := by simp; omega
    have n22 := x_neNil (P := Try.prog) 22 69 (by kernel_rfl)
    refine ⟨heapN H (made (1 + a % 200)), ?_⟩
    refine lvl_at (flatPr_no rfl) (by omega) ?_
    rw [f4_eq]
    unfold f4
    simp -implicitDefEqProofs only [r1, c2, e2, b_add, g1, e22, n22, r_opt, r_ret, ob_some, r_gdff, r_gdff2, hlen, b_gtr, e3, pick_f, pick_t, iteV_false, iteV_true, r_gdt, r_gdt2, g6, oneOf_one]

end Go.Proofs.Ytebcibedkcjbcaa
