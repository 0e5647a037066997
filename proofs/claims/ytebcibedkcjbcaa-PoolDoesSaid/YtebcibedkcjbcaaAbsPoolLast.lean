import Derived.Test.YtebcibedkcjbcaaAbsModel
set_option linter.unusedSimpArgs false
set_option linter.unusedVariables false
set_option maxRecDepth 100000
namespace Go.Proofs.Ytebcibedkcjbcaa
open Go.Abs

/-- a slice of ints of the function's own -/
def Ord (H : Heap) (v : Value) (os : List Nat) : Prop :=
  (v = .slice none 0 0 ∧ os = []) ∨ ∃ c, v = .slice (some ⟨c, 0, none⟩) os.length os.length ∧ H[c]? = some (.cells (os.map fun k => .int .i64 (k : Nat)) 3 .row) ∧ os ≠ []

/-- all blocks but those of ints are as they were -/
def Keep (H H' : Heap) : Prop := ∀ (b : Nat) (x : Blk), H[b]? = some x → (∀ cs : List Value, x ≠ Blk.cells cs 3 .row) → H'[b]? = some x

theorem bld1 (H : Heap) (k : Int) : bldSlice 3 1 1 [.int .i64 0] [(0, .int .i64 k)] H = some (.slice (some ⟨H.length, 0, none⟩) 1 1, H ++ [.cells [.int .i64 k] 3 .row]) := by rfl

theorem ord_len {H : Heap} {v : Value} {os : List Nat} (h : Ord H v os) : lenSl v = some (.int .i64 os.length) := by
  rcases h with ⟨rfl, rfl⟩ | ⟨c, rfl, _, _⟩ <;> rfl

theorem ord_app {H : Heap} {v : Value} {os : List Nat} (h : Ord H v os) (k : Nat) (hl : os.length ≤ 1000) :
    ∃ v' H', app 3 1 8 v (.slice (some ⟨H.length, 0, none⟩) 1 1) (H ++ [Blk.cells [.int .i64 k] 3 .row]) = some (v', H') ∧ Ord H' v' (os ++ [k]) ∧ Keep H H' := by
  have hn : (H ++ [Blk.cells [.int .i64 (k : Int)] 3 .row])[H.length]? = some (.cells [.int .i64 (k : Int)] 3 .row) := by simp
  rcases h with ⟨rfl, rfl⟩ | ⟨c, rfl, hc, hne⟩
  · refine ⟨.slice (some ⟨H.length + 1, 0, none⟩) 1 1, H ++ [Blk.cells [.int .i64 k] 3 .row] ++ [Blk.cells [.int .i64 k] 3 .row], ?_, .inr ⟨H.length + 1, rfl, by simp, by simp⟩, ?_⟩
    · simp [app, srcLen, srcCells, hn, roomy]
    · intro b x hb _
      have hlt := (List.getElem?_eq_some_iff.mp hb).1
      rw [List.append_assoc, List.getElem?_append_left hlt, hb]
  · have hlt := (List.getElem?_eq_some_iff.mp hc).1
    have hc1 : (H ++ [Blk.cells [.int .i64 (k : Int)] 3 .row])[c]? = some (.cells (os.map fun k => .int .i64 (k : Nat)) 3 .row) := by rw [List.getElem?_append_left hlt, hc]
    refine ⟨.slice (some ⟨H.length + 1, 0, none⟩) (os.length + 1) (os.length + 1), (H ++ [Blk.cells [.int .i64 k] 3 .row]).set c .dead ++ [Blk.cells (os.map (fun k => .int .i64 (k : Nat)) ++ [.int .i64 k]) 3 .row], ?_, .inr ⟨H.length + 1, by simp, ?_, by simp⟩, ?_⟩
    · have hr : roomy (os.length + 1) 8 = true := by simp [roomy]; omega
      simp only [app, srcLen, srcCells, hn, hc1]
      rw [if_pos (by simp)]
      simp only
      rw [if_neg (by omega), if_pos (by simp [hr])]
      simp [List.take_of_length_le]
    · simp
    · intro b x hb hx
      have hlt := (List.getElem?_eq_some_iff.mp hb).1
      have hbc : c ≠ b := by
        intro e
        subst e
        rw [hc] at hb
        cases hb
        exact hx _ rfl
      rw [List.getElem?_append_left (by simp; omega), List.getElem?_set_ne hbc, List.getElem?_append_left hlt, hb]

section
variable {H H' : Heap} {p s : Nat} {l : List Slot} {top free : Int} {fl : List Nat}

theorem IsPool.keep (h : IsPool H p s l top free) (hk : Keep H H') : IsPool H' p s l top free :=
  ⟨hk _ _ h.hp (by simp [poolB]), hk _ _ h.hs (by simp [slotsB]), fun i q x d hi => hk _ _ (h.hq i q x d hi) (by simp [pkB])⟩
theorem Model.keep (h : Model H p s l top free fl) (hk : Keep H H') : Model H' p s l top free fl := ⟨h.pool.keep hk, h.chain, h.nodup, h.full, h.cnt, h.len⟩
theorem sl_keep {v : Value} {sz b : Nat} {rows : List (List Value)} (h : Sl H v sz b rows) (hk : Keep H H') : Sl H' v sz b rows :=
  ⟨h.len, h.at_, fun h0 => by
    obtain ⟨e, he⟩ := h.blk h0
    exact ⟨e, hk _ _ he (by simp)⟩⟩
theorem Ord.more {o : Value} {os : List Nat} (h : Ord H o os) (hp : IsPool H p s l top free) (hm : ∀ b, b < H.length → b ≠ p → b ≠ s → H'[b]? = H[b]?) : Ord H' o os := by
  rcases h with h | ⟨c, h1, h2, h3⟩
  · exact .inl h
  · refine .inr ⟨c, h1, ?_, h3⟩
    have hl := (List.getElem?_eq_some_iff.mp h2).1
    have e1 : c ≠ p := by
      intro hb
      have h4 := hp.hp
      rw [← hb, h2] at h4
      simp [poolB] at h4
    have e2 : c ≠ s := by
      intro hb
      have h4 := hp.hs
      rw [← hb, h2] at h4
      simp [slotsB] at h4
    rw [hm c hl e1 e2, h2]
end

section
variable (v : Value) (xs : List Nat) (b p s : Nat)

theorem last_loop2 (o : Value) (os : List Nat) (ho : os.length ≤ 20) : ∀ (j m : Nat) (l : List Slot) (H : Heap) (top free : Int), j ≤ os.length → j < m → Ord H o os → Model H p s l top free (os.take j).reverse → ∀ (x0 x1 x4 x6 x7 x9 x10 x11 x12 x13 x14 x15 x16 x17 x18 x19 x20 x21 x22 x23 x24 x25 x26 x27 x28 x29 x30 x31 x32 x33 x34 x35 x36 x37 x38 x39 x40 x41 x42 x43 x44 x45 x46 x47 x48 x49 x50 x51 x52 x53 x54 x55 x56 x57 x58 x59 x60 x61 x62 x63 x64 x65 x66 x67 x68 x69 x70 x71 x72 x73 x74 x75 x76 x77 x78 x79 x80 x81 x82 x83 x84 x85 x86 x87 : Value),
    ∃ H', loopN m (runCode Try.prog (lvl Try.prog pk 599) (loopN 599) f8_c2) (f8_k2 (lvl Try.prog pk 599) (loopN 599)) [x0, x1, .bool false, .pointer (some ⟨p, 0, none⟩), x4, o, x6, x7, .int .i64 ((j : Int) - 1), x9, x10, x11, x12, x13, x14, x15, x16, x17, x18, x19, x20, x21, x22, x23, x24, x25, x26, x27, x28, x29, x30, x31, x32, x33, x34, x35, x36, x37, x38, x39, x40, x41, x42, x43, x44, x45, x46, x47, x48, x49, x50, x51, x52, x53, x54, x55, x56, x57, x58, x59, x60, x61, x62, x63, x64, x65, x66, x67, x68, x69, x70, x71, x72, x73, x74, x75, x76, x77, x78, x79, x80, x81, x82, x83, x84, x85, x86, x87] H = some (.bool true, H') := by
  intro j
  induction j with
  | zero =>
    intro m l H top free hj hm hO hM x0 x1 x4 x6 x7 x9 x10 x11 x12 x13 x14 x15 x16 x17 x18 x19 x20 x21 x22 x23 x24 x25 x26 x27 x28 x29 x30 x31 x32 x33 x34 x35 x36 x37 x38 x39 x40 x41 x42 x43 x44 x45 x46 x47 x48 x49 x50 x51 x52 x53 x54 x55 x56 x57 x58 x59 x60 x61 x62 x63 x64 x65 x66 x67 x68 x69 x70 x71 x72 x73 x74 x75 x76 x77 x78 x79 x80 x81 x82 x83 x84 x85 x86 x87
    obtain ⟨m, rfl⟩ : ∃ k, m = k + 1 := ⟨m - 1, by omega⟩
    have g := hM.put0 (pr := pk) (flatPr_no rfl) (m := 599) (by omega) pk0
    have g6 := fun H => flat_call (P := Try.prog) (ids := [16, 27]) (g := 16) rfl (n := 599) (by omega) H
    have e : decide ((0 : Int) ≤ ((0 : Nat) : Int) - 1) = false := by decide
    rw [loop_succ, f8_b2_eq]
    unfold f8_b2
    simp -implicitDefEqProofs only [b_geq, e, r_opt, ob_some, iteV_false, again_exit]
    rw [f8_e2_4_eq]
    unfold f8_e2_4
    refine ⟨H ++ [pkB pk0], ?_⟩
    simp -implicitDefEqProofs only [pk_bld, g, g6, r_opt, r_ret, ob_some, ext_0, ext_1, r_gdt, r_gdt2, u_not, Bool.not_false, pick_t, oneOf_one]
  | succ j ih =>
    intro m l H top free hj hm hO hM x0 x1 x4 x6 x7 x9 x10 x11 x12 x13 x14 x15 x16 x17 x18 x19 x20 x21 x22 x23 x24 x25 x26 x27 x28 x29 x30 x31 x32 x33 x34 x35 x36 x37 x38 x39 x40 x41 x42 x43 x44 x45 x46 x47 x48 x49 x50 x51 x52 x53 x54 x55 x56 x57 x58 x59 x60 x61 x62 x63 x64 x65 x66 x67 x68 x69 x70 x71 x72 x73 x74 x75 x76 x77 x78 x79 x80 x81 x82 x83 x84 x85 x86 x87
    obtain ⟨m, rfl⟩ : ∃ k, m = k + 1 := ⟨m - 1, by omega⟩
    obtain ⟨k, hk⟩ : ∃ k, os[j]? = some k := ⟨os[j], List.getElem?_eq_getElem (by omega)⟩
    have htake : (os.take (j + 1)).reverse = k :: (os.take j).reverse := by
      rw [List.take_add_one, hk]
      simp
    rw [htake] at hM
    obtain ⟨H1, q, d, g, hM1, hlt, _, hm1⟩ := hM.put (pr := pk) (flatPr_no rfl) (m := 599) (by omega) pk0
    have hO1 := hO.more hM.pool hm1
    have e : decide ((0 : Int) ≤ ((j + 1 : Nat) : Int) - 1) = true := decide_eq_true (by omega)
    have e2 : (((j + 1 : Nat) : Int) - 1) = (j : Int) := by omega
    have e3 : IntKind.i64.wrap ((j : Int) - 1) = (j : Int) - 1 := wrap_i64 (by omega) (by omega)
    have hat : iAddr 1 o (.int .i64 j) = some (.pointer (some ⟨(match o with | .slice (some a) _ _ => a.block | _ => 0), j * 1, none⟩)) ∧ ld1 (.pointer (some ⟨(match o with | .slice (some a) _ _ => a.block | _ => 0), j * 1, none⟩)) H1 = some (.int .i64 k, H1) := by
      rcases hO1 with ⟨_, rfl⟩ | ⟨c, rfl, hc, _⟩
      · simp at hk
      · constructor
        · rw [r_iAddr _ _ _ _ _ _ _ (by omega) (by omega)]
          simp
        · simp only
          rw [x_ld1, hc, x_ldC]
          simp [hk, cellV]
    have e5 : ((k : Int) != k) = false := by simp
    rw [loop_succ, f8_b2_eq]
    unfold f8_b2
    simp -implicitDefEqProofs only [b_geq, e, e2, r_opt, r_ret, ob_some, iteV_true, pk_bld, g, ext_0, ext_1, u_not, Bool.not_true, r_gdff, r_gdff2, hat.1, hat.2, b_neq, e5, pick_f, iteV_false, b_sub, e3, again_normal]
    exact ih m _ H1 d (free - 1) (by omega) (by omega) hO1 hM1 _ _ _ _ _ _ _ _ _ _ _ _ _ _ _ _ _ _ _ _ _ _ _ _ _ _ _ _ _ _ _ _ _ _ _ _ _ _ _ _ _ _ _ _ _ _ _ _ _ _ _ _ _ _ _ _ _ _ _ _ _ _ _ _ _ _ _ _ _ _ _ _ _ _ _ _ _ _ _ _ _ _ _ _

theorem last_loop1 (hx : xs.length ≤ 20) (hok : ∀ y ∈ xs, y < 256) : ∀ (r i m : Nat) (l : List Slot) (H : Heap) (top free : Int) (o : Value) (os : List Nat), xs.length - i = r → i ≤ xs.length → r < m → l.length = 20 → os.length ≤ i →
    Sl H v 1 b (xs.map fun (y : Nat) => [.int .u8 y]) → Ord H o os → Model H p s l top free os.reverse → ∀ (x1 x4 x7 x8 x9 x10 x11 x12 x13 x14 x15 x16 x17 x18 x19 x20 x21 x22 x23 x24 x25 x26 x27 x28 x29 x30 x31 x32 x33 x34 x35 x36 x37 x38 x39 x40 x41 x42 x43 x44 x45 x46 x47 x48 x49 x50 x51 x52 x53 x54 x55 x56 x57 x58 x59 x60 x61 x62 x63 x64 x65 x66 x67 x68 x69 x70 x71 x72 x73 x74 x75 x76 x77 x78 x79 x80 x81 x82 x83 x84 x85 x86 x87 : Value),
    ∃ H', loopN m (runCode Try.prog (lvl Try.prog pk 599) (loopN 599) f8_c1) (f8_k1 (lvl Try.prog pk 599) (loopN 599)) [v, x1, .bool false, .pointer (some ⟨p, 0, none⟩), x4, o, .int .i64 (i : Nat), x7, x8, x9, x10, x11, x12, x13, x14, x15, x16, x17, x18, x19, x20, x21, x22, x23, x24, x25, x26, x27, x28, x29, x30, x31, x32, x33, x34, x35, x36, x37, x38, x39, x40, x41, x42, x43, x44, x45, x46, x47, x48, x49, x50, x51, x52, x53, x54, x55, x56, x57, x58, x59, x60, x61, x62, x63, x64, x65, x66, x67, x68, x69, x70, x71, x72, x73, x74, x75, x76, x77, x78, x79, x80, x81, x82, x83, x84, x85, x86, x87] H = some (.bool true, H') := by
  intro r
  induction r with
  | zero =>
    intro i m l H top free o os hr hi hm hl20 hos hs hO hM x1 x4 x7 x8 x9 x10 x11 x12 x13 x14 x15 x16 x17 x18 x19 x20 x21 x22 x23 x24 x25 x26 x27 x28 x29 x30 x31 x32 x33 x34 x35 x36 x37 x38 x39 x40 x41 x42 x43 x44 x45 x46 x47 x48 x49 x50 x51 x52 x53 x54 x55 x56 x57 x58 x59 x60 x61 x62 x63 x64 x65 x66 x67 x68 x69 x70 x71 x72 x73 x74 x75 x76 x77 x78 x79 x80 x81 x82 x83 x84 x85 x86 x87
    obtain ⟨m, rfl⟩ : ∃ k, m = k + 1 := ⟨m - 1, by omega⟩
    obtain rfl : i = xs.length := by omega
    have hlen := hs.len
    rw [List.length_map] at hlen
    have e : decide ((xs.length : Int) < xs.length) = false := by simp
    have ol := ord_len hO
    have w : IntKind.i64.wrap ((os.length : Int) - 1) = (os.length : Int) - 1 := wrap_i64 (by omega) (by omega)
    rw [loop_succ, f8_b1_eq]
    unfold f8_b1
    simp -implicitDefEqProofs only [hlen, b_lss, e, r_opt, ob_some, iteV_false, again_exit]
    rw [f8_e1_2_eq]
    unfold f8_e1_2
    simp -implicitDefEqProofs only [ol, r_opt, ob_some, b_sub, w]
    exact last_loop2 p s o os (by omega) os.length 599 l H top free (Nat.le_refl _) (by omega) hO (by rw [List.take_length]; exact hM) ..
  | succ r ih =>
    intro i m l H top free o os hr hi hm hl20 hos hs hO hM x1 x4 x7 x8 x9 x10 x11 x12 x13 x14 x15 x16 x17 x18 x19 x20 x21 x22 x23 x24 x25 x26 x27 x28 x29 x30 x31 x32 x33 x34 x35 x36 x37 x38 x39 x40 x41 x42 x43 x44 x45 x46 x47 x48 x49 x50 x51 x52 x53 x54 x55 x56 x57 x58 x59 x60 x61 x62 x63 x64 x65 x66 x67 x68 x69 x70 x71 x72 x73 x74 x75 x76 x77 x78 x79 x80 x81 x82 x83 x84 x85 x86 x87
    obtain ⟨m, rfl⟩ : ∃ k, m = k + 1 := ⟨m - 1, by omega⟩
    have hlen := hs.len
    rw [List.length_map] at hlen
    have e : decide ((i : Int) < xs.length) = true := by simp; omega
    obtain ⟨y, hy⟩ : ∃ y, xs[i]? = some y := ⟨xs[i], List.getElem?_eq_getElem (by omega)⟩
    have hy256 := hok y (List.mem_of_getElem? hy)
    have hat := hs.at_ i .i64 (by rw [List.length_map]; omega)
    have hld := hs.ld1 (el := fun (y : Nat) => [.int .u8 y]) (fun _ => rfl) (j := 0) hy rfl
    rw [Nat.add_zero] at hld
    have e1 : ((y : Nat) : Int).tmod 20 = ((y % 20 : Nat) : Int) := by rw [Int.tmod_eq_emod_of_nonneg (by omega)]; omega
    have r1 := b_rem (P := Try.prog) 5 .u8 (y : Int) 20 (by omega)
    rw [e1] at r1
    have c2 := fun H => cv53 H ((y % 20 : Nat) : Int) (by omega) (by omega)
    have e3 : IntKind.i64.wrap ((i : Int) + 1) = ((i + 1 : Nat) : Int) := by rw [wrap_i64 (by omega) (by omega)]; omega
    obtain ⟨⟨sl, d⟩, hk⟩ : ∃ x, l[y % 20]? = some x := ⟨_, List.getElem?_eq_getElem (show y % 20 < l.length by omega)⟩
    rw [loop_succ, f8_b1_eq]
    unfold f8_b1
    cases sl with
    | none =>
      have g := drop_no (pr := pk) (flatPr_no rfl) (flatPr_no rfl) hM.pool (m := 599) (by omega) ((y % 20 : Nat) : Int) (.inr (.inr ⟨d, by rw [Int.toNat_natCast]; exact hk⟩))
      simp -implicitDefEqProofs only [hlen, b_lss, e, r_opt, ob_some, iteV_true, hat, hld, r1, c2, g, iteV_false, b_add, e3, again_normal]
      exact ih (i + 1) m l H top free o os (by omega) (by omega) (by omega) hl20 (by omega) hs hO hM _ _ _ _ _ _ _ _ _ _ _ _ _ _ _ _ _ _ _ _ _ _ _ _ _ _ _ _ _ _ _ _ _ _ _ _ _ _ _ _ _ _ _ _ _ _ _ _ _ _ _ _ _ _ _ _ _ _ _ _ _ _ _ _ _ _ _ _ _ _ _ _ _ _ _ _ _ _ _ _ _ _ _
    | some q =>
      obtain ⟨H1, g, hM1, hm1⟩ := hM.drop (pr := pk) (flatPr_no rfl) (flatPr_no rfl) (m := 599) (by omega) (y % 20) q d hk
      have hO1 := hO.more hM.pool hm1.same
      have hs1 := sl_more hs hM.pool hm1.same
      obtain ⟨v', H2, ga, hO2, hK⟩ := ord_app hO1 (y % 20) (by omega)
      have hM2 := hM1.keep hK
      have hs2 := sl_keep hs1 hK
      have gb := bld1 H1 ((y % 20 : Nat) : Int)
      rw [← List.reverse_concat] at hM2
      simp -implicitDefEqProofs only [hlen, b_lss, e, r_opt, ob_some, iteV_true, hat, hld, r1, c2, g, gb, ga, b_add, e3, again_normal]
      exact ih (i + 1) m _ H2 _ _ v' (os ++ [y % 20]) (by omega) (by omega) (by omega) (by simpa using hl20) (by simp; omega) hs2 hO2 hM2 _ _ _ _ _ _ _ _ _ _ _ _ _ _ _ _ _ _ _ _ _ _ _ _ _ _ _ _ _ _ _ _ _ _ _ _ _ _ _ _ _ _ _ _ _ _ _ _ _ _ _ _ _ _ _ _ _ _ _ _ _ _ _ _ _ _ _ _ _ _ _ _ _ _ _ _ _ _ _ _ _ _ _

theorem last_loop0 (hx : xs.length ≤ 20) (hok : ∀ y ∈ xs, y < 256) : ∀ (r i m : Nat) (l : List Slot) (H : Heap), 20 - i = r → i ≤ 20 → r < m → Sl H v 1 b (xs.map fun (y : Nat) => [.int .u8 y]) → IsPool H p s l (topOf 20 i) ((20 : Int) - i) → Filled l 20 i X5 → ∀ (x1 x5 x6 x7 x8 x9 x10 x11 x12 x13 x14 x15 x16 x17 x18 x19 x20 x21 x22 x23 x24 x25 x26 x27 x28 x29 x30 x31 x32 x33 x34 x35 x36 x37 x38 x39 x40 x41 x42 x43 x44 x45 x46 x47 x48 x49 x50 x51 x52 x53 x54 x55 x56 x57 x58 x59 x60 x61 x62 x63 x64 x65 x66 x67 x68 x69 x70 x71 x72 x73 x74 x75 x76 x77 x78 x79 x80 x81 x82 x83 x84 x85 x86 x87 : Value),
    ∃ H', loopN m (runCode Try.prog (lvl Try.prog pk 599) (loopN 599) f8_c0) (f8_k0 (lvl Try.prog pk 599) (loopN 599)) [v, x1, .bool false, .pointer (some ⟨p, 0, none⟩), .int .i64 (i : Nat), x5, x6, x7, x8, x9, x10, x11, x12, x13, x14, x15, x16, x17, x18, x19, x20, x21, x22, x23, x24, x25, x26, x27, x28, x29, x30, x31, x32, x33, x34, x35, x36, x37, x38, x39, x40, x41, x42, x43, x44, x45, x46, x47, x48, x49, x50, x51, x52, x53, x54, x55, x56, x57, x58, x59, x60, x61, x62, x63, x64, x65, x66, x67, x68, x69, x70, x71, x72, x73, x74, x75, x76, x77, x78, x79, x80, x81, x82, x83, x84, x85, x86, x87] H = some (.bool true, H') := by
  intro r
  induction r with
  | zero =>
    intro i m l H hr hi hm hs h hf x1 x5 x6 x7 x8 x9 x10 x11 x12 x13 x14 x15 x16 x17 x18 x19 x20 x21 x22 x23 x24 x25 x26 x27 x28 x29 x30 x31 x32 x33 x34 x35 x36 x37 x38 x39 x40 x41 x42 x43 x44 x45 x46 x47 x48 x49 x50 x51 x52 x53 x54 x55 x56 x57 x58 x59 x60 x61 x62 x63 x64 x65 x66 x67 x68 x69 x70 x71 x72 x73 x74 x75 x76 x77 x78 x79 x80 x81 x82 x83 x84 x85 x86 x87
    obtain ⟨m, rfl⟩ : ∃ k, m = k + 1 := ⟨m - 1, by omega⟩
    obtain rfl : i = 20 := by omega
    have e : decide (((20 : Nat) : Int) < 20) = false := by decide
    have hM := hf.model h (by omega)
    rw [loop_succ, f8_b0_eq]
    unfold f8_b0
    simp -implicitDefEqProofs only [b_lss, e, r_opt, ob_some, iteV_false, again_exit]
    rw [f8_e0_0_eq]
    unfold f8_e0_0
    exact last_loop1 v xs b p s hx hok xs.length 0 599 l H _ _ (.slice none 0 0) [] (by omega) (by omega) (by omega) hf.len (by simp) hs (.inl ⟨rfl, rfl⟩) hM ..
  | succ r ih =>
    intro i m l H hr hi hm hs h hf x1 x5 x6 x7 x8 x9 x10 x11 x12 x13 x14 x15 x16 x17 x18 x19 x20 x21 x22 x23 x24 x25 x26 x27 x28 x29 x30 x31 x32 x33 x34 x35 x36 x37 x38 x39 x40 x41 x42 x43 x44 x45 x46 x47 x48 x49 x50 x51 x52 x53 x54 x55 x56 x57 x58 x59 x60 x61 x62 x63 x64 x65 x66 x67 x68 x69 x70 x71 x72 x73 x74 x75 x76 x77 x78 x79 x80 x81 x82 x83 x84 x85 x86 x87
    obtain ⟨m, rfl⟩ : ∃ k, m = k + 1 := ⟨m - 1, by omega⟩
    have e : decide ((i : Int) < 20) = true := by simp; omega
    have c3 := fun H => cv325 H (i : Int) (by omega) (by omega)
    have e3 : IntKind.i64.wrap ((i : Int) + 1) = ((i + 1 : Nat) : Int) := by rw [wrap_i64 (by omega) (by omega)]; omega
    obtain ⟨H1, l1, g, i1, f1, _, m1⟩ := put_fill (pr := pk) (flatPr_no rfl) (n := 20) h hf (by omega) (by omega) (m := 599) (by omega)
    have gx : (X5 i).val = Pkt.val ⟨0, 0, 0, (i : Int)⟩ := rfl
    rw [gx] at g
    rw [loop_succ, f8_b0_eq]
    unfold f8_b0
    simp -implicitDefEqProofs only [c3, e3, b_add, b_lss, e, r_opt, ob_some, iteV_true, again_normal, bld3, g]
    exact ih (i + 1) m l1 H1 (by omega) (by omega) (by omega) (sl_more hs h m1) i1 f1 _ _ _ _ _ _ _ _ _ _ _ _ _ _ _ _ _ _ _ _ _ _ _ _ _ _ _ _ _ _ _ _ _ _ _ _ _ _ _ _ _ _ _ _ _ _ _ _ _ _ _ _ _ _ _ _ _ _ _ _ _ _ _ _ _ _ _ _ _ _ _ _ _ _ _ _ _ _ _ _ _ _ _ _

end

theorem poolLast_true (v : Value) (xs : List Nat) (hok : ∀ y ∈ xs, y < 256) (H : Heap) (b : Nat) (hs : Sl H v 1 b (xs.map fun (y : Nat) => [.int .u8 y])) : ∃ H', lvl Try.prog pk 600 (.func 8) [v] H = some (.bool true, H') := by
  have g1 : lvl Try.prog pk 599 (.func 15) [.int .i64 20] H = some (.pointer (some ⟨H.length + 1, 0, none⟩), heapN H (made 20)) := new_ok (H := H) (pr := pk) (flatPr_no rfl) 20 (by omega) (by omega) (m := 599) (by omega)
  have i0 := made_pool (H := H) 20
  have hlen := hs.len
  rw [List.length_map] at hlen
  have g6 := fun H => flat_call (P := Try.prog) (ids := [16, 27]) (g := 16) rfl (n := 599) (by omega) H
  by_cases hx : xs.length ≤ 20
  · have e3 : decide ((20 : Int) < xs.length) = false := by simp; omega
    have hs' : Sl (heapN H (made 20)) v 1 b (xs.map fun (y : Nat) => [.int .u8 y]) := hs.same fun hb => by
      unfold heapN
      exact List.getElem?_append_left hb
    obtain ⟨H', hl⟩ := last_loop0 v xs b (H.length + 1) H.length hx hok 20 0 599 (made 20) _ (by omega) (by omega) (by omega) hs' i0 (Filled.made 20 X5)
      undef undef undef undef undef undef undef undef undef (.pointer (some ⟨H.length + 1, 0, none⟩)) (.pointer (some ⟨H.length + 1, 0, none⟩)) (.bool false) (.bool false) v (.int .i64 xs.length) (.bool false) (.bool false) undef undef undef undef undef undef undef undef undef undef undef undef undef undef undef undef undef undef undef undef undef undef undef undef undef undef undef undef undef undef undef undef undef undef undef undef undef undef undef undef undef undef undef undef undef undef undef undef undef undef undef undef undef undef undef undef undef undef undef undef undef undef undef undef undef undef undef
    refine ⟨H', ?_⟩
    refine lvl_at (flatPr_no rfl) (by omega) ?_
    rw [f8_eq]
    unfold f8
    simp -implicitDefEqProofs only [g1, e22, r_opt, r_ret, ob_some, r_gdff, r_gdff2, hlen, b_gtr, e3, pick_f, iteV_false]
    exact hl
  · have e3 : decide ((20 : Int) < xs.length) = true := by simp; omega
    have n22 := x_neNil (P := Try.prog) 22 69 (by kernel_rfl)
    refine ⟨heapN H (made 20), ?_⟩
    refine lvl_at (flatPr_no rfl) (by omega) ?_
    rw [f8_eq]
    unfold f8
    simp -implicitDefEqProofs only [g1, e22, n22, r_opt, r_ret, ob_some, r_gdff, r_gdff2, hlen, b_gtr, e3, pick_f, pick_t, iteV_false, iteV_true, r_gdt, r_gdt2, g6, oneOf_one]

end Go.Proofs.Ytebcibedkcjbcaa
