/-
  THE DOCUMENT'S POOL: contracts.
-/
import Derived.Test.YtebcibedkcjbcaaAbsOp
set_option linter.unusedSimpArgs false
set_option linter.unusedVariables false
set_option maxRecDepth 100000
namespace Go.Proofs.Ytebcibedkcjbcaa
open Go.Abs

/-- a slice of ints, with room behind it -/
structure Room (H : Heap) (v : Value) (c cap : Nat) (os : List Nat) (rest : List Value) : Prop where
  val : v = .slice (some ⟨c, 0, none⟩) os.length cap
  blk : H[c]? = some (.cells (os.map (fun k => Value.int .i64 (k : Nat)) ++ rest) 3 .row)
  le : os.length ≤ cap
  room : cap ≤ os.length + rest.length

/-- the document's pool -/
structure IsRef (H : Heap) (r lb fb : Nat) (lv fv ev : Value) (ws : List Pkt) (hs : List Nat) : Prop where
  hr : H[r]? = some (.cells [lv, fv, ev] 76 .fix)
  L : Own Pkt.cells 27 H lv lb ws
  F : Own hasE 3 H fv fb hs

section
variable {pr : Prims} {H : Heap} {r lb fb : Nat} {lv fv ev : Value} {ws : List Pkt} {hs : List Nat}

@[simp] theorem ld_ref0 : ldC (some (.cells [lv, fv, ev] 76 .fix)) 0 H = some (lv, H) := rfl
@[simp] theorem ld_ref1 : ldC (some (.cells [lv, fv, ev] 76 .fix)) 1 H = some (fv, H) := rfl
@[simp] theorem ld_ref2 : ldC (some (.cells [lv, fv, ev] 76 .fix)) 2 H = some (ev, H) := rfl

theorem ref_free (hn : pr (.func 25) = none) (h : IsRef H r lb fb lv fv ev ws hs) {os : List Nat} {cap c : Nat} {rest : List Value} (he : ev = .slice (some ⟨c, 0, none⟩) os.length cap) {m : Nat} (hm : 0 < m) :
    lvl Try.prog pr m (.func 25) [.pointer (some ⟨r, 0, none⟩)] H = some (.int .i64 os.length, H) := by
  refine lvl_at hn hm ?_
  rw [f25_eq]
  unfold f25
  have hl : lenSl ev = some (.int .i64 os.length) := by rw [he]; rfl
  simp -implicitDefEqProofs only [r_opt, ob_some, r_nil, r_fAddr, Nat.zero_add, x_ld1, h.hr, ld_ref2, hl, oneOf_one]

theorem ref_has (hn : pr (.func 41) = none) (h : IsRef H r lb fb lv fv ev ws hs) (hl : hs.length = ws.length) {m : Nat} (hm : 0 < m) (i : Int) :
    lvl Try.prog pr m (.func 41) [.pointer (some ⟨r, 0, none⟩), .int .i64 i] H = some (.bool (decide (0 ≤ i) && decide (hs[i.toNat]? = some 1)), H) := by
  refine lvl_at hn hm ?_
  rw [f41_eq]
  unfold f41
  have ll := h.L.len
  by_cases h0 : 0 ≤ i
  · obtain ⟨k, rfl⟩ : ∃ k : Nat, i = k := ⟨i.toNat, by omega⟩
    by_cases h1 : k < ws.length
    · have e0 : decide ((0 : Int) ≤ k) = true := by simp
      have e1 : decide ((k : Int) < ws.length) = true := by simp; omega
      have hat := h.F.at_ 1 k .i64 (by omega)
      obtain ⟨x, hx⟩ : ∃ x, hs[k]? = some x := ⟨_, List.getElem?_eq_getElem (show k < hs.length by omega)⟩
      have hld := h.F.ld1 (sz := 1) (fun _ => rfl) (j := 0) hx rfl
      rw [Nat.add_zero] at hld
      have e2 : ((x : Int) == 1) = decide (hs[((k : Nat) : Int).toNat]? = some 1) := by
        rw [Int.toNat_natCast, hx]
        by_cases hx1 : x = 1 <;> simp [hx1] <;> omega
      simp -implicitDefEqProofs only [r_opt, r_ret, ob_some, b_geq, e0, r_gdt, r_gdt2, r_nil, r_fAddr, Nat.zero_add, x_ld1, h.hr, ld_ref0, ld_ref1, ll, b_lss, e1, pick_t, hat]
      rw [← x_ld1, hld]
      simp -implicitDefEqProofs only [r_opt, r_ret, ob_some, b_eql, r_gdt, r_gdt2, pick_t, e2, oneOf_one, Bool.true_and]
    · have e0 : decide ((0 : Int) ≤ k) = true := by simp
      have e1 : decide ((k : Int) < ws.length) = false := by simp; omega
      have e2 : decide (hs[((k : Nat) : Int).toNat]? = some 1) = false := by
        rw [Int.toNat_natCast, List.getElem?_eq_none (by omega)]
        rfl
      simp -implicitDefEqProofs only [r_opt, r_ret, ob_some, b_geq, e0, r_gdt, r_gdt2, r_nil, r_fAddr, Nat.zero_add, x_ld1, h.hr, ld_ref0, ld_ref1, ll, b_lss, e1, pick_t, pick_f, r_gdft, r_gdft2, e2, oneOf_one, Bool.and_false]
  · have e0 : decide (0 ≤ i) = false := by simp; omega
    simp -implicitDefEqProofs only [r_opt, r_ret, ob_some, b_geq, e0, r_gdft, r_gdft2, pick_f, oneOf_one, Bool.false_and]

theorem room_nil (H : Heap) (k : Nat) : ∃ v' H', app 3 1 8 (.slice none 0 0) (.slice (some ⟨H.length, 0, none⟩) 1 1) (H ++ [.cells [.int .i64 k] 3 .row]) = some (v', H') ∧ Room H' v' (H.length + 1) 1 [k] [] ∧ H.length + 2 ≤ H'.length ∧ (∀ b, b < H.length → H'[b]? = H[b]?) := by
  have hn : (H ++ [Blk.cells [.int .i64 (k : Int)] 3 .row])[H.length]? = some (.cells [.int .i64 (k : Int)] 3 .row) := by simp
  refine ⟨.slice (some ⟨H.length + 1, 0, none⟩) 1 1, H ++ [Blk.cells [.int .i64 k] 3 .row] ++ [Blk.cells [.int .i64 k] 3 .row], ?_, ⟨rfl, by simp, by simp, by simp⟩, by simp, ?_⟩
  · simp [app, srcLen, srcCells, hn, roomy]
  · intro b hlt
    rw [List.append_assoc, List.getElem?_append_left hlt]

theorem room_app {v : Value} {c cap : Nat} {os : List Nat} {rest : List Value} (h : Room H v c cap os rest) (k : Nat) (hl : os.length ≤ 1000) :
    ∃ v' H' c' cap' rest', app 3 1 8 v (.slice (some ⟨H.length, 0, none⟩) 1 1) (H ++ [.cells [.int .i64 k] 3 .row]) = some (v', H') ∧ Room H' v' c' cap' (os ++ [k]) rest' ∧ H.length ≤ H'.length ∧ (c' = c ∨ H.length ≤ c') ∧ (∀ b, b < H.length → b ≠ c → H'[b]? = H[b]?) := by
  have hn : (H ++ [Blk.cells [.int .i64 (k : Int)] 3 .row])[H.length]? = some (.cells [.int .i64 (k : Int)] 3 .row) := by simp
  have hlt := (List.getElem?_eq_some_iff.mp h.blk).1
  have hc1 : (H ++ [Blk.cells [.int .i64 (k : Int)] 3 .row])[c]? = some (.cells (os.map (fun k => Value.int .i64 (k : Nat)) ++ rest) 3 .row) := by rw [List.getElem?_append_left hlt, h.blk]
  have hv := h.val
  have hroom := h.room
  have hle := h.le
  subst hv
  by_cases hcap : os.length + 1 ≤ cap
  · match rest, hroom with
    | [], hroom => simp at hroom; omega
    | r0 :: rest', hroom =>
      refine ⟨.slice (some ⟨c, 0, none⟩) (os.length + 1) cap, (H ++ [Blk.cells [.int .i64 k] 3 .row]).set c (Blk.cells ((os ++ [k]).map (fun k => Value.int .i64 (k : Nat)) ++ rest') 3 .row), c, cap, rest', ?_, ⟨by simp, ?_, by simpa using hcap, by simp at hroom ⊢; omega⟩, by simp, .inl rfl, ?_⟩
      · simp only [app, srcLen, srcCells, hn, hc1]
        rw [if_pos (by simp)]
        simp only
        rw [if_pos hcap]
        simp [allCells, Value.oneCell', setCells]
      · rw [List.getElem?_set_self (by simp; omega)]
      · intro b hb hbc
        rw [List.getElem?_set_ne (by omega), List.getElem?_append_left hb]
  · have hr : roomy (os.length + 1) 8 = true := by simp [roomy]; omega
    refine ⟨.slice (some ⟨H.length + 1, 0, none⟩) (os.length + 1) (os.length + 1), (H ++ [Blk.cells [.int .i64 k] 3 .row]).set c .dead ++ [Blk.cells ((os ++ [k]).map (fun k => Value.int .i64 (k : Nat))) 3 .row], H.length + 1, os.length + 1, [], ?_, ⟨by simp, by simp, by simp, by simp⟩, by simp; omega, .inr (by omega), ?_⟩
    · simp only [app, srcLen, srcCells, hn, hc1]
      rw [if_pos (by simp)]
      simp only
      rw [if_neg hcap, if_pos (by simp [hr])]
      simp [List.take_of_length_le]
    · intro b hb hbc
      rw [List.getElem?_append_left (by simp; omega), List.getElem?_set_ne (by omega), List.getElem?_append_left hb]

theorem room_cut {v : Value} {c cap : Nat} {os : List Nat} {k : Nat} {rest : List Value} (h : Room H v c cap (os ++ [k]) rest) :
    ∃ v', slc Try.prog 1 v none (some (.int .i64 os.length)) none H = some (v', H) ∧ Room H v' c cap os (.int .i64 k :: rest) := by
  have hle := h.le
  have hroom := h.room
  simp at hle hroom
  refine ⟨.slice (some ⟨c, 0, none⟩) os.length cap, ?_, ⟨rfl, by rw [h.blk]; simp, by omega, by simp; omega⟩⟩
  have c3 : Try.prog.cellsOf 3 = 1 := by kernel_rfl
  rw [h.val]
  simp only [slc, h.blk, bnd]
  rw [if_pos (by omega)]
  simp
  exact ⟨by omega, c3⟩

/-- the document's pool, whole -/
structure RefS (H : Heap) (r lb fb c cap : Nat) (lv fv ev : Value) (ws : List Pkt) (hs es : List Nat) (rest : List Value) : Prop where
  ref : IsRef H r lb fb lv fv ev ws hs
  room : Room H ev c cap es rest
  len : hs.length = ws.length
  ne : c ≠ fb
  es200 : es.length ≤ 500

theorem st_ref2 {r : Nat} {lv fv ev ev' : Value} {c n cap : Nat} (hv : ev' = .slice (some ⟨c, 0, none⟩) n cap) {H : Heap} (hr : H[r]? = some (.cells [lv, fv, ev] 76 .fix)) :
    stN 1 (.pointer (some ⟨r, 2, none⟩)) ev' H = some (undef, H.set r (.cells [lv, fv, ev'] 76 .fix)) := by
  subst hv
  rw [st_slice, hr, stC_fix _ _ _ _ _ rfl (by simp)]
  rfl

theorem Room.same {H H' : Heap} {v : Value} {c cap : Nat} {os : List Nat} {rest : List Value} (h : Room H v c cap os rest) (hb : H'[c]? = H[c]?) : Room H' v c cap os rest := ⟨h.val, by rw [hb, h.blk], h.le, h.room⟩
theorem own_same {α : Type} {el : α → List Value} {e : TypeId} {H H' : Heap} {v : Value} {b : Nat} {xs : List α} (h : Own el e H v b xs) (hb : H'[b]? = H[b]?) : Own el e H' v b xs := ⟨h.val, by rw [hb, h.blk]⟩

theorem RefS.ne's {H : Heap} {r lb fb c cap : Nat} {lv fv ev : Value} {ws : List Pkt} {hs es : List Nat} {rest : List Value} (h : RefS H r lb fb c cap lv fv ev ws hs es rest) :
    r ≠ fb ∧ r ≠ lb ∧ r ≠ c ∧ lb ≠ fb ∧ lb ≠ c ∧ r < H.length ∧ fb < H.length ∧ lb < H.length ∧ c < H.length := by
  have h1 := h.ref.hr
  have h2 := h.ref.L.blk
  have h3 := h.ref.F.blk
  have h4 := h.room.blk
  refine ⟨?_, ?_, ?_, ?_, ?_, (List.getElem?_eq_some_iff.mp h1).1, (List.getElem?_eq_some_iff.mp h3).1, (List.getElem?_eq_some_iff.mp h2).1, (List.getElem?_eq_some_iff.mp h4).1⟩
  · intro e; rw [e, h3] at h1; simp at h1
  · intro e; rw [e, h2] at h1; simp at h1
  · intro e; rw [e, h4] at h1; simp at h1
  · intro e; rw [e, h3] at h2; simp at h2
  · intro e; rw [e, h4] at h2; simp at h2

/-- what a call on the document's pool leaves as it was -/
def RefK (r lb fb c : Nat) (H H' : Heap) : Prop := H.length ≤ H'.length ∧ ∀ b, b < H.length → b ≠ r → b ≠ lb → b ≠ fb → b ≠ c → H'[b]? = H[b]?

section
variable {pr : Prims} {H : Heap} {r lb fb c cap : Nat} {lv fv ev : Value} {ws : List Pkt} {hs es : List Nat} {rest : List Value}

theorem ref_drop (hn : pr (.func 41) = none) (hn' : pr (.func 22) = none) (h : RefS H r lb fb c cap lv fv ev ws hs es rest) (h5 : es.length < 500) {m : Nat} (hm : 1 < m) (i : Nat) (hi : hs[i]? = some 1) :
    ∃ H' ev' c' cap' rest', lvl Try.prog pr m (.func 22) [.pointer (some ⟨r, 0, none⟩), .int .i64 i] H = some (.bool true, H') ∧ RefS H' r lb fb c' cap' lv fv ev' ws (hs.set i 0) (es ++ [i]) rest' ∧ RefK r lb fb c H H' ∧ (c' = c ∨ H.length ≤ c') := by
  obtain ⟨n1, n2, n3, n4, n5, l1, l2, l3, l4⟩ := h.ne's
  have hne := h.ne
  have hl : i < hs.length := (List.getElem?_eq_some_iff.mp hi).1
  have hh := ref_has hn h.ref h.len (m := m - 1) (by omega) (i : Int)
  have e0 : (decide ((0 : Int) ≤ i) && decide (hs[((i : Nat) : Int).toNat]? = some 1)) = true := by rw [Int.toNat_natCast, hi]; simp
  rw [e0] at hh
  obtain ⟨gs, hF1⟩ := h.ref.F.st (sz := 1) (fun _ => rfl) hasE_all hl 0
  have gs' : stN 1 (.pointer (some ⟨fb, i * 1, none⟩)) (.int .i64 0) H = some (undef, H.set fb (.cells ((hs.set i 0).map hasE).flatten 3 .row)) := by
    rw [st_int]
    exact gs
  generalize hH1 : H.set fb (.cells ((hs.set i 0).map hasE).flatten 3 .row) = H1 at gs' hF1
  have k1 : ∀ b, b ≠ fb → H1[b]? = H[b]? := fun b hb => by rw [← hH1, List.getElem?_set_ne (by omega)]
  have len1 : H1.length = H.length := by rw [← hH1]; simp
  have hat := h.ref.F.at_ 1 i .i64 hl
  have hR1 := h.room.same (k1 c hne)
  have hr1 : H1[r]? = some (.cells [lv, fv, ev] 76 .fix) := by rw [k1 r n1]; exact h.ref.hr
  obtain ⟨ev', H2, c', cap', rest', ga, hR2, len2, hc', k2⟩ := room_app hR1 i (by omega)
  have gb := bld1 H1 (i : Int)
  have hr2 : H2[r]? = some (.cells [lv, fv, ev] 76 .fix) := by rw [k2 r (by omega) n3]; exact hr1
  have g3 := st_ref2 hR2.val hr2
  have hc'r : r ≠ c' := by
    rcases hc' with rfl | hc'
    · exact n3
    · omega
  refine ⟨H2.set r (.cells [lv, fv, ev'] 76 .fix), ev', c', cap', rest', ?_, ⟨⟨?_, ?_, ?_⟩, ?_, by rw [List.length_set]; exact h.len, ?_, by simp; omega⟩, ⟨by simp; omega, ?_⟩, by omega⟩
  · refine lvl_at hn' (by omega) ?_
    rw [f22_eq]
    unfold f22
    simp -implicitDefEqProofs only [hh, r_opt, ob_some, u_not, Bool.not_true, iteV_false, r_nil, r_fAddr, Nat.zero_add, x_ld1, h.ref.hr, ld_ref1, hat, gs', hr1, ld_ref2, gb, ga, g3, oneOf_one]
  · rw [List.getElem?_set_self (by omega)]
  · exact own_same h.ref.L (by rw [List.getElem?_set_ne n2, k2 lb (by omega) n5, k1 lb n4])
  · exact own_same hF1 (by rw [List.getElem?_set_ne n1, k2 fb (by omega) (fun e => hne e.symm)])
  · exact hR2.same (by rw [List.getElem?_set_ne hc'r])
  · rcases hc' with rfl | hc'
    · exact hne
    · omega
  · intro b hb h1 h2 h3 h4
    rw [List.getElem?_set_ne (by omega), k2 b (by omega) h4, k1 b h3]

theorem ref_drop_no (hn : pr (.func 41) = none) (hn' : pr (.func 22) = none) (h : RefS H r lb fb c cap lv fv ev ws hs es rest) {m : Nat} (hm : 1 < m) (i : Int) (hi : (decide (0 ≤ i) && decide (hs[i.toNat]? = some 1)) = false) :
    lvl Try.prog pr m (.func 22) [.pointer (some ⟨r, 0, none⟩), .int .i64 i] H = some (.bool false, H) := by
  have hh := ref_has hn h.ref h.len (m := m - 1) (by omega) i
  rw [hi] at hh
  refine lvl_at hn' (by omega) ?_
  rw [f22_eq]
  unfold f22
  simp -implicitDefEqProofs only [hh, r_opt, ob_some, u_not, Bool.not_false, iteV_true, oneOf_one]

theorem ref_get_no (hn : pr (.func 41) = none) (hn' : pr (.func 23) = none) (h : RefS H r lb fb c cap lv fv ev ws hs es rest) {m : Nat} (hm : 1 < m) (i : Int) (hi : (decide (0 ≤ i) && decide (hs[i.toNat]? = some 1)) = false) :
    lvl Try.prog pr m (.func 23) [.pointer (some ⟨r, 0, none⟩), .int .i64 i] H = some (.tuple #[pk0.val, .bool false], H ++ [pkB pk0]) := by
  have up : ∀ (b : Nat) (x : Blk), H[b]? = some x → (H ++ [pkB pk0])[b]? = some x := fun b x hb => by
    rw [List.getElem?_append_left (List.getElem?_eq_some_iff.mp hb).1, hb]
  have h1 : IsRef (H ++ [pkB pk0]) r lb fb lv fv ev ws hs := ⟨up _ _ h.ref.hr, h.ref.L.app _, h.ref.F.app _⟩
  have hh := ref_has hn h1 h.len (m := m - 1) (by omega) i
  rw [hi] at hh
  refine lvl_at hn' (by omega) ?_
  rw [f23_eq]
  unfold f23
  simp -implicitDefEqProofs only [x_newB, pkB_zero, hh, r_opt, ob_some, u_not, Bool.not_false, iteV_true, pk_bld, st_pk, x_last, stC_pk, set_last, x_ldN, ldN_pk, oneOf_two]

theorem ref_get_yes (hn : pr (.func 41) = none) (hn' : pr (.func 23) = none) (h : RefS H r lb fb c cap lv fv ev ws hs es rest) {m : Nat} (hm : 1 < m) (i : Nat) (hi : hs[i]? = some 1) (x : Pkt) (hx : ws[i]? = some x) :
    lvl Try.prog pr m (.func 23) [.pointer (some ⟨r, 0, none⟩), .int .i64 i] H = some (.tuple #[x.val, .bool true], H ++ [pkB x]) := by
  have up : ∀ (b : Nat) (x : Blk), H[b]? = some x → (H ++ [pkB pk0])[b]? = some x := fun b x hb => by
    rw [List.getElem?_append_left (List.getElem?_eq_some_iff.mp hb).1, hb]
  have h1 : IsRef (H ++ [pkB pk0]) r lb fb lv fv ev ws hs := ⟨up _ _ h.ref.hr, h.ref.L.app _, h.ref.F.app _⟩
  have hh := ref_has hn h1 h.len (m := m - 1) (by omega) (i : Int)
  have e0 : (decide ((0 : Int) ≤ i) && decide (hs[((i : Nat) : Int).toNat]? = some 1)) = true := by rw [Int.toNat_natCast, hi]; simp
  rw [e0] at hh
  have hat := h1.L.at_ 4 i .i64 (List.getElem?_eq_some_iff.mp hx).1
  have hld := h1.L.ldN (sz := 4) (fun _ => rfl) hx
  have hval : Value.agg ⟨x.cells⟩ = x.val := rfl
  rw [hval] at hld
  refine lvl_at hn' (by omega) ?_
  rw [f23_eq]
  unfold f23
  simp -implicitDefEqProofs only [x_newB, pkB_zero, hh, r_opt, ob_some, u_not, Bool.not_true, iteV_false, r_nil, r_fAddr, Nat.zero_add, x_ld1, h1.hr, ld_ref0, hat, hld, st_pk, x_last, stC_pk, set_last]
  rw [x_ldN, x_last]
  rfl

theorem ref_put_no (hn' : pr (.func 24) = none) (h : RefS H r lb fb c cap lv fv ev ws hs [] rest) {m : Nat} (hm : 0 < m) (x : Pkt) :
    lvl Try.prog pr m (.func 24) [.pointer (some ⟨r, 0, none⟩), x.val] H = some (.tuple #[.int .i64 0, .bool false], H ++ [pkB x]) := by
  have up : (H ++ [pkB x])[r]? = some (.cells [lv, fv, ev] 76 .fix) := by
    rw [List.getElem?_append_left (List.getElem?_eq_some_iff.mp h.ref.hr).1, h.ref.hr]
  have e : Blk.cells (Value.cells x.val).toList 27 .fix = pkB x := rfl
  have hl : lenSl ev = some (.int .i64 0) := by rw [h.room.val]; rfl
  refine lvl_at hn' (by omega) ?_
  rw [f24_eq]
  unfold f24
  simp -implicitDefEqProofs only [x_newB, e, r_opt, ob_some, r_nil, r_fAddr, Nat.zero_add, x_ld1, up, ld_ref2, hl, b_eql, beq_self_eq_true, iteV_true, oneOf_two]

theorem ref_put (hn' : pr (.func 24) = none) {k : Nat} (h : RefS H r lb fb c cap lv fv ev ws hs (es ++ [k]) rest) (hk : k < ws.length) {m : Nat} (hm : 0 < m) (x : Pkt) :
    ∃ H' ev', lvl Try.prog pr m (.func 24) [.pointer (some ⟨r, 0, none⟩), x.val] H = some (.tuple #[.int .i64 k, .bool true], H') ∧ RefS H' r lb fb c cap lv fv ev' (ws.set k x) (hs.set k 1) es (.int .i64 k :: rest) ∧ RefK r lb fb c H H' := by
  obtain ⟨n1, n2, n3, n4, n5, l1, l2, l3, l4⟩ := h.ne's
  have hne := h.ne
  have hlen := h.len
  have h5 := h.es200
  simp only [List.length_append, List.length_cons, List.length_nil] at h5
  have e : Blk.cells (Value.cells x.val).toList 27 .fix = pkB x := rfl
  have up : ∀ (b : Nat), b < H.length → (H ++ [pkB x])[b]? = H[b]? := fun b hb => List.getElem?_append_left hb
  have hr0 : (H ++ [pkB x])[r]? = some (.cells [lv, fv, ev] 76 .fix) := by rw [up r l1]; exact h.ref.hr
  have hR0 := h.room.same (up c l4)
  have hL0 := h.ref.L.app [pkB x]
  have hF0 := h.ref.F.app [pkB x]
  have hx0 : (H ++ [pkB x])[H.length]? = some (pkB x) := by simp
  have hl0 : (H ++ [pkB x]).length = H.length + 1 := by simp
  generalize hH0 : (H ++ [pkB x]) = H0 at hr0 hR0 hL0 hF0 hx0 hl0 up
  have hl : lenSl ev = some (.int .i64 ((es.length : Int) + 1)) := by rw [h.room.val]; simp [lenSl]
  have e1 : (((es.length : Int) + 1) == 0) = false := by simp; omega
  have e2 : IntKind.i64.wrap ((es.length : Int) + 1 - 1) = (es.length : Int) := by rw [wrap_i64] <;> omega
  have hat : iAddr 1 ev (.int .i64 es.length) = some (.pointer (some ⟨c, es.length * 1, none⟩)) := by
    rw [h.room.val, r_iAddr _ _ _ _ _ _ _ (by omega) (by simp; omega)]
    simp
  have hld : ld1 (.pointer (some ⟨c, es.length * 1, none⟩)) H0 = some (.int .i64 k, H0) := by
    rw [x_ld1, hR0.blk, x_ldC]
    simp [cellV]
  obtain ⟨ev', gc, hR1⟩ := room_cut hR0
  have g3 := st_ref2 hR1.val hr0
  have hr1 : (H0.set r (.cells [lv, fv, ev'] 76 .fix))[r]? = some (.cells [lv, fv, ev'] 76 .fix) := List.getElem?_set_self (by omega)
  have k1 : ∀ b, b ≠ r → (H0.set r (.cells [lv, fv, ev'] 76 .fix))[b]? = H0[b]? := fun b hb => by rw [List.getElem?_set_ne (by omega)]
  have hl1 : (H0.set r (.cells [lv, fv, ev'] 76 .fix)).length = H.length + 1 := by simp [hl0]
  generalize H0.set r (.cells [lv, fv, ev'] 76 .fix) = H1 at g3 hr1 k1 hl1
  have hx1 : ldN 4 (.pointer (some ⟨H.length, 0, none⟩)) H1 = some (x.val, H1) := by
    rw [x_ldN, k1 _ (by omega), hx0]
    rfl
  have hL1 := own_same hL0 (k1 lb (by omega))
  have hF1 := own_same hF0 (k1 fb (by omega))
  have hatL := hL1.at_ 4 k .i64 hk
  have hatF := hF1.at_ 1 k .i64 (by omega)
  obtain ⟨gw, hL2⟩ := hL1.st (sz := 4) (fun _ => rfl) pkt_all hk x
  have gw' := (x_stN (H := H1) 4 lb (k * 4) x.val rfl).trans gw
  have hr2 : (H1.set lb (.cells ((ws.set k x).map Pkt.cells).flatten 27 .row))[r]? = some (.cells [lv, fv, ev'] 76 .fix) := by rw [List.getElem?_set_ne (by omega)]; exact hr1
  have k2 : ∀ b, b ≠ lb → (H1.set lb (.cells ((ws.set k x).map Pkt.cells).flatten 27 .row))[b]? = H1[b]? := fun b hb => by rw [List.getElem?_set_ne (by omega)]
  have hl2 : (H1.set lb (.cells ((ws.set k x).map Pkt.cells).flatten 27 .row)).length = H.length + 1 := by simp [hl1]
  generalize H1.set lb (.cells ((ws.set k x).map Pkt.cells).flatten 27 .row) = H2 at gw' hr2 k2 hL2 hl2
  have hF2 := own_same hF1 (k2 fb (by omega))
  obtain ⟨gs, hF3⟩ := hF2.st (sz := 1) (fun _ => rfl) hasE_all (i := k) (by omega) 1
  have gs' : stN 1 (.pointer (some ⟨fb, k * 1, none⟩)) (.int .i64 1) H2 = some (undef, H2.set fb (.cells ((hs.set k 1).map hasE).flatten 3 .row)) := by
    rw [st_int]
    exact gs
  have k3 : ∀ b, b ≠ fb → (H2.set fb (.cells ((hs.set k 1).map hasE).flatten 3 .row))[b]? = H2[b]? := fun b hb => by rw [List.getElem?_set_ne (by omega)]
  have hl3 : (H2.set fb (.cells ((hs.set k 1).map hasE).flatten 3 .row)).length = H.length + 1 := by simp [hl2]
  generalize H2.set fb (.cells ((hs.set k 1).map hasE).flatten 3 .row) = H3 at gs' hF3 k3 hl3
  have all : ∀ b, b ≠ r → b ≠ lb → b ≠ fb → H3[b]? = H0[b]? := fun b h1 h2 h3 => by rw [k3 b h3, k2 b h2, k1 b h1]
  refine ⟨H3, ev', ?_, ⟨⟨?_, ?_, hF3⟩, ?_, by simp [hlen], hne, by omega⟩, ⟨by omega, ?_⟩⟩
  · refine lvl_at hn' (by omega) ?_
    rw [f24_eq]
    unfold f24
    have q0 : ld1 (.pointer (some ⟨r, 2, none⟩)) H0 = some (ev, H0) := by rw [x_ld1, hr0]; rfl
    have q1 : ld1 (.pointer (some ⟨r, 0, none⟩)) H1 = some (lv, H1) := by rw [x_ld1, hr1]; rfl
    have q2 : ld1 (.pointer (some ⟨r, 1, none⟩)) H2 = some (fv, H2) := by rw [x_ld1, hr2]; rfl
    simp -implicitDefEqProofs only [x_newB, e, hH0, r_opt, ob_some, r_nil, r_fAddr, Nat.zero_add, q0, q1, q2, hl, b_eql, e1, iteV_false, b_sub, e2, hat, hld, gc, g3, ifB_true, hx1, hatL, gw', hatF, gs', oneOf_two]
  · rw [k3 r n1]; exact hr2
  · exact own_same hL2 (k3 lb n4)
  · exact hR1.same (all c (by omega) (by omega) hne)
  · intro b hb h1 h2 h3 h4
    rw [all b h1 h2 h3, up b hb]

end
end
end Go.Proofs.Ytebcibedkcjbcaa
