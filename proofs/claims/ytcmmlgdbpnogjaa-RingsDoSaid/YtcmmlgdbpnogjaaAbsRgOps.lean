/-
  RINGS: the calls that come in; near; packets held against each other.
-/
import Derived.Test.YtcmmlgdbpnogjaaAbsRg4
import Derived.Test.YtcmmlgdbpnogjaaAbsArg3
set_option linter.unusedSectionVars false
set_option linter.unusedSimpArgs false
set_option linter.unusedVariables false
set_option maxRecDepth 100000
namespace Go.Proofs.Ytcmmlgdbpnogjaa
open Go.Abs

structure ROp where
  kind : Nat
  i : Int
  o : Int
  l : Int
  nr : Bool
  x : Pkt
def ROp.cells (y : ROp) : List Value := [.int .u8 y.kind, .int .i64 y.i, .int .i64 y.o, .int .i64 y.l, .bool y.nr, .int .i64 y.x.src, .int .i64 y.x.dst, .int .i64 y.x.lane, .int .u32 y.x.body]
def ROp.val (y : ROp) : Value := .agg ⟨y.cells⟩
def opB (y : ROp) : Blk := .cells y.cells 58 .fix
def ROp.w (y : ROp) : Way := (y.i, y.o, y.l)
def ROp.z : List Value := [.int .u8 0, .int .i64 0, .int .i64 0, .int .i64 0, .bool false, .int .i64 0, .int .i64 0, .int .i64 0, .int .u32 0]

def nearO (y : ROp) : ROp := if y.nr = true then { y with i := (max y.i 0) % 3, o := (max y.o 0) % 3, l := (max y.l 0) % 2 } else y
def inR (y : ROp) : Prop := (-9223372036854775808 ≤ y.i ∧ y.i < 9223372036854775808) ∧ (-9223372036854775808 ≤ y.o ∧ y.o < 9223372036854775808) ∧ (-9223372036854775808 ≤ y.l ∧ y.l < 9223372036854775808)

theorem ROp.len (y : ROp) : y.cells.length = 9 := rfl
theorem nA_op (y : ROp) : ¬ AR (opB y) := by simp [AR, opB]
theorem nS_op (y : ROp) : ¬ AS (opB y) := by simp [AR, AS, opB]

theorem st_op (H : Heap) (cs : List Value) (hc : cs.length = 9) (y : ROp) (G : Heap) : stN 9 (.pointer (some ⟨H.length, 0, none⟩)) y.val (H ++ [.cells cs 58 .fix] ++ G) = some (undef, H ++ [opB y] ++ G) := by
  have hg : (H ++ [Blk.cells cs 58 .fix] ++ G)[H.length]? = some (.cells cs 58 .fix) := by rw [List.getElem?_append_left (by simp)]; simp
  have e : y.val.cells.toList = y.cells := rfl
  rw [x_stN 9 H.length 0 y.val rfl, hg, e, x_stC _ _ _ _ _ _ (by decide) (by rw [hc]; simp [ROp.len]) rfl]
  have h9 : setCells cs 0 y.cells = y.cells := by
    match cs, hc with
    | [a1, a2, a3, a4, a5, a6, a7, a8, a9], _ => rfl
  rw [h9]
  simp [opB]
theorem ld_op9 {H : Heap} {b : Nat} {y : ROp} (h : H[b]? = some (opB y)) : ldN 9 (.pointer (some ⟨b, 0, none⟩)) H = some (y.val, H) := by
  rw [x_ldN, h]
  unfold opB
  rw [x_ldNC _ _ _ _ _ (by simp [ROp.len])]
  rfl
theorem ld_opx {H : Heap} {b : Nat} {y : ROp} (h : H[b]? = some (opB y)) : ldN 4 (.pointer (some ⟨b, 5, none⟩)) H = some (y.x.val, H) := by
  rw [x_ldN, h]
  unfold opB
  rw [x_ldNC _ _ _ _ _ (by simp [ROp.len])]
  rfl
theorem ld_opj {H : Heap} {b : Nat} {y : ROp} (h : H[b]? = some (opB y)) (j : Nat) (v : Value) (hv : y.cells[j]? = some v) : ld1 (.pointer (some ⟨b, j, none⟩)) H = some (v, H) := by
  rw [x_ld1, h]
  unfold opB
  rw [x_ldC, hv, x_cell]

theorem near_is {m : Nat} {H : Heap} (hm : 0 < m) (y : ROp) (hy : inR y) : lvl Try.prog pk8 m (.func 34) [y.val] H = some ((nearO y).val, H ++ [opB (nearO y)] ++ [opB (nearO y)]) := by
  have e0 : (Blk.cells (Value.cells y.val).toList 58 .fix) = opB y := rfl
  have get : ∀ (A Z : Blk), (H ++ [A] ++ [Z])[H.length]? = some A := fun A Z => by rw [List.getElem?_append_left (by simp)]; simp
  have hset : ∀ (A Z B : Blk), (H ++ [A] ++ [Z]).set H.length B = H ++ [B] ++ [Z] := fun A Z B => by simp
  have lenA : ∀ A : Blk, (H ++ [A]).length = H.length + 1 := fun A => by simp
  have hst1 : ∀ (u : ROp) (Z : Blk) (v : Int), stN 1 (.pointer (some ⟨H.length, 1, none⟩)) (.int .i64 v) (H ++ [opB u] ++ [Z]) = some (undef, H ++ [opB { u with i := v }] ++ [Z]) := fun u Z v => by
    rw [x_stN 1 _ _ _ rfl, get]
    unfold opB
    rw [x_stC _ _ _ _ _ _ (by decide) (by simp [ROp.len, Value.cells]) rfl, hset]
    rfl
  have hst2 : ∀ (u : ROp) (Z : Blk) (v : Int), stN 1 (.pointer (some ⟨H.length, 2, none⟩)) (.int .i64 v) (H ++ [opB u] ++ [Z]) = some (undef, H ++ [opB { u with o := v }] ++ [Z]) := fun u Z v => by
    rw [x_stN 1 _ _ _ rfl, get]
    unfold opB
    rw [x_stC _ _ _ _ _ _ (by decide) (by simp [ROp.len, Value.cells]) rfl, hset]
    rfl
  have hst3 : ∀ (u : ROp) (Z : Blk) (v : Int), stN 1 (.pointer (some ⟨H.length, 3, none⟩)) (.int .i64 v) (H ++ [opB u] ++ [Z]) = some (undef, H ++ [opB { u with l := v }] ++ [Z]) := fun u Z v => by
    rw [x_stN 1 _ _ _ rfl, get]
    unfold opB
    rw [x_stC _ _ _ _ _ _ (by decide) (by simp [ROp.len, Value.cells]) rfl, hset]
    rfl
  have hst9 : ∀ (u t : ROp) (zs : List Value), zs.length = 9 → stN 9 (.pointer (some ⟨H.length + 1, 0, none⟩)) t.val (H ++ [opB u] ++ [.cells zs 58 .fix]) = some (undef, H ++ [opB u] ++ [opB t]) := fun u t zs hz => by
    have := st_op (H ++ [opB u]) zs hz t []
    simpa using this
  have hl1 : ∀ (u : ROp) (Z : Blk), ldN 9 (.pointer (some ⟨H.length, 0, none⟩)) (H ++ [opB u] ++ [Z]) = some (u.val, H ++ [opB u] ++ [Z]) := fun u Z => ld_op9 (get _ _)
  have hl2 : ∀ (A : Blk) (u : ROp), ldN 9 (.pointer (some ⟨H.length + 1, 0, none⟩)) (H ++ [A] ++ [opB u]) = some (u.val, H ++ [A] ++ [opB u]) := fun A u => ld_op9 (by rw [← lenA A, x_last])
  have f4 : ∀ (u : ROp) (Z : Blk), ld1 (.pointer (some ⟨H.length, 4, none⟩)) (H ++ [opB u] ++ [Z]) = some (.bool u.nr, H ++ [opB u] ++ [Z]) := fun u Z => ld_opj (get _ _) 4 _ rfl
  have f1 : ∀ (u : ROp) (Z : Blk), ld1 (.pointer (some ⟨H.length, 1, none⟩)) (H ++ [opB u] ++ [Z]) = some (.int .i64 u.i, H ++ [opB u] ++ [Z]) := fun u Z => ld_opj (get _ _) 1 _ rfl
  have f2 : ∀ (u : ROp) (Z : Blk), ld1 (.pointer (some ⟨H.length, 2, none⟩)) (H ++ [opB u] ++ [Z]) = some (.int .i64 u.o, H ++ [opB u] ++ [Z]) := fun u Z => ld_opj (get _ _) 2 _ rfl
  have f3 : ∀ (u : ROp) (Z : Blk), ld1 (.pointer (some ⟨H.length, 3, none⟩)) (H ++ [opB u] ++ [Z]) = some (.int .i64 u.l, H ++ [opB u] ++ [Z]) := fun u Z => ld_opj (get _ _) 3 _ rfl
  have r3 : ∀ a : Int, bin Try.prog .rem 3 (.int .i64 (max a 0)) (.int .i64 3) = some (.int .i64 ((max a 0) % 3)) := fun a => by rw [b_rem _ _ _ _ (by omega), Int.tmod_eq_emod_of_nonneg (by omega)]
  have r2 : ∀ a : Int, bin Try.prog .rem 3 (.int .i64 (max a 0)) (.int .i64 2) = some (.int .i64 ((max a 0) % 2)) := fun a => by rw [b_rem _ _ _ _ (by omega), Int.tmod_eq_emod_of_nonneg (by omega)]
  refine lvl_at (flatPr_no rfl) (by omega) ?_
  rw [f34_eq]
  unfold f34 nearO
  by_cases hn : y.nr = true
  · rw [if_pos hn]
    simp -implicitDefEqProofs only [x_newB, e0, lenA, r_fAddr, Nat.zero_add, f4, hn, r_opt, ob_some, iteV_true, f1, f2, f3, maxI2, r3, r2, hst1, hst2, hst3, hl1, oneOf_one]
    rw [hst9 _ _ _ rfl]
    simp -implicitDefEqProofs only [ob_some, hl2, oneOf_one, hn]
  · rw [if_neg hn]
    have hf : y.nr = false := by simpa using hn
    simp -implicitDefEqProofs only [x_newB, e0, lenA, r_fAddr, Nat.zero_add, f4, hf, r_opt, ob_some, iteV_false, hl1, oneOf_one]
    rw [hst9 _ _ _ rfl]
    simp -implicitDefEqProofs only [ob_some, hl2, oneOf_one]

/-! packets held against each other -/

def pkEq (x y : Pkt) : Bool := (x.src == y.src) && ((x.dst == y.dst) && ((x.lane == y.lane) && ((x.body == y.body) && true)))
theorem pkEq_iff (x y : Pkt) : pkEq x y = true ↔ x = y := by
  obtain ⟨a, b, c, d⟩ := x
  obtain ⟨a', b', c', d'⟩ := y
  simp [pkEq]
theorem pkEq_self (x : Pkt) : pkEq x x = true := (pkEq_iff x x).mpr rfl
theorem kPk : kindsOf Try.prog 50 = some [true, true, true, true] := by kernel_rfl
theorem ePk (x y : Pkt) : bin Try.prog .eql 50 x.val y.val = some (.bool (pkEq x y)) := by
  simp [bin, Pkt.val, flat, eqAny, kPk, eqT, Pkt.cells, pkEq]
theorem nPk (x y : Pkt) : bin Try.prog .neq 50 x.val y.val = some (.bool (!pkEq x y)) := by
  simp [bin, Pkt.val, flat, eqAny, kPk, eqT, Pkt.cells, pkEq]

/-! the calls that come in -/

structure ROps (H : Heap) (v : Value) (b : Nat) (xs : List ROp) : Prop where
  sl : Sl H v 9 b (xs.map ROp.cells)
  ok : ∀ x ∈ xs, inR x ∧ x.kind < 256
  cap : xs.length ≤ 140737488355328

theorem Sl.ch {A : Blk → Prop} {H H' : Heap} {v : Value} {sz b : Nat} {rows : List (List Value)} (h : Sl H v sz b rows) (hc : Ch A H H') (hA : ∀ cs e, ¬ A (.cells cs e .ro)) : Sl H' v sz b rows :=
  ⟨h.len, h.at_, fun h0 => by
    obtain ⟨e, he⟩ := h.blk h0
    exact ⟨e, hc.2 _ _ he (hA _ _)⟩⟩
theorem ROps.ch {A : Blk → Prop} {H H' : Heap} {v : Value} {b : Nat} {xs : List ROp} (h : ROps H v b xs) (hc : Ch A H H') (hA : ∀ cs e, ¬ A (.cells cs e .ro)) : ROps H' v b xs := ⟨Sl.ch h.sl hc hA, h.ok, h.cap⟩
theorem ROps.len {H : Heap} {v : Value} {b : Nat} {xs : List ROp} (h : ROps H v b xs) : lenSl v = some (.int .i64 xs.length) := by
  have := h.sl.len
  rw [List.length_map] at this
  exact this

theorem ROps.of_rp {G : Heap} {n : Nat} {u : Value} (h : Rp Try.prog G n 56 [u]) : ∃ b xs, ROps G u b xs := by
  obtain ⟨m, u', b, rows, h0, hs, hf, hsh, hr⟩ := h.slice (e := 58) (by kernel_rfl)
  cases h0
  have c1 : Try.prog.cellsOf 58 = 9 := by kernel_rfl
  rw [c1] at hs hr
  have cU : Try.prog.cellsOf 5 = 1 := by kernel_rfl
  have cI : Try.prog.cellsOf 3 = 1 := by kernel_rfl
  have cB : Try.prog.cellsOf 4 = 1 := by kernel_rfl
  have cP : Try.prog.cellsOf 50 = 4 := by kernel_rfl
  have c32 : Try.prog.cellsOf 48 = 1 := by kernel_rfl
  have hb : ∃ xs : List ROp, rows = xs.map ROp.cells ∧ ∀ x ∈ xs, inR x ∧ x.kind < 256 := by
    clear hs hf hsh
    induction rows with
    | nil => exact ⟨[], rfl, by simp⟩
    | cons r rows ih =>
      obtain ⟨xs, hxs, hok⟩ := ih fun r hr' => hr r (by simp [hr'])
      obtain ⟨hl, hi⟩ := hr r (by simp)
      obtain ⟨k, _, hfs⟩ := hi.fields (l := [(5, 0), (3, 1), (3, 2), (3, 3), (4, 4), (50, 5)]) (by kernel_rfl)
      match r, hl, hfs with
      | [y0, y1, y2, y3, y4, y5, y6, y7, y8], _, hfs =>
        have h0 := hfs (5, 0) (by simp)
        have h1 := hfs (3, 1) (by simp)
        have h2 := hfs (3, 2) (by simp)
        have h3 := hfs (3, 3) (by simp)
        have h4 := hfs (4, 4) (by simp)
        have h5 := hfs (50, 5) (by simp)
        simp only [cU, cI, cB, cP, List.drop, List.take] at h0 h1 h2 h3 h4 h5
        obtain ⟨k', _, hgs⟩ := h5.fields (l := [(3, 0), (3, 1), (3, 2), (48, 3)]) (by kernel_rfl)
        have q0 := hgs (3, 0) (by simp)
        have q1 := hgs (3, 1) (by simp)
        have q2 := hgs (3, 2) (by simp)
        have q3 := hgs (48, 3) (by simp)
        simp only [cI, c32, List.drop, List.take] at q0 q1 q2 q3
        obtain ⟨i0, e0, w0⟩ := h0.int (k := .u8) (by kernel_rfl)
        obtain ⟨i1, e1, w1⟩ := h1.int (k := .i64) (by kernel_rfl)
        obtain ⟨i2, e2, w2⟩ := h2.int (k := .i64) (by kernel_rfl)
        obtain ⟨i3, e3, w3⟩ := h3.int (k := .i64) (by kernel_rfl)
        obtain ⟨i4, e4⟩ := h4.bool (by kernel_rfl)
        obtain ⟨j0, g0, _⟩ := q0.int (k := .i64) (by kernel_rfl)
        obtain ⟨j1, g1, _⟩ := q1.int (k := .i64) (by kernel_rfl)
        obtain ⟨j2, g2, _⟩ := q2.int (k := .i64) (by kernel_rfl)
        obtain ⟨j3, g3, _⟩ := q3.int (k := .u32) (by kernel_rfl)
        cases e0; cases e1; cases e2; cases e3; cases e4; cases g0; cases g1; cases g2; cases g3
        have p0 := wf_u8 w0
        refine ⟨⟨i0.toNat, i1, i2, i3, i4, ⟨j0, j1, j2, j3⟩⟩ :: xs, ?_, ?_⟩
        · rw [List.map_cons, hxs]
          congr 1
          unfold ROp.cells
          simp only
          rw [show ((i0.toNat : Nat) : Int) = i0 by omega]
        · intro x hx
          rcases List.mem_cons.mp hx with rfl | hx
          · exact ⟨⟨wf_i64 w1, wf_i64 w2, wf_i64 w3⟩, by simp only; omega⟩
          · exact hok x hx
  obtain ⟨xs, rfl, hok⟩ := hb
  have c2 : Try.prog.bytesOf 58 = 72 := by kernel_rfl
  have c3 : reachBytes = 140737488351232 := by decide
  rw [c2, c3, List.length_map] at hf
  exact ⟨b, xs, hs, hok, by omega⟩

/-! push and pop, whatever comes -/

section
variable {H : Heap} {a n ports lanes m : Nat} {L : List En}

theorem push_any (h : IsRings H a L n ports lanes) (hm : 100 < m) (w : Way) (x : Pkt) : ∃ H' L', lvl Try.prog pk8 m (.func 33) [.pointer (some ⟨a, 0, none⟩), .int .i64 w.1, .int .i64 w.2.1, .int .i64 w.2.2, x.val] H = some (.bool (valid w ports lanes && decide (L.length < n)), H') ∧ Ch AR H H' ∧ IsRings H' a L' n ports lanes ∧
    ((valid w ports lanes && decide (L.length < n)) = true ∧ (∃ k, L' = L ++ [(w, k, x)]) ∨ (valid w ports lanes && decide (L.length < n)) = false ∧ L' = L) := by
  by_cases hv : (valid w ports lanes && decide (L.length < n)) = true
  · rw [Bool.and_eq_true, decide_eq_true_eq] at hv
    obtain ⟨H', k, g1, g2, g3⟩ := rgPush_yes h hm w x hv.1 hv.2
    rw [hv.1, decide_eq_true hv.2]
    exact ⟨H', _, g1, g2, g3, .inl ⟨rfl, k, rfl⟩⟩
  · have hf : (valid w ports lanes && decide (L.length < n)) = false := by simpa using hv
    obtain ⟨H', g1, g2⟩ := rgPush_no h hm w x (by
      rw [Bool.and_eq_false_iff] at hf
      exact hf.imp id fun h => by have := of_decide_eq_false h; omega)
    rw [hf]
    have hc : Ch AR H H' := Ch.ext g2
    obtain ⟨p, s, mb, l, top, free, fl, f, hi⟩ := h
    exact ⟨H', L, g1, hc, ⟨p, s, mb, l, top, free, fl, f, hi.keep fun b x hx _ => by rw [g2.2 b (List.getElem?_eq_some_iff.mp hx).1 id, hx]⟩, .inr ⟨rfl, rfl⟩⟩

theorem IsRings.ext {H' : Heap} (h : IsRings H a L n ports lanes) (he : Ext H H') : IsRings H' a L n ports lanes := by
  obtain ⟨p, s, mb, l, top, free, fl, f, hi⟩ := h
  exact ⟨p, s, mb, l, top, free, fl, f, hi.keep fun b x hx _ => by rw [he.2 b (List.getElem?_eq_some_iff.mp hx).1 id, hx]⟩

theorem pop_any (h : IsRings H a L n ports lanes) (hm : 100 < m) (w : Way) : ∃ H', lvl Try.prog pk8 m (.func 35) [.pointer (some ⟨a, 0, none⟩), .int .i64 w.1, .int .i64 w.2.1, .int .i64 w.2.2] H = some (headV (pkOf L w), H') ∧ Ch AR H H' ∧ IsRings H' a (popL L w) n ports lanes := by
  cases hp : pkOf L w with
  | nil =>
    obtain ⟨H', g1, g2⟩ := rgPop_no h hm w.1 w.2.1 w.2.2 hp
    have hL : popL L w = L := by
      unfold popL
      apply List.eraseP_of_forall_not
      intro e he hd
      have : e ∈ L.filter fun e => decide (e.1 = w) := List.mem_filter.mpr ⟨he, hd⟩
      have hl : (pkOf L w).length = 0 := by rw [hp]; rfl
      unfold pkOf at hl
      rw [List.length_map] at hl
      rw [List.length_eq_zero_iff.mp hl] at this
      cases this
    rw [hL]
    exact ⟨H', g1, Ch.ext g2, h.ext g2⟩
  | cons x xs =>
    obtain ⟨H', g1, g2, g3⟩ := rgPop_yes h hm w.1 w.2.1 w.2.2 hp
    exact ⟨H', g1, g2, g3⟩
end

end Go.Proofs.Ytcmmlgdbpnogjaa
