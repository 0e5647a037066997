/-
  LINKS: the calls that come in; heavy.
-/
import Derived.Test.YtcmmlgdbpnogjaaAbsLk2
import Derived.Test.YtcmmlgdbpnogjaaAbsArg3
set_option linter.unusedSimpArgs false
set_option linter.unusedVariables false
set_option maxRecDepth 100000
namespace Go.Proofs.Ytcmmlgdbpnogjaa
open Go.Abs

abbrev pk : Prims := flatPr [16]

theorem known_ok : PrimsOk Try.prog pk := flatPr_ok (by kernel_rfl) fun g hg => by
  simp at hg
  subst hg
  exact ⟨60, by kernel_rfl⟩
theorem mix : Try.prog.follows .mixedOrders = true := by kernel_rfl

/-- a call -/
structure LOp where
  kind : Nat
  bv : Value
  b : List UInt8
  i : Int
  at_ : Int
  x : UInt8
def LOp.cells (o : LOp) : List Value := [.int .u8 o.kind, o.bv, .int .i64 o.i, .int .i64 o.at_, .int .u8 o.x.toNat]

structure LOp.Ok (N : Nat) (H : Heap) (o : LOp) : Prop where
  br : Br H o.bv o.b
  old : ∀ c, lies o.bv c → c < N
  kind : o.kind < 256
  i : -9223372036854775808 ≤ o.i ∧ o.i < 9223372036854775808
  at_ : -9223372036854775808 ≤ o.at_ ∧ o.at_ < 9223372036854775808
  fit : o.b.length ≤ 140737488355328

structure Ops (N : Nat) (H : Heap) (v : Value) (b : Nat) (xs : List LOp) : Prop where
  sl : Sl H v 5 b (xs.map LOp.cells)
  lt : 0 < xs.length → b < N
  ok : ∀ x ∈ xs, x.Ok N H
  cap : xs.length ≤ 140737488355328

theorem LOp.Ok.keep {N : Nat} {H H' : Heap} {o : LOp} (h : o.Ok N H) (hk : ∀ c, c < N → H'[c]? = H[c]?) : o.Ok N H' :=
  ⟨h.br.keep fun b hl => hk b (h.old b hl), h.old, h.kind, h.i, h.at_, h.fit⟩
theorem Ops.keep {N : Nat} {H H' : Heap} {v : Value} {b : Nat} {xs : List LOp} (h : Ops N H v b xs) (hk : ∀ c, c < N → H'[c]? = H[c]?) : Ops N H' v b xs :=
  ⟨⟨h.sl.len, h.sl.at_, fun h0 => by
    obtain ⟨e, he⟩ := h.sl.blk h0
    exact ⟨e, by rw [hk b (h.lt (by simpa using h0)), he]⟩⟩, h.lt, fun x hx => (h.ok x hx).keep hk, h.cap⟩

theorem Br.of_rp {G : Heap} {n : Nat} {cs : List Value} (h : Rp Try.prog G n 29 cs) : ∃ bv bs, cs = [bv] ∧ Br G bv bs ∧ bs.length ≤ 140737488355328 ∧ ∀ c, lies bv c → c < G.length := by
  obtain ⟨m, u, b, rows, rfl, hs, hf, hsh, hr⟩ := h.slice (e := 5) (by kernel_rfl)
  have c1 : Try.prog.cellsOf 5 = 1 := by kernel_rfl
  have c2 : Try.prog.bytesOf 5 = 1 := by kernel_rfl
  rw [c1] at hs hr
  rw [c2, Nat.mul_one] at hf
  have hb : ∃ bs : List UInt8, rows = bs.map fun x => [byteV x] := by
    clear hs hf hsh
    induction rows with
    | nil => exact ⟨[], rfl⟩
    | cons r rows ih =>
      obtain ⟨bs, hbs⟩ := ih fun r hr' => hr r (by simp [hr'])
      obtain ⟨hl, hi⟩ := hr r (by simp)
      obtain ⟨i, rfl, hw⟩ := hi.int (k := .u8) (by kernel_rfl)
      have := wf_u8 hw
      refine ⟨UInt8.ofNat i.toNat :: bs, ?_⟩
      rw [List.map_cons, hbs]
      congr 2
      unfold byteV
      congr 1
      rw [UInt8.toNat_ofNat']
      omega
  obtain ⟨bs, rfl⟩ := hb
  have hfl : (bs.map fun x => [byteV x]).flatten = bs.map byteV := by
    clear hs hf hsh hr
    induction bs with
    | nil => rfl
    | cons a bs ih => simp [ih]
  rw [List.length_map] at hf hsh
  have hreach : bs.length ≤ 140737488355328 := Nat.le_trans hf (by decide)
  refine ⟨u, bs, rfl, ?_, hreach, ?_⟩
  · by_cases h0 : bs.length = 0
    · refine .inl ⟨List.length_eq_zero_iff.mp h0, ?_⟩
      rcases hsh with h | ⟨c, k, h⟩
      · exact .inl h
      · exact .inr ⟨c, 0, k, by rw [h, h0]⟩
    · obtain ⟨e, he⟩ := hs.blk (by rw [List.length_map]; omega)
      have hat := hs.at_ 0 .i64 (by rw [List.length_map]; omega)
      rcases hsh with rfl | ⟨c, k, rfl⟩
      · cases hat
      · rw [r_iAddr _ _ _ _ _ _ _ (by omega) (by omega)] at hat
        simp at hat
        subst hat
        refine .inr ⟨c, 0, k, _, e, .ro, rfl, by omega, he, ?_, ?_⟩
        · rw [hfl, List.length_map]; omega
        · rw [hfl, List.drop_zero, List.take_of_length_le (by simp)]
  · rintro c ⟨o, n', k', rfl⟩
    have hlen := hs.len
    rw [List.length_map] at hlen
    simp [lenSl] at hlen
    obtain ⟨e, he⟩ := hs.blk (by rw [List.length_map]; omega)
    have hat := hs.at_ 0 .i64 (by rw [List.length_map]; omega)
    rw [r_iAddr _ _ _ _ _ _ _ (by omega) (by omega)] at hat
    simp at hat
    rw [hat.1]
    exact (List.getElem?_eq_some_iff.mp he).1

theorem Ops.of_rp {G : Heap} {n : Nat} {u : Value} (h : Rp Try.prog G n 22 [u]) : ∃ b xs, Ops G.length G u b xs := by
  obtain ⟨m, u', b, rows, h0, hs, hf, hsh, hr⟩ := h.slice (e := 31) (by kernel_rfl)
  cases h0
  have c1 : Try.prog.cellsOf 31 = 5 := by kernel_rfl
  rw [c1] at hs hr
  have cB : Try.prog.cellsOf 29 = 1 := by kernel_rfl
  have cU : Try.prog.cellsOf 5 = 1 := by kernel_rfl
  have cI : Try.prog.cellsOf 3 = 1 := by kernel_rfl
  have hb : ∃ xs : List LOp, rows = xs.map LOp.cells ∧ ∀ x ∈ xs, x.Ok G.length G := by
    clear hs hf hsh
    induction rows with
    | nil => exact ⟨[], rfl, by simp⟩
    | cons r rows ih =>
      obtain ⟨xs, hxs, hok⟩ := ih fun r hr' => hr r (by simp [hr'])
      obtain ⟨hl, hi⟩ := hr r (by simp)
      obtain ⟨k, _, hfs⟩ := hi.fields (l := [(5, 0), (29, 1), (3, 2), (3, 3), (5, 4)]) (by kernel_rfl)
      match r, hl, hfs with
      | [y0, y1, y2, y3, y4], _, hfs =>
        have h0 := hfs (5, 0) (by simp)
        have h1 := hfs (29, 1) (by simp)
        have h2 := hfs (3, 2) (by simp)
        have h3 := hfs (3, 3) (by simp)
        have h4 := hfs (5, 4) (by simp)
        simp only [cU, cB, cI, List.drop, List.take] at h0 h1 h2 h3 h4
        obtain ⟨i0, e0, w0⟩ := h0.int (k := .u8) (by kernel_rfl)
        obtain ⟨bv, bs, e1, br, hbl, hold⟩ := Br.of_rp h1
        obtain ⟨i2, e2, w2⟩ := h2.int (k := .i64) (by kernel_rfl)
        obtain ⟨i3, e3, w3⟩ := h3.int (k := .i64) (by kernel_rfl)
        obtain ⟨i4, e4, w4⟩ := h4.int (k := .u8) (by kernel_rfl)
        cases e0; cases e1; cases e2; cases e3; cases e4
        have q0 := wf_u8 w0
        have q4 := wf_u8 w4
        refine ⟨⟨i0.toNat, y1, bs, i2, i3, UInt8.ofNat i4.toNat⟩ :: xs, ?_, ?_⟩
        · rw [List.map_cons, hxs]
          congr 1
          unfold LOp.cells
          simp only
          rw [UInt8.toNat_ofNat', show ((i0.toNat : Nat) : Int) = i0 by omega, show ((i4.toNat % 2 ^ 8 : Nat) : Int) = i4 by omega]
        · intro x hx
          rcases List.mem_cons.mp hx with rfl | hx
          · exact ⟨br, hold, by simp only; omega, wf_i64 w2, wf_i64 w3, hbl⟩
          · exact hok x hx
  obtain ⟨xs, rfl, hok⟩ := hb
  have c2 : Try.prog.bytesOf 31 = 56 := by kernel_rfl
  have c3 : reachBytes = 140737488351232 := by decide
  rw [c2, c3, List.length_map] at hf
  refine ⟨b, xs, hs, fun h0 => ?_, hok, by omega⟩
  obtain ⟨e, he⟩ := hs.blk (by simpa using h0)
  exact (List.getElem?_eq_some_iff.mp he).1

/-! ### heavy -/

def hsum (n : Int) (xs : List LOp) : Int := xs.foldl (fun n x => IntKind.i64.wrap (n + x.b.length)) n
def hvy (xs : List LOp) : Bool := decide (100 < xs.length) || decide (3000 < hsum 0 xs)

theorem LOp.len (x : LOp) : x.cells.length = 5 := rfl

section
variable {N : Nat} {H : Heap} {v : Value} {b : Nat} {xs : List LOp} {pr : Prims} {m : Nat}

theorem Ops.len (h : Ops N H v b xs) : lenSl v = some (.int .i64 xs.length) := by
  have := h.sl.len
  rw [List.length_map] at this
  exact this

theorem heavy_loop (h : Ops N H v b xs) : ∀ (r i k : Nat) (n : Int), xs.length - i = r → i ≤ xs.length → r < k → xs.length < 9223372036854775807 → ∀ (x1 x2 x5 x6 x7 x8 x9 x10 x11 x12 x13 x14 x15 x16 x17 x18 x19 x20 x21 x22 x23 x24 x25 : Value),
    loopN k (runCode Try.prog (lvl Try.prog pr m) (loopN m) f15_c0) (f15_k0 (lvl Try.prog pr m) (loopN m)) [v, x1, x2, (.int .i64 n), (.int .i64 (i : Nat)), x5, x6, x7, x8, x9, x10, x11, x12, x13, x14, x15, x16, x17, x18, x19, x20, x21, x22, x23, x24, x25] H = some (.bool (decide (100 < xs.length) || decide (3000 < hsum n (xs.drop i))), H) := by
  intro r
  have hlen := h.len
  induction r with
  | zero =>
    intro i k n hr hi hk hx
    intros
    obtain ⟨k, rfl⟩ : ∃ n, k = n + 1 := ⟨k - 1, by omega⟩
    obtain rfl : i = xs.length := by omega
    have e : decide ((xs.length : Int) < xs.length) = false := by simp
    rw [loop_succ, f15_b0_eq]
    unfold f15_b0
    simp -implicitDefEqProofs only [hlen, b_lss, e, r_opt, ob_some, iteV_false, again_exit]
    rw [f15_e0_0_eq]
    unfold f15_e0_0
    rw [List.drop_length]
    by_cases h1 : 100 < xs.length
    · have e1 : decide (100 < (xs.length : Int)) = true := decide_eq_true (by omega)
      simp -implicitDefEqProofs only [hlen, b_gtr, e1, r_opt, r_ret, ob_some, r_gdtf, r_gdtf2, r_gdu, pick_t, oneOf_one, decide_eq_true h1, Bool.true_or]
    · have e1 : decide (100 < (xs.length : Int)) = false := decide_eq_false (by omega)
      simp -implicitDefEqProofs only [hlen, b_gtr, e1, r_opt, r_ret, ob_some, r_gdff, r_gdff2, r_gdu, pick_f, oneOf_one, decide_eq_false h1, Bool.false_or]
      rfl
  | succ r ih =>
    intro i k n hr hi hk hx
    intros
    obtain ⟨k, rfl⟩ : ∃ n, k = n + 1 := ⟨k - 1, by omega⟩
    have e : decide ((i : Int) < xs.length) = true := by simp; omega
    obtain ⟨y, hy⟩ : ∃ y, xs[i]? = some y := ⟨xs[i], List.getElem?_eq_getElem (by omega)⟩
    have hat := h.sl.at_ i .i64 (by rw [List.length_map]; omega)
    have hld := h.sl.ld1 (el := LOp.cells) LOp.len (j := 1) hy rfl
    have hbl := (h.ok y (List.mem_of_getElem? hy)).br.len
    have e3 : IntKind.i64.wrap ((i : Int) + 1) = ((i + 1 : Nat) : Int) := by rw [wrap_i64 (by omega) (by omega)]; omega
    have hd : xs.drop i = y :: xs.drop (i + 1) := by
      rw [← List.getElem_cons_drop (h := by omega)]
      congr 1
      have := (List.getElem?_eq_some_iff.mp hy).2
      exact this
    rw [loop_succ, f15_b0_eq]
    unfold f15_b0
    simp -implicitDefEqProofs only [hlen, b_lss, e, r_opt, ob_some, iteV_true, hat, r_fAddr, hld, hbl, b_add, e3, again_normal]
    rw [hd]
    exact ih (i + 1) k (IntKind.i64.wrap (n + y.b.length)) (by omega) (by omega) (by omega) hx ..

theorem heavy_is (hn : pr (.func 15) = none) (h : Ops N H v b xs) (hm : xs.length + 1 < m) : lvl Try.prog pr m (.func 15) [v] H = some (.bool (hvy xs), H) := by
  refine lvl_at hn (by omega) ?_
  rw [f15_eq]
  unfold f15
  have := heavy_loop (pr := pr) (m := m - 1) h xs.length 0 (m - 1) 0 (by omega) (by omega) (by omega) (by have := h.cap; omega) undef (.bool false) undef undef undef undef undef undef undef undef undef undef undef undef undef undef undef undef undef undef undef undef undef
  exact this

theorem hvy_no (h : Ops N H v b xs) (hh : hvy xs = false) : xs.length ≤ 100 ∧ ∀ x ∈ xs, x.b.length ≤ 3000 := by
  unfold hvy at hh
  rw [Bool.or_eq_false_iff] at hh
  have h1 : xs.length ≤ 100 := by have := of_decide_eq_false hh.1; omega
  have h2 : hsum 0 xs ≤ 3000 := by have := of_decide_eq_false hh.2; omega
  refine ⟨h1, ?_⟩
  have gen : ∀ (xs : List LOp) (n : Nat), (∀ x ∈ xs, x.b.length ≤ 140737488355328) → n + xs.length * 140737488355328 < 9223372036854775808 → (n : Int) ≤ hsum n xs ∧ ∀ x ∈ xs, (n : Int) + x.b.length ≤ hsum n xs := by
    intro xs
    induction xs with
    | nil => intro n _ _; exact ⟨Int.le_refl _, by simp⟩
    | cons x xs ih =>
      intro n hf hs
      have hx := hf x (by simp)
      simp only [List.length_cons] at hs
      have e : IntKind.i64.wrap ((n : Int) + x.b.length) = ((n + x.b.length : Nat) : Int) := by rw [wrap_i64 (by omega) (by omega)]; omega
      obtain ⟨q1, q2⟩ := ih (n + x.b.length) (fun y hy => hf y (by simp [hy])) (by omega)
      have e2 : hsum n (x :: xs) = hsum ((n + x.b.length : Nat) : Int) xs := by unfold hsum; rw [List.foldl_cons, e]
      rw [e2]
      refine ⟨by omega, fun y hy => ?_⟩
      rcases List.mem_cons.mp hy with rfl | hy
      · omega
      · have := q2 y hy
        omega
  intro x hx
  have := (gen xs 0 (fun x hx => (h.ok x hx).fit) (by omega)).2 x hx
  have e0 : hsum ((0 : Nat) : Int) xs = hsum 0 xs := rfl
  omega
end

end Go.Proofs.Ytcmmlgdbpnogjaa
