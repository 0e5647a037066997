/-
  THE POOL: contracts.
-/
import Derived.Test.YtcmmlgdbpnogjaaAbsRings
import Derived.Test.YtcmmlgdbpnogjaaAbsSimp
set_option linter.unusedSectionVars false
set_option linter.unusedSimpArgs false
set_option linter.unusedVariables false
set_option maxRecDepth 100000
namespace Go.Proofs.Ytcmmlgdbpnogjaa
open Go.Abs

theorem n73 (a : Addr) : bin Try.prog .neq 98 (.pointer (some a)) (.pointer none) = some (.bool true) := x_neNil 98 97 (by kernel_rfl) a
theorem n73' : bin Try.prog .neq 98 (.pointer none) (.pointer none) = some (.bool false) := x_neNil0 98 97 (by kernel_rfl)
theorem e73 (a : Addr) : bin Try.prog .eql 98 (.pointer (some a)) (.pointer none) = some (.bool false) := x_eqNil 98 97 (by kernel_rfl) a
theorem e73' : bin Try.prog .eql 98 (.pointer none) (.pointer none) = some (.bool true) := x_eqNil0 98 97 (by kernel_rfl)
theorem e70 (a : Addr) : bin Try.prog .eql 95 (.pointer (some a)) (.pointer none) = some (.bool false) := x_eqNil 95 50 (by kernel_rfl) a
theorem e70' : bin Try.prog .eql 95 (.pointer none) (.pointer none) = some (.bool true) := x_eqNil0 95 50 (by kernel_rfl)
theorem e22 (a : Addr) : bin Try.prog .eql 75 (.pointer (some a)) (.pointer none) = some (.bool false) := x_eqNil 75 94 (by kernel_rfl) a
theorem e22' : bin Try.prog .eql 75 (.pointer none) (.pointer none) = some (.bool true) := x_eqNil0 75 94 (by kernel_rfl)

/-- a packet -/
structure Pkt where
  src : Int
  dst : Int
  lane : Int
  body : Int
def Pkt.cells (x : Pkt) : List Value := [.int .i64 x.src, .int .i64 x.dst, .int .i64 x.lane, .int .u32 x.body]
def Pkt.val (x : Pkt) : Value := .agg ⟨x.cells⟩
def pkB (x : Pkt) : Blk := .cells x.cells 50 .fix
def pk0 : Pkt := ⟨0, 0, 0, 0⟩

/-- a slot: the packet and where it lies; the next one -/
abbrev Slot := Option (Nat × Pkt) × Int
def slotP (x : Option (Nat × Pkt)) : Value := .pointer (x.map fun b => ⟨b.1, 0, none⟩)
def slotRow (x : Slot) : List Value := [slotP x.1, .int .i64 x.2]
def slotsB (l : List Slot) : Blk := .cells (l.map slotRow).flatten 97 .row
def poolB (s n : Nat) (top free : Int) : Blk := .cells [.slice (some ⟨s, 0, none⟩) n n, .int .i64 top, .int .i64 free] 94 .fix

structure IsPool (H : Heap) (p s : Nat) (l : List Slot) (top free : Int) : Prop where
  hp : H[p]? = some (poolB s l.length top free)
  hs : H[s]? = some (slotsB l)
  hq : ∀ (i q : Nat) (x : Pkt) (d : Int), l[i]? = some (some (q, x), d) → H[q]? = some (pkB x)

theorem slotRows (l : List Slot) : ∀ r ∈ l.map slotRow, r.length = 2 := by
  intro r hr
  simp only [List.mem_map] at hr
  obtain ⟨x, _, rfl⟩ := hr
  rfl

theorem slot_len (l : List Slot) : (l.map slotRow).flatten.length = l.length * 2 := by
  rw [flat_len _ (slotRows l)]
  simp

theorem slot_set (l : List Slot) (i j : Nat) (v : Value) (x y : Slot) (hi : l[i]? = some x) (hj : j < 2) (hv : (slotRow x).set j v = slotRow y) : (l.map slotRow).flatten.set (i * 2 + j) v = ((l.set i y).map slotRow).flatten := by
  have := flat_set (l.map slotRow) (slotRows l) i j [v] (slotRow x) (by simp [hi]) (by simp; omega)
  simp only [setCells] at this
  rw [this, hv, List.map_set]

variable {pr : Prims} {H : Heap} {p s : Nat} {l : List Slot} {top free : Int}

@[simp] theorem ld_slot0 (i : Nat) : ldC (some (slotsB l)) (i * 2) H = cellV ((l[i]?).map fun x => slotP x.1) H := by
  have := flat_get _ (slotRows l) i 0 (by decide)
  simp only [Nat.add_zero] at this
  unfold slotsB
  rw [x_ldC, this, List.getElem?_map]
  cases l[i]? <;> rfl
@[simp] theorem ld_slot1 (i : Nat) : ldC (some (slotsB l)) (i * 2 + 1) H = cellV ((l[i]?).map fun x => .int .i64 x.2) H := by
  have := flat_get _ (slotRows l) i 1 (by decide)
  unfold slotsB
  rw [x_ldC, this, List.getElem?_map]
  cases l[i]? <;> rfl
theorem st_slot0 (b i : Nat) (a : Option Addr) (x : Slot) (q : Option (Nat × Pkt)) (hi : l[i]? = some x) (hq : .pointer a = slotP q) : stC (some (slotsB l)) b (i * 2) [.pointer a] H = some (undef, H.set b (slotsB (l.set i (q, x.2)))) := by
  have hl : i < l.length := (List.getElem?_eq_some_iff.mp hi).1
  unfold slotsB
  rw [stC_row _ _ _ _ _ rfl (by rw [slot_len]; simp; omega)]
  have := slot_set l i 0 (.pointer a) x (q, x.2) hi (by decide) (by rw [hq]; rfl)
  simp only [setCells]
  rw [← this, Nat.add_zero]
theorem st_slot1 (b i : Nat) (d : Int) (x : Slot) (hi : l[i]? = some x) : stC (some (slotsB l)) b (i * 2 + 1) [.int .i64 d] H = some (undef, H.set b (slotsB (l.set i (x.1, d)))) := by
  have hl : i < l.length := (List.getElem?_eq_some_iff.mp hi).1
  unfold slotsB
  rw [stC_row _ _ _ _ _ rfl (by rw [slot_len]; simp; omega)]
  have := slot_set l i 1 (.int .i64 d) x (x.1, d) hi (by decide) (by rfl)
  simp only [setCells]
  rw [← this]
@[simp] theorem ld_pool0 (n : Nat) : ldC (some (poolB s n top free)) 0 H = some (.slice (some ⟨s, 0, none⟩) n n, H) := rfl
@[simp] theorem ld_pool1 (n : Nat) : ldC (some (poolB s n top free)) 1 H = some (.int .i64 top, H) := rfl
@[simp] theorem ld_pool2 (n : Nat) : ldC (some (poolB s n top free)) 2 H = some (.int .i64 free, H) := rfl
@[simp] theorem st_pool1 (b n : Nat) (d : Int) : stC (some (poolB s n top free)) b 1 [.int .i64 d] H = some (undef, H.set b (poolB s n d free)) := rfl
@[simp] theorem st_pool2 (b n : Nat) (d : Int) : stC (some (poolB s n top free)) b 2 [.int .i64 d] H = some (undef, H.set b (poolB s n top d)) := rfl
@[simp] theorem ldN_pk (x : Pkt) : ldNC (some (pkB x)) 4 0 H = some (x.val, H) := rfl
theorem st_pk (b : Nat) (y : Pkt) : stN 4 (.pointer (some ⟨b, 0, none⟩)) y.val H = stC H[b]? b 0 y.cells H := x_stN 4 b 0 _ rfl
@[simp] theorem stC_pk (b : Nat) (x y : Pkt) : stC (some (pkB x)) b 0 y.cells H = some (undef, H.set b (pkB y)) := rfl
theorem pkB_zero : Blk.cells [.int .i64 0, .int .i64 0, .int .i64 0, .int .u32 0] 50 .fix = pkB pk0 := rfl
theorem pk_bld : bld Try.prog 50 [] = some pk0.val := by kernel_rfl

theorem set_last (H : Heap) (a b : Blk) : (H ++ [a]).set H.length b = H ++ [b] := by simp

theorem at_no (hn : pr (.func 54) = none) (h : IsPool H p s l top free) {m : Nat} (hm : 0 < m) (i : Int) (hi : i < 0 ∨ (l.length : Int) ≤ i ∨ ∃ d, l[i.toNat]? = some (none, d)) :
    lvl Try.prog pr m (.func 54) [.pointer (some ⟨p, 0, none⟩), .int .i64 i] H = some (.pointer none, H) := by
  have hp := h.hp
  have hs := h.hs
  refine lvl_at hn hm ?_
  rw [f54_eq]
  unfold f54
  by_cases h0 : i < 0
  · simp -implicitDefEqProofs [h0]
  · by_cases h1 : (l.length : Int) ≤ i
    · simp -implicitDefEqProofs [h0, h1, hp, hs]
    · obtain ⟨d, hd⟩ : ∃ d, l[i.toNat]? = some (none, d) := by
        rcases hi with hi | hi | hi
        · exact absurd hi h0
        · exact absurd hi h1
        · exact hi
      simp -implicitDefEqProofs (disch := first | omega | simp) [-getElem?_pos, h0, h1, hp, hs, hd, slotP, e70']

theorem at_yes (hn : pr (.func 54) = none) (h : IsPool H p s l top free) {m : Nat} (hm : 0 < m) (i : Nat) (q : Nat × Pkt) (d : Int) (hi : l[i]? = some (some q, d)) :
    lvl Try.prog pr m (.func 54) [.pointer (some ⟨p, 0, none⟩), .int .i64 i] H = some (.pointer (some ⟨s, i * 2, none⟩), H) := by
  have hp := h.hp
  have hs := h.hs
  have hl : i < l.length := (List.getElem?_eq_some_iff.mp hi).1
  refine lvl_at hn hm ?_
  rw [f54_eq]
  unfold f54
  have h0 : ¬ (i : Int) < 0 := by omega
  have h1 : ¬ (l.length : Int) ≤ i := by omega
  simp -implicitDefEqProofs (disch := first | omega | simp) [-getElem?_pos, h0, h1, hp, hs, hi, slotP, e70]

theorem IsPool.app (h : IsPool H p s l top free) (G : Heap) : IsPool (H ++ G) p s l top free := by
  have up : ∀ (b : Nat) (x : Blk), H[b]? = some x → (H ++ G)[b]? = some x := fun b x hb => by
    rw [List.getElem?_append_left (List.getElem?_eq_some_iff.mp hb).1, hb]
  exact ⟨up _ _ h.hp, up _ _ h.hs, fun i q x d hi => up _ _ (h.hq i q x d hi)⟩

theorem get_no (hn : pr (.func 54) = none) (hn' : pr (.func 47) = none) (h : IsPool H p s l top free) {m : Nat} (hm : 1 < m) (i : Int) (hi : i < 0 ∨ (l.length : Int) ≤ i ∨ ∃ d, l[i.toNat]? = some (none, d)) :
    lvl Try.prog pr m (.func 47) [.pointer (some ⟨p, 0, none⟩), .int .i64 i] H = some (.tuple #[pk0.val, .bool false], H ++ [pkB pk0]) := by
  refine lvl_at hn' (by omega) ?_
  rw [f47_eq]
  unfold f47
  have hc := at_no hn (h.app [pkB pk0]) (m := m - 1) (by omega) i hi
  simp -implicitDefEqProofs [pkB_zero, hc, n73', pk_bld, st_pk, set_last]

theorem get_yes (hn : pr (.func 54) = none) (hn' : pr (.func 47) = none) (h : IsPool H p s l top free) {m : Nat} (hm : 1 < m) (i q : Nat) (x : Pkt) (d : Int) (hi : l[i]? = some (some (q, x), d)) :
    lvl Try.prog pr m (.func 47) [.pointer (some ⟨p, 0, none⟩), .int .i64 i] H = some (.tuple #[x.val, .bool true], H ++ [pkB x]) := by
  refine lvl_at hn' (by omega) ?_
  rw [f47_eq]
  unfold f47
  have h' := h.app [pkB pk0]
  have hc := at_yes hn h' (m := m - 1) (by omega) i _ d hi
  have hs := h'.hs
  have hq := h'.hq i q x d hi
  simp -implicitDefEqProofs [pkB_zero, hc, n73, hs, hq, hi, slotP, st_pk, set_last]

theorem IsPool.ps (h : IsPool H p s l top free) : p ≠ s := by
  intro e
  have h1 := h.hp
  have h2 := h.hs
  rw [e, h2] at h1
  simp [slotsB, poolB] at h1

theorem IsPool.pl (h : IsPool H p s l top free) : p < H.length := (List.getElem?_eq_some_iff.mp h.hp).1
theorem IsPool.sl (h : IsPool H p s l top free) : s < H.length := (List.getElem?_eq_some_iff.mp h.hs).1

theorem IsPool.qs (h : IsPool H p s l top free) {q : Nat} {x : Pkt} (hq : H[q]? = some (pkB x)) : q ≠ p ∧ q ≠ s := by
  constructor
  · intro e
    have h1 := h.hp
    rw [← e, hq] at h1
    simp [pkB, poolB] at h1
  · intro e
    have h1 := h.hs
    rw [← e, hq] at h1
    simp [pkB, slotsB] at h1

/-- a pool whose slots are turned -/
theorem IsPool.turn (h : IsPool H p s l top free) (l' : List Slot) (hl : l'.length = l.length) (top' free' : Int)
    (hq : ∀ (i q : Nat) (x : Pkt) (d : Int), l'[i]? = some (some (q, x), d) → H[q]? = some (pkB x)) : IsPool ((H.set s (slotsB l')).set p (poolB s l.length top' free')) p s l' top' free' := by
  have h1 := h.ps
  have h2 := h.pl
  have h3 := h.sl
  refine ⟨?_, ?_, ?_⟩
  · rw [hl, List.getElem?_set_self (by simpa using h2)]
  · rw [List.getElem?_set_ne (by omega), List.getElem?_set_self (by omega)]
  · intro i q x d hi
    have hb := hq i q x d hi
    obtain ⟨h4, h5⟩ := h.qs hb
    rw [List.getElem?_set_ne (by omega), List.getElem?_set_ne (by omega), hb]

theorem drop_no (hn : pr (.func 54) = none) (hn' : pr (.func 50) = none) (h : IsPool H p s l top free) {m : Nat} (hm : 1 < m) (i : Int) (hi : i < 0 ∨ (l.length : Int) ≤ i ∨ ∃ d, l[i.toNat]? = some (none, d)) :
    lvl Try.prog pr m (.func 50) [.pointer (some ⟨p, 0, none⟩), .int .i64 i] H = some (.bool false, H) := by
  refine lvl_at hn' (by omega) ?_
  rw [f50_eq]
  unfold f50
  have hc := at_no hn h (m := m - 1) (by omega) i hi
  simp -implicitDefEqProofs [hc, e73']

theorem drop_yes (hn : pr (.func 54) = none) (hn' : pr (.func 50) = none) (h : IsPool H p s l top free) {m : Nat} (hm : 1 < m) (i : Nat) (q : Nat × Pkt) (d : Int) (hi : l[i]? = some (some q, d)) (hf0 : 0 ≤ free) (hf1 : free < 1000) :
    lvl Try.prog pr m (.func 50) [.pointer (some ⟨p, 0, none⟩), .int .i64 i] H = some (.bool true, (H.set s (slotsB (l.set i (none, top)))).set p (poolB s l.length i (free + 1))) := by
  refine lvl_at hn' (by omega) ?_
  rw [f50_eq]
  unfold f50
  have hc := at_yes hn h (m := m - 1) (by omega) i q d hi
  have hp := h.hp
  have hs := h.hs
  have h1 := h.ps
  have h2 := h.pl
  have h3 := h.sl
  have hl : i < l.length := (List.getElem?_eq_some_iff.mp hi).1
  have w : IntKind.i64.wrap (free + 1) = free + 1 := wrap_i64 (by omega) (by omega)
  have s0 := fun H => st_slot0 (H := H) (l := l) s i none (some q, d) none hi rfl
  have s1 := fun H => st_slot1 (H := H) (l := l.set i (none, d)) s i top (none, d) (by simp [hl])
  simp -implicitDefEqProofs (disch := first | omega | (simp; omega)) only [hc, e73, hp, hs, s0, s1, w, b_add, List.set_set, ob_some, iteV_false, iteV_true, r_opt, r_nil, r_fAddr, x_ld1, ld_pool1, ld_pool2, st_int, st_ptr, Nat.zero_add, Nat.add_zero, List.getElem?_set_self, List.getElem?_set_ne, ne_eq, st_pool1, st_pool2, oneOf_one]

theorem put_no (hn : pr (.func 49) = none) (h : IsPool H p s l (-1) free) {m : Nat} (hm : 0 < m) (x : Pkt) :
    lvl Try.prog pr m (.func 49) [.pointer (some ⟨p, 0, none⟩), x.val] H = some (.tuple #[.int .i64 0, .bool false], H ++ [pkB x]) := by
  refine lvl_at hn (by omega) ?_
  rw [f49_eq]
  unfold f49
  have hp := (h.app [pkB x]).hp
  have e : Blk.cells (Value.cells x.val).toList 50 .fix = pkB x := rfl
  simp -implicitDefEqProofs [e, hp]

theorem put_yes (hn : pr (.func 49) = none) (k : Nat) (h : IsPool H p s l k free) {m : Nat} (hm : 0 < m) (x : Pkt) (q : Option (Nat × Pkt)) (d : Int) (hk : l[k]? = some (q, d)) (hf0 : -10 ≤ free) (hf1 : free < 1000) :
    lvl Try.prog pr m (.func 49) [.pointer (some ⟨p, 0, none⟩), x.val] H =
      some (.tuple #[.int .i64 k, .bool true], ((H ++ [pkB x]).set s (slotsB (l.set k (some (H.length, x), d)))).set p (poolB s l.length d (free - 1))) := by
  refine lvl_at hn (by omega) ?_
  rw [f49_eq]
  unfold f49
  have h' := h.app [pkB x]
  have hp := h'.hp
  have hs := h'.hs
  have h1 := h'.ps
  have h2 := h'.pl
  have h3 := h'.sl
  have h4 : p < H.length + 1 := by simpa using h2
  have h5 : s < H.length + 1 := by simpa using h3
  have hl : k < l.length := (List.getElem?_eq_some_iff.mp hk).1
  have w : IntKind.i64.wrap (free - 1) = free - 1 := wrap_i64 (by omega) (by omega)
  have e : Blk.cells (Value.cells x.val).toList 50 .fix = pkB x := rfl
  have e2 : ((k : Int) == -1) = false := by simp
  have e3 : ((l[k]?).map fun x => Value.int .i64 x.2) = some (.int .i64 d) := by rw [hk]; rfl
  have s0 := fun H' => st_slot0 (H := H') (l := l) s k (some ⟨H.length, 0, none⟩) (q, d) (some (H.length, x)) hk rfl
  simp -implicitDefEqProofs (disch := first | omega | (simp; omega)) only [e, e2, e3, hp, hs, s0, w, b_eql, b_sub, x_newB, List.set_set, ob_some, iteV_false, iteV_true, r_opt, r_nil, r_fAddr, r_iAddr, x_ld1, ld_pool0, ld_pool1, ld_pool2, ld_slot1, x_cell, st_int, st_ptr, Nat.zero_add, Nat.add_zero, List.getElem?_set_self, List.getElem?_set_ne, ne_eq, st_pool1, st_pool2, oneOf_two, Int.toNat_natCast]

def fresh (n i : Nat) : List Slot := (List.range n).map fun j => (none, if j < i then (j : Int) + 1 else 0)
def made (n : Nat) : List Slot := (List.range n).map fun j => (none, if j + 1 < n then (j : Int) + 1 else -1)

theorem fresh_get (n i j : Nat) (h : j < n) : (fresh n i)[j]? = some (none, if j < i then (j : Int) + 1 else 0) := by simp [fresh, h]
theorem fresh_set (n i : Nat) : (fresh n i).set i (none, (i : Int) + 1) = fresh n (i + 1) := by
  apply List.ext_getElem?
  intro j
  by_cases hj : j < n
  · by_cases e : i = j
    · subst e
      rw [List.getElem?_set_self (by simpa [fresh] using hj), fresh_get _ _ _ hj, if_pos (by omega)]
    · rw [List.getElem?_set_ne e, fresh_get _ _ _ hj, fresh_get _ _ _ hj]
      by_cases h : j < i
      · rw [if_pos h, if_pos (by omega)]
      · rw [if_neg h, if_neg (by omega)]
  · rw [List.getElem?_eq_none (by simp [fresh]; omega), List.getElem?_eq_none (by simp [fresh]; omega)]
theorem fresh_last (n : Nat) (h : 0 < n) : (fresh n n).set (n - 1) (none, -1) = made n := by
  apply List.ext_getElem?
  intro j
  by_cases hj : j < n
  · have e2 : (made n)[j]? = some (none, if j + 1 < n then (j : Int) + 1 else -1) := by simp [made, hj]
    by_cases e : n - 1 = j
    · subst e
      rw [List.getElem?_set_self (by simpa [fresh] using hj), e2, if_neg (by omega)]
    · rw [List.getElem?_set_ne e, fresh_get _ _ _ hj, e2, if_pos hj, if_pos (by omega)]
  · rw [List.getElem?_eq_none (by simp [fresh]; omega), List.getElem?_eq_none (by simp [made]; omega)]

def heapN (H : Heap) (l : List Slot) : Heap := H ++ [slotsB l, poolB H.length l.length 0 l.length]
theorem heapN_p (l : List Slot) : (heapN H l)[H.length + 1]? = some (poolB H.length l.length 0 l.length) := by simp [heapN]
theorem heapN_s (l : List Slot) : (heapN H l)[H.length]? = some (slotsB l) := by simp [heapN]
theorem heapN_set (l l' : List Slot) (h : l'.length = l.length) : (heapN H l).set H.length (slotsB l') = heapN H l' := by simp [heapN, h]

theorem new_loop (n : Nat) (h200 : n ≤ 200) (h1 : 0 < n) (O : Oracle) (L : Loops (Value × Heap)) : ∀ (r i m : Nat), n - i = r → i ≤ n → r < m → ∀ (x1 x2 x4 x5 x6 x7 x8 x9 x10 x11 x12 x13 x14 x15 x16 x17 x18 x19 x22 x23 x24 x25 x26 x27 x28 x29 x30 x31 x32 x33 x34 x35 x36 x37 x38 x39 x40 x41 x42 : Value),
    loopN m (runCode Try.prog O L f46_c0) (f46_k0 O L) [.int .i64 n, x1, x2, .pointer (some ⟨H.length + 1, 0, none⟩), x4, x5, x6, x7, x8, x9, x10, x11, x12, x13, x14, x15, x16, x17, x18, x19, .int .i64 n, .int .i64 i, x22, x23, x24, x25, x26, x27, x28, x29, x30, x31, x32, x33, x34, x35, x36, x37, x38, x39, x40, x41, x42] (heapN H (fresh n i)) = some (.pointer (some ⟨H.length + 1, 0, none⟩), heapN H (made n)) := by
  intro r
  induction r with
  | zero =>
    intro i m hr hi hm x1 x2 x4 x5 x6 x7 x8 x9 x10 x11 x12 x13 x14 x15 x16 x17 x18 x19 x22 x23 x24 x25 x26 x27 x28 x29 x30 x31 x32 x33 x34 x35 x36 x37 x38 x39 x40 x41 x42
    obtain ⟨m, rfl⟩ : ∃ k, m = k + 1 := ⟨m - 1, by omega⟩
    obtain rfl : i = n := by omega
    rw [loop_succ, f46_b0_eq]
    unfold f46_b0
    have e : decide ((i : Int) < i) = false := by simp
    have s1 := fun H' => st_slot1 (H := H') (l := fresh i i) H.length (i - 1) (-1) (none, ((i - 1 : Nat) : Int) + 1) (by rw [fresh_get _ _ _ (by omega), if_pos (by omega)])
    have w : IntKind.i64.wrap ((i : Int) - 1) = ((i - 1 : Nat) : Int) := by rw [wrap_i64 (by omega) (by omega)]; omega
    have hl : (fresh i i).length = i := by simp [fresh]
    simp -implicitDefEqProofs only [b_lss, e, r_opt, ob_some, iteV_false, again_exit]
    rw [f46_e0_0_eq]
    unfold f46_e0_0
    simp -implicitDefEqProofs (disch := first | omega | (simp [fresh]; omega) | simp [fresh, made]) only [r_opt, ob_some, r_nil, r_fAddr, x_ld1, heapN_p, ld_pool0, b_sub, w, r_iAddr, Nat.zero_add, Nat.add_zero, st_int, heapN_s, s1, Int.toNat_natCast, fresh_last, hl, heapN_set, oneOf_one]
  | succ r ih =>
    intro i m hr hi hm x1 x2 x4 x5 x6 x7 x8 x9 x10 x11 x12 x13 x14 x15 x16 x17 x18 x19 x22 x23 x24 x25 x26 x27 x28 x29 x30 x31 x32 x33 x34 x35 x36 x37 x38 x39 x40 x41 x42
    obtain ⟨m, rfl⟩ : ∃ k, m = k + 1 := ⟨m - 1, by omega⟩
    rw [loop_succ, f46_b0_eq]
    unfold f46_b0
    have e : decide ((i : Int) < n) = true := by simp; omega
    have s1 := fun H' => st_slot1 (H := H') (l := fresh n i) H.length i ((i : Int) + 1) (none, 0) (by rw [fresh_get _ _ _ (by omega), if_neg (by omega)])
    have w : IntKind.i64.wrap ((i : Int) + 1) = ((i + 1 : Nat) : Int) := by rw [wrap_i64 (by omega) (by omega)]; omega
    have w' : ((i + 1 : Nat) : Int) = (i : Int) + 1 := by omega
    have hl : (fresh n i).length = n := by simp [fresh]
    simp -implicitDefEqProofs (disch := first | omega | (simp [fresh]; omega) | simp [fresh]) only [b_lss, e, r_opt, ob_some, iteV_true, again_normal, r_nil, r_fAddr, x_ld1, heapN_p, ld_pool0, b_add, w, r_iAddr, Nat.zero_add, Nat.add_zero, st_int, heapN_s, w', s1, Int.toNat_natCast, fresh_set, hl, heapN_set, oneOf_one]
    rw [← w']
    exact ih (i + 1) m (by omega) (by omega) (by omega) _ _ _ _ _ _ _ _ _ _ _ _ _ _ _ _ _ _ _ _ _ _ _ _ _ _ _ _ _ _ _ _ _ _ _ _ _ _ _

theorem made_len (n : Nat) : (made n).length = n := by simp [made]
theorem made_get (n j : Nat) (h : j < n) : (made n)[j]? = some (none, if j + 1 < n then (j : Int) + 1 else -1) := by simp [made, h]

theorem new_ok (hn : pr (.func 46) = none) (n : Nat) (h1 : 0 < n) (h200 : n ≤ 200) {m : Nat} (hm : 210 < m) :
    lvl Try.prog pr m (.func 46) [.int .i64 n] H = some (.pointer (some ⟨H.length + 1, 0, none⟩), heapN H (made n)) := by
  refine lvl_at hn (by omega) ?_
  rw [f46_eq]
  unfold f46
  have e1 : decide ((n : Int) < 1) = false := by simp; omega
  have e2 : decide ((200 : Int) < n) = false := by simp; omega
  have e3 : bld Try.prog 94 [(0, .slice (some ⟨H.length, 0, none⟩) n n), (2, .int .i64 n)] = some (.agg #[.slice (some ⟨H.length, 0, none⟩) n n, .int .i64 0, .int .i64 n]) := by kernel_rfl
  have e4 : H ++ [Blk.cells (List.replicate n [.pointer none, .int .i64 0]).flatten 97 .row] ++ [Blk.cells [.slice (some ⟨H.length, 0, none⟩) n n, .int .i64 0, .int .i64 n] 94 .fix] = heapN H (fresh n 0) := by
    have : (fresh n 0).map slotRow = List.replicate n [.pointer none, .int .i64 0] := by
      apply List.ext_getElem?
      intro j
      by_cases hj : j < n
      · simp [fresh, hj, slotRow, slotP]
      · rw [List.getElem?_eq_none (by simp [fresh]; omega), List.getElem?_eq_none (by simp; omega)]
    have hl : (fresh n 0).length = n := by simp [fresh]
    simp [heapN, slotsB, this, poolB, hl]
  have e5 : (Value.agg #[Value.slice (some ⟨H.length, 0, none⟩) n n, .int .i64 0, .int .i64 n]).cells.toList = [Value.slice (some ⟨H.length, 0, none⟩) n n, .int .i64 0, .int .i64 n] := rfl
  have e6 : ∀ b c : Blk, (H ++ [b] ++ [c])[H.length + 1]? = some c := fun b c => by simp
  have hl : (fresh n 0).length = n := by simp [fresh]
  have ms := x_mkSlice (H := H) 97 2 16 [.pointer none, .int .i64 0] .i64 .i64 n (by omega) (by omega) (by omega) rfl
  rw [Int.toNat_natCast] at ms
  simp -implicitDefEqProofs (disch := first | omega | rfl) only [b_lss, b_gtr, e1, e2, r_opt, ob_some, r_gdff, r_ret, pick_f, iteV_false, ms, Int.toNat_natCast, e3, e5, x_newB, List.length_append, List.length_cons, List.length_nil, Nat.zero_add, r_nil, r_fAddr, x_ld1, e4, heapN_p, ld_pool0, hl, r_lenSl]
  exact new_loop n h200 h1 _ _ n 0 (m - 1) (by omega) (by omega) (by omega) ..

theorem new_no (hn : pr (.func 46) = none) (n : Int) (h : n < 1 ∨ 200 < n) {m : Nat} (hm : 0 < m) :
    lvl Try.prog pr m (.func 46) [.int .i64 n] H = some (.pointer none, H) := by
  refine lvl_at hn (by omega) ?_
  rw [f46_eq]
  unfold f46
  by_cases e1 : n < 1
  · simp -implicitDefEqProofs [e1]
  · have e2 : 200 < n := by omega
    simp -implicitDefEqProofs [e1, e2]

theorem made_pool (n : Nat) : IsPool (heapN H (made n)) (H.length + 1) H.length (made n) 0 n := by
  refine ⟨?_, heapN_s _, fun i q x d hi => ?_⟩
  · rw [heapN_p, made_len]
  · by_cases hl : i < n
    · rw [made_get n i hl] at hi
      simp at hi
    · rw [List.getElem?_eq_none (by simp [made]; omega)] at hi
      cases hi

end Go.Proofs.Ytcmmlgdbpnogjaa
