/-
  SLICES THAT GROW; SLICES OF BYTES; what a step leaves as it was.
-/
import Derived.Test.YtdobnaldfmpimaaAbsArg2
set_option linter.unusedSimpArgs false
set_option linter.unusedVariables false
namespace Go.Abs

/-- the block of a slice -/
def home (v : Value) (b : Nat) : Prop := ∃ o n c, v = .slice (some ⟨b, o, none⟩) n c

/-- a slice that may grow: how many, and its cells -/
def RowC (e : TypeId) (sz : Nat) (H : Heap) (v : Value) (n : Nat) (cs : List Value) : Prop :=
  cs.length = n * sz ∧ ((v = .slice none 0 0 ∧ n = 0) ∨ ∃ c cap rest, v = .slice (some ⟨c, 0, none⟩) n cap ∧ n ≤ cap ∧ rest.length = (cap - n) * sz ∧ H[c]? = some (.cells (cs ++ rest) e .row))

theorem setCells_mid : ∀ (new old pre post : List Value), old.length = new.length → setCells (pre ++ old ++ post) pre.length new = pre ++ new ++ post
  | [], old, pre, post, h => by
    have : old = [] := List.length_eq_zero_iff.mp h
    subst this
    rfl
  | a :: new, [], pre, post, h => by simp at h
  | a :: new, c :: old, pre, post, h => by
    simp only [setCells]
    have e1 : (pre ++ c :: old ++ post).set pre.length a = (pre ++ [a]) ++ old ++ post := by simp
    have := setCells_mid new old (pre ++ [a]) post (by simpa using h)
    rw [e1]
    simpa using this

theorem src_len {sz k : Nat} {w : Value} {H : Heap} {new : List Value} (h : srcCells sz w k H = some new) : new.length = k * sz := by
  unfold srcCells at h
  split at h
  · split at h
    · rename_i h0
      cases h
      simp [h0]
    · cases h
  · split at h
    · rename_i h0
      cases h
      simp [h0]
    split at h
    · split at h
      · cases h
        simp
        omega
      · cases h
    · cases h
  · split at h
    · rename_i s hc
      cases h
      have : (strBytes s).length = s.size := by unfold strBytes; rw [List.length_map]; rfl
      simp
      rw [hc.2]
      omega
    · cases h
  · cases h

theorem get_set_ne {H : Heap} {b c : Nat} {x : Blk} (h : b ≠ c) : (H.set c x)[b]? = H[b]? := List.getElem?_set_ne (Ne.symm h)

/-- append -/
theorem app_row {e : TypeId} {sz by' : Nat} {v w : Value} {H : Heap} {n k : Nat} {cs new : List Value} (h : RowC e sz H v n cs) (hs : srcLen w = some k) (hc : srcCells sz w k H = some new) (hr : roomy (n + k) by' = true) (ha : allCells new = true) (hsz : 0 < sz) :
    ∃ v' H', app e sz by' v w H = some (v', H') ∧ RowC e sz H' v' (n + k) (cs ++ new) ∧ H.length ≤ H'.length ∧ (∀ b, b < H.length → ¬ home v b → H'[b]? = H[b]?) ∧ (∀ b, home v' b → home v b ∨ (H.length ≤ b ∧ b < H'.length)) := by
  obtain ⟨hcs, h⟩ := h
  have hnl := src_len hc
  have hnil : new = [] ↔ k = 0 := by
    constructor
    · intro h
      subst h
      have h2 : k * sz = 0 := by rw [← hnl]; rfl
      rcases Nat.mul_eq_zero.mp h2 with h | h
      · exact h
      · omega
    · intro h
      subst h
      rw [Nat.zero_mul] at hnl
      exact List.length_eq_zero_iff.mp hnl
  rcases h with ⟨rfl, rfl⟩ | ⟨c, cap, rest, rfl, hcap, hrest, hb⟩
  · have : cs = [] := by rw [Nat.zero_mul] at hcs; exact List.length_eq_zero_iff.mp hcs
    subst this
    by_cases hk : k = 0
    · subst hk
      refine ⟨.slice none 0 0, H, ?_, ⟨by simp [hnil.mpr rfl], .inl ⟨rfl, rfl⟩⟩, Nat.le_refl _, fun _ _ _ => rfl, fun b hb => .inl hb⟩
      unfold app
      rw [hs]
      simp only
      rw [hc]
      simp
    · rw [Nat.zero_add] at hr
      refine ⟨.slice (some ⟨H.length, 0, none⟩) k k, H ++ [.cells new e .row], ?_, ⟨by simpa using hnl, .inr ⟨H.length, k, [], by simp, by omega, by simp, by simp⟩⟩, by simp, ?_, ?_⟩
      · unfold app
        rw [hs]
        simp only
        rw [hc]
        simp only
        rw [if_neg hk, if_pos hr]
      · intro b hlt _
        exact List.getElem?_append_left hlt
      · rintro b ⟨o, n', c', hv⟩
        cases hv
        exact .inr ⟨Nat.le_refl _, by simp⟩
  · have hlt := (List.getElem?_eq_some_iff.mp hb).1
    have htot : (cs ++ rest).length = cap * sz := by
      rw [List.length_append, hcs, hrest, ← Nat.add_mul]
      congr 1
      omega
    by_cases hroom : n + k ≤ cap
    · by_cases hk : k = 0
      · subst hk
        refine ⟨.slice (some ⟨c, 0, none⟩) n cap, H, ?_, ⟨by simp [hcs, hnil.mpr rfl], .inr ⟨c, cap, rest, rfl, hcap, hrest, by simpa [hnil.mpr rfl] using hb⟩⟩, Nat.le_refl _, fun _ _ _ => rfl, fun b hb => .inl hb⟩
        unfold app
        rw [hs]
        simp only
        rw [hc]
        simp only
        rw [hb]
        simp only
        rw [if_pos hroom, if_pos (hnil.mpr rfl)]
        simp
      · have hkr : k * sz ≤ rest.length := by
          rw [hrest]
          exact Nat.mul_le_mul_right _ (by omega)
        have hset : setCells (cs ++ rest) (0 + n * sz) new = cs ++ new ++ rest.drop (k * sz) := by
          have := setCells_mid new (rest.take (k * sz)) cs (rest.drop (k * sz)) (by rw [List.length_take, hnl]; omega)
          rw [List.append_assoc, List.take_append_drop] at this
          rw [Nat.zero_add, ← hcs, this]
        refine ⟨.slice (some ⟨c, 0, none⟩) (n + k) cap, H.set c (.cells (cs ++ new ++ rest.drop (k * sz)) e .row), ?_, ⟨by rw [List.length_append, hcs, hnl, Nat.add_mul], .inr ⟨c, cap, rest.drop (k * sz), rfl, hroom, ?_, by rw [List.getElem?_set_self hlt]⟩⟩, by simp, ?_, ?_⟩
        · unfold app
          rw [hs]
          simp only
          rw [hc]
          simp only
          rw [hb]
          simp only
          rw [if_pos hroom, if_neg (fun h => hk (hnil.mp h)), if_pos (And.intro (by decide) (And.intro (by rw [htot, Nat.zero_add, ← Nat.add_mul]; exact Nat.mul_le_mul_right _ hroom) ha)), hset]
        · rw [List.length_drop, hrest, ← Nat.sub_mul]
          congr 1
          omega
        · intro b hlt' hh
          exact get_set_ne (fun hx => hh ⟨0, n, cap, by rw [hx]⟩)
        · rintro b ⟨o, n', c', hv⟩
          cases hv
          exact .inl ⟨0, n, cap, rfl⟩
    · refine ⟨.slice (some ⟨H.length, 0, none⟩) (n + k) (n + k), H.set c .dead ++ [.cells (cs ++ new) e .row], ?_, ⟨by rw [List.length_append, hcs, hnl, Nat.add_mul], .inr ⟨H.length, n + k, [], rfl, Nat.le_refl _, by simp, by simp⟩⟩, by simp, ?_, ?_⟩
      · unfold app
        rw [hs]
        simp only
        rw [hc]
        simp only
        rw [hb]
        simp only
        rw [if_neg hroom, if_pos ⟨trivial, trivial, by rw [htot, Nat.zero_add]; exact Nat.mul_le_mul_right _ hcap, hr, ha⟩, List.drop_zero, ← hcs, List.take_left]
      · intro b hlt' hh
        rw [List.getElem?_append_left (by simpa using hlt')]
        exact get_set_ne (fun hx => hh ⟨0, n, cap, by rw [hx]⟩)
      · rintro b ⟨o, n', c', hv⟩
        cases hv
        exact .inr ⟨Nat.le_refl _, by simp⟩

section
variable {e : TypeId} {sz : Nat} {H : Heap} {v : Value} {n : Nat} {cs : List Value}

theorem RowC.nil (e : TypeId) (sz : Nat) (H : Heap) : RowC e sz H (.slice none 0 0) 0 [] := ⟨by simp, .inl ⟨rfl, rfl⟩⟩
theorem RowC.len (h : RowC e sz H v n cs) : lenSl v = some (.int .i64 n) := by
  rcases h with ⟨_, ⟨rfl, rfl⟩ | ⟨c, cap, rest, rfl, _⟩⟩ <;> rfl
theorem RowC.srcLen (h : RowC e sz H v n cs) : srcLen v = some n := by
  rcases h with ⟨_, ⟨rfl, rfl⟩ | ⟨c, cap, rest, rfl, _⟩⟩ <;> rfl
theorem RowC.keep {H' : Heap} (h : RowC e sz H v n cs) (hk : ∀ b, home v b → H'[b]? = H[b]?) : RowC e sz H' v n cs := by
  obtain ⟨hcs, h | ⟨c, cap, rest, rfl, h1, h2, h3⟩⟩ := h
  · exact ⟨hcs, .inl h⟩
  · exact ⟨hcs, .inr ⟨c, cap, rest, rfl, h1, h2, by rw [hk c ⟨0, n, cap, rfl⟩, h3]⟩⟩
theorem RowC.lt (h : RowC e sz H v n cs) : ∀ b, home v b → b < H.length := by
  rintro b ⟨o, n', c', hv⟩
  obtain ⟨hcs, ⟨rfl, rfl⟩ | ⟨c, cap, rest, rfl, h1, h2, h3⟩⟩ := h
  · cases hv
  · cases hv
    exact (List.getElem?_eq_some_iff.mp h3).1
/-- one element's cell -/
theorem RowC.at_ (h : RowC e sz H v n cs) (i : Nat) (k : IntKind) (hi : i < n) : ∃ b, iAddr sz v (.int k i) = some (.pointer (some ⟨b, i * sz, none⟩)) ∧ home v b ∧ ∀ (H' : Heap), H'[b]? = H[b]? → ∀ j, j < sz → ld1 (.pointer (some ⟨b, i * sz + j, none⟩)) H' = cellV cs[i * sz + j]? H' := by
  obtain ⟨hcs, ⟨rfl, rfl⟩ | ⟨c, cap, rest, rfl, h1, h2, h3⟩⟩ := h
  · omega
  · refine ⟨c, ?_, ⟨0, n, cap, rfl⟩, fun H' hH' j hj => ?_⟩
    · rw [r_iAddr _ _ _ _ _ _ _ (by omega) (by omega)]
      simp
    · have : i * sz + j < cs.length := by
        rw [hcs]
        calc i * sz + j < i * sz + sz := by omega
          _ = (i + 1) * sz := by rw [Nat.succ_mul]
          _ ≤ n * sz := Nat.mul_le_mul_right _ hi
      rw [x_ld1, hH', h3, x_ldC, List.getElem?_append_left this]
theorem RowC.src (h : RowC e sz H v n cs) : srcCells sz v n H = some cs := by
  obtain ⟨hcs, ⟨rfl, rfl⟩ | ⟨c, cap, rest, rfl, h1, h2, h3⟩⟩ := h
  · have : cs = [] := by rw [Nat.zero_mul] at hcs; exact List.length_eq_zero_iff.mp hcs
    subst this
    rfl
  · unfold srcCells
    by_cases h0 : n = 0
    · subst h0
      have : cs = [] := by rw [Nat.zero_mul] at hcs; exact List.length_eq_zero_iff.mp hcs
      simp [this]
    · simp only
      rw [if_neg h0, h3]
      simp only
      rw [if_pos ⟨Nat.le_refl _, by rw [List.length_append, hcs]; omega⟩, List.drop_zero, ← hcs, List.take_left]
end

/-! ### bytes -/

def byteV (b : UInt8) : Value := .int .u8 b.toNat

theorem bytesOf_map : ∀ bs : List UInt8, bytesOf (bs.map byteV) = some bs
  | [] => rfl
  | b :: bs => by
    have := bytesOf_map bs
    simp only [List.map_cons]
    rw [byteV, bytesOf, this]
    simp

theorem all_bytes (bs : List UInt8) : allCells (bs.map byteV) = true := by
  simp [allCells, byteV, Value.oneCell']

def lies (u : Value) (b : Nat) : Prop := ∃ o n c, u = .slice (some ⟨b, o, none⟩) (n + 1) c

/-- a slice of bytes that can be read -/
def Br (H : Heap) (u : Value) (bs : List UInt8) : Prop :=
  (bs = [] ∧ (u = .slice none 0 0 ∨ ∃ b o c, u = .slice (some ⟨b, o, none⟩) 0 c)) ∨
  ∃ b o c cs e k, u = .slice (some ⟨b, o, none⟩) bs.length c ∧ 0 < bs.length ∧ H[b]? = some (.cells cs e k) ∧ o + bs.length ≤ cs.length ∧ (cs.drop o).take bs.length = bs.map byteV

/-- a slice of bytes that has a block of its own -/
def Bo (e : TypeId) (H : Heap) (u : Value) (bs : List UInt8) : Prop :=
  (bs = [] ∧ (u = .slice none 0 0 ∨ ∃ b o c, u = .slice (some ⟨b, o, none⟩) 0 c)) ∨ ∃ b c rest, u = .slice (some ⟨b, 0, none⟩) bs.length c ∧ 0 < bs.length ∧ H[b]? = some (.cells (bs.map byteV ++ rest) e .row)

section
variable {H H' : Heap} {u : Value} {bs : List UInt8} {e : TypeId}

theorem Bo.rd (h : Bo e H u bs) : Br H u bs := by
  rcases h with h | ⟨b, c, rest, h1, h2, h3⟩
  · exact .inl h
  · refine .inr ⟨b, 0, c, _, e, .row, h1, h2, h3, by simp, ?_⟩
    have : bs.length = (bs.map byteV).length := by simp
    rw [List.drop_zero, this, List.take_left]

theorem Br.keep (h : Br H u bs) (hk : ∀ b, lies u b → H'[b]? = H[b]?) : Br H' u bs := by
  rcases h with h | ⟨b, o, c, cs, e, k, h1, h2, h3, h4⟩
  · exact .inl h
  · refine .inr ⟨b, o, c, cs, e, k, h1, h2, ?_, h4⟩
    rw [hk b ⟨o, bs.length - 1, c, by rw [h1]; congr 1; omega⟩, h3]

theorem Bo.keep (h : Bo e H u bs) (hk : ∀ b, lies u b → H'[b]? = H[b]?) : Bo e H' u bs := by
  rcases h with h | ⟨b, c, rest, h1, h2, h3⟩
  · exact .inl h
  · refine .inr ⟨b, c, rest, h1, h2, ?_⟩
    rw [hk b ⟨0, bs.length - 1, c, by rw [h1]; congr 1; omega⟩, h3]

theorem Bo.lt (h : Bo e H u bs) : ∀ b, lies u b → ∃ cs, H[b]? = some (.cells cs e .row) := by
  rintro b ⟨o, n, c, rfl⟩
  rcases h with ⟨_, h | ⟨_, _, _, h⟩⟩ | ⟨b', c', rest, h1, h2, h3⟩
  · cases h
  · cases h
  · injection h1 with h1 _ _
    injection h1 with h1
    injection h1 with h1
    subst h1
    exact ⟨_, h3⟩

theorem Br.len (h : Br H u bs) : lenSl u = some (.int .i64 bs.length) := by
  rcases h with ⟨rfl, rfl | ⟨b, o, c, rfl⟩⟩ | ⟨b, o, c, cs, e, k, rfl, _⟩ <;> rfl
theorem Br.srcLen (h : Br H u bs) : srcLen u = some bs.length := by
  rcases h with ⟨rfl, rfl | ⟨b, o, c, rfl⟩⟩ | ⟨b, o, c, cs, e, k, rfl, _⟩ <;> rfl
theorem Br.src (h : Br H u bs) : srcCells 1 u bs.length H = some (bs.map byteV) := by
  rcases h with ⟨rfl, rfl | ⟨b, o, c, rfl⟩⟩ | ⟨b, o, c, cs, e, k, rfl, h2, h3, h4, h5⟩
  · rfl
  · simp [srcCells]
  · unfold srcCells
    simp only
    rw [if_neg (by omega), h3]
    simp only
    rw [if_pos ⟨Nat.le_refl _, by omega⟩, Nat.mul_one, h5]
theorem Br.str (h : Br H u bs) : toStr u H = some (.string ⟨bs.toArray⟩, H) := by
  rcases h with ⟨rfl, rfl | ⟨b, o, c, rfl⟩⟩ | ⟨b, o, c, cs, e, k, rfl, h2, h3, h4, h5⟩
  · rfl
  · simp [toStr]; rfl
  · unfold toStr
    simp only
    rw [if_neg (by omega), h3]
    simp only
    rw [if_pos h4, h5, bytesOf_map]
theorem Br.isSl (h : Br H u bs) : u = .slice none 0 0 ∨ ∃ b o n c, u = .slice (some ⟨b, o, none⟩) n c := by
  rcases h with ⟨rfl, rfl | ⟨b, o, c, rfl⟩⟩ | ⟨b, o, c, cs, e, k, rfl, h2, h3, h4, h5⟩
  · exact .inl rfl
  · exact .inr ⟨_, _, _, _, rfl⟩
  · exact .inr ⟨_, _, _, _, rfl⟩
theorem Br.get (h : Br H u bs) {i : Nat} {x : UInt8} (hi : bs[i]? = some x) (k : IntKind) : ∃ b o, iAddr 1 u (.int k i) = some (.pointer (some ⟨b, o, none⟩)) ∧ ld1 (.pointer (some ⟨b, o, none⟩)) H = some (byteV x, H) := by
  have hlt := (List.getElem?_eq_some_iff.mp hi).1
  rcases h with ⟨rfl, _⟩ | ⟨b, o, c, cs, e, k', rfl, h2, h3, h4, h5⟩
  · simp at hi
  · refine ⟨b, o + i, ?_, ?_⟩
    · rw [r_iAddr _ _ _ _ _ _ _ (by omega) (by omega)]
      simp
    · have : cs[o + i]? = some (byteV x) := by
        have h6 : ((cs.drop o).take bs.length)[i]? = some (byteV x) := by rw [h5, List.getElem?_map, hi]; rfl
        rw [List.getElem?_take_of_lt hlt, List.getElem?_drop] at h6
        exact h6
      rw [x_ld1, h3, x_ldC, this, x_cell]
theorem Bo.set (h : Bo e H u bs) {i : Nat} (hi : i < bs.length) (k : IntKind) (x : UInt8) : ∃ b o H', iAddr 1 u (.int k i) = some (.pointer (some ⟨b, o, none⟩)) ∧ stN 1 (.pointer (some ⟨b, o, none⟩)) (byteV x) H = some (undef, H') ∧ Bo e H' u (bs.set i x) ∧ H'.length = H.length ∧ lies u b ∧ ∀ c, c ≠ b → H'[c]? = H[c]? := by
  rcases h with ⟨rfl, _⟩ | ⟨b, c, rest, rfl, h2, h3⟩
  · simp at hi
  · have hlt := (List.getElem?_eq_some_iff.mp h3).1
    have e1 : (bs.map byteV ++ rest).set i (byteV x) = (bs.set i x).map byteV ++ rest := by
      rw [List.set_append_left _ _ (by simpa using hi), List.map_set]
    refine ⟨b, i, H.set b (.cells ((bs.set i x).map byteV ++ rest) e .row), ?_, ?_, .inr ⟨b, c, rest, by simp, by simpa using h2, by rw [List.getElem?_set_self hlt]⟩, by simp, ⟨0, bs.length - 1, c, by congr 1; omega⟩, fun c hc => get_set_ne hc⟩
    · rw [r_iAddr _ _ _ _ _ _ _ (by omega) (by omega)]
      simp
    · rw [x_stN 1 b i (byteV x) rfl, h3]
      have : (byteV x).cells.toList = [byteV x] := rfl
      rw [this, x_stC _ _ _ _ _ _ (by decide) (by simp; omega) (by rfl)]
      simp only [setCells]
      rw [e1]
end

theorem b_strEq {P : Program} (t : TypeId) (a b : List UInt8) : bin P .eql t (.string ⟨a.toArray⟩) (.string ⟨b.toArray⟩) = some (.bool (a == b)) := by
  simp [bin, flat, purF, pur, binOp, Op.stringOp, pure, ByteArray.toList_eq]
theorem b_strNe {P : Program} (t : TypeId) (a b : List UInt8) : bin P .neq t (.string ⟨a.toArray⟩) (.string ⟨b.toArray⟩) = some (.bool (a != b)) := by
  simp [bin, flat, purF, pur, binOp, Op.stringOp, pure, ByteArray.toList_eq, bne]
theorem b_xor8 {P : Program} (t : TypeId) (a b : UInt8) : bin P .xor t (byteV a) (byteV b) = some (byteV (a ^^^ b)) := by
  have h : (BitVec.ofInt 8 (a.toNat : Int)) = a.toBitVec := by
    apply BitVec.eq_of_toNat_eq
    rw [BitVec.ofInt_natCast, BitVec.toNat_ofNat]
    have := a.toNat_lt
    simp
  have h' : (BitVec.ofInt 8 (b.toNat : Int)) = b.toBitVec := by
    apply BitVec.eq_of_toNat_eq
    rw [BitVec.ofInt_natCast, BitVec.toNat_ofNat]
    have := b.toNat_lt
    simp
  have e : IntKind.u8.wrap (((BitVec.ofInt 8 (a.toNat : Int)) ^^^ (BitVec.ofInt 8 (b.toNat : Int))).toNat : Int) = ((a ^^^ b).toNat : Int) := by
    rw [h, h', wrap_u8 (by omega) (by
      have := (a.toBitVec ^^^ b.toBitVec).isLt
      omega)]
    rfl
  simp only [bin, flat, purF, pur, binOp, Op.intBits, pure, byteV, Bool.and_self, if_true, ne_eq, not_true_eq_false, if_false, IntKind.bits]
  exact congrArg (fun z => some (Value.int .u8 z)) e

end Go.Abs
