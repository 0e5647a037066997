/-
  LINKS: a law's state: the calls that came in, the link, rows that were told.
-/
import Derived.Test.YtcmmlgdbpnogjaaAbsLkOps
set_option linter.unusedSimpArgs false
set_option linter.unusedVariables false
set_option maxRecDepth 100000
namespace Go.Proofs.Ytcmmlgdbpnogjaa
open Go.Abs

theorem bneq (a b : Bool) : bin Try.prog .neq 4 (.bool a) (.bool b) = some (.bool (a != b)) := by cases a <;> cases b <;> kernel_rfl
theorem beql (a b : Bool) : bin Try.prog .eql 4 (.bool a) (.bool b) = some (.bool (a == b)) := by cases a <;> cases b <;> kernel_rfl
theorem minI (a b : Int) : minmax Try.prog false [.int .i64 a, .int .i64 b] = some (.int .i64 (min a b)) := by
  simp [minmax, flat, purF, pur, Builtin.min_, Builtin.min2, pure, bind, Sem.bind]
  split <;> omega

theorem known_is (n : Nat) (hn : 0 < n) (H : Heap) : lvl Try.prog pk n (.func 16) [] H = some (.bool true, H) := flat_call (P := Try.prog) (ids := [16]) (g := 16) rfl hn H

structure St (F : Nat → Prop) (H H' : Heap) (F' : Nat → Prop) : Prop where
  fr : Fr F H H'
  up : ∀ b, F' b → F b ∨ H.length ≤ b

theorem St.refl (F : Nat → Prop) (H : Heap) : St F H H F := ⟨Fr.refl _ _, fun b h => .inl h⟩
theorem St.of_up {F : Nat → Prop} {H H' : Heap} (h : Fr F H H') : St F H H' (Up F H H') := ⟨h, fun b hb => hb.imp id (·.1)⟩
theorem St.trans {F F' F'' : Nat → Prop} {H H' H'' : Heap} (h : St F H H' F') (h' : St F' H' H'' F'') : St F H H'' F'' :=
  ⟨⟨Nat.le_trans h.fr.1 h'.fr.1, fun b hb hF => by
    rw [h'.fr.2 b (Nat.lt_of_lt_of_le hb h.fr.1) (fun hx => (h.up b hx).elim hF fun hy => by omega), h.fr.2 b hb hF]⟩, fun b hb => by
    rcases h'.up b hb with hx | hx
    · exact h.up b hx
    · exact .inr (Nat.le_trans h.fr.1 hx)⟩
theorem St.ext {F : Nat → Prop} {H H' : Heap} (h : Ext H H') : St F H H' F := ⟨h.fr, fun b h => .inl h⟩

/-- a row that was told -/
structure Kp (N : Nat) (F : Nat → Prop) (H : Heap) (w : Value) (bss : List (List UInt8)) (G : Nat → Prop) : Prop where
  row : RowL H w bss G
  apart : ∀ b, G b → ¬ F b
  far : ∀ b, G b → N ≤ b

theorem Kp.step {N : Nat} {F F' G : Nat → Prop} {H H' : Heap} {w : Value} {bss : List (List UInt8)} (h : Kp N F H w bss G) (hs : St F H H' F') : Kp N F' H' w bss G :=
  ⟨h.row.keep (fun b hb => hs.fr.2 b (h.row.lt b hb) (h.apart b hb)) hs.fr.1, fun b hb hF => (hs.up b hF).elim (h.apart b hb) fun hx => by have := h.row.lt b hb; omega, h.far⟩

structure Inv (N : Nat) (H : Heap) (v : Value) (b : Nat) (xs : List LOp) (a : Nat) (bss : List (List UInt8)) (room : Nat) (F : Nat → Prop) : Prop where
  ops : Ops N H v b xs
  lk : IsLink H a bss room F
  far : ∀ b, F b → N ≤ b
  len : N ≤ H.length
  small : ∀ x ∈ xs, x.b.length ≤ 3000

section
variable {N : Nat} {H H' : Heap} {v : Value} {b : Nat} {xs : List LOp} {a room : Nat} {bss bss' : List (List UInt8)} {F F' : Nat → Prop} {m : Nat}

theorem Inv.step (h : Inv N H v b xs a bss room F) (hs : St F H H' F') (hl : IsLink H' a bss' room F') : Inv N H' v b xs a bss' room F' :=
  ⟨h.ops.keep fun c hc => hs.fr.2 c (by have := h.len; omega) fun hF => by have := h.far c hF; omega, hl, fun b hb => (hs.up b hb).elim (h.far b) fun hx => by have := h.len; omega, by have := h.len; have := hs.fr.1; omega, h.small⟩

theorem Inv.all (h : Inv N H v b xs a bss room F) (hm : 100 ≤ m) :
    ∃ w H' G, lvl Try.prog pk m (.func 18) [.pointer (some ⟨a, 0, none⟩)] H = some (w, H') ∧ Ext H H' ∧ Inv N H' v b xs a bss room F ∧ Kp N F H' w bss G := by
  obtain ⟨w, H', g1, g2, g3⟩ := lall_ok (pr := pk) (flatPr_no rfl) (flatPr_no rfl) h.lk hm
  have hs : St F H H' F := St.ext g2
  refine ⟨w, H', _, g1, g2, h.step hs (h.lk.keep (fun b hb => g2.2 b (h.lk.lt b hb) id) g2.1), g3, fun b hb hF => ?_, fun b hb => ?_⟩
  · have := h.lk.lt b hF
    have := hb.1
    omega
  · have := h.len
    have := hb.1
    omega

theorem Inv.send (h : Inv N H v b xs a bss room F) (hm : 100 ≤ m) {i : Nat} {y : LOp} (hy : xs[i]? = some y) :
    ∃ H' F', lvl Try.prog pk m (.func 19) [.pointer (some ⟨a, 0, none⟩), y.bv] H = some (.bool (decide (bss.length < room)), H') ∧ St F H H' F' ∧ Inv N H' v b xs a (sent room bss y.b) room F' := by
  have hm' := List.mem_of_getElem? hy
  obtain ⟨H', g1, g2, g3⟩ := lsend_ok (pr := pk) (flatPr_no rfl) (flatPr_no rfl) h.lk hm (h.ops.ok y hm').br (by have := h.small y hm'; omega)
  exact ⟨H', _, g1, St.of_up g2, h.step (St.of_up g2) g3⟩

theorem Inv.take_no (h : Inv N H v b xs a bss room F) (hm : 100 ≤ m) (i : Int) (hi : i < 0 ∨ (bss.length : Int) ≤ i) :
    lvl Try.prog pk m (.func 20) [.pointer (some ⟨a, 0, none⟩), .int .i64 i] H = some (.tuple #[.slice none 0 0, .bool false], H) :=
  ltake_no (flatPr_no rfl) (flatPr_no rfl) h.lk hm i hi

theorem Inv.take_yes (h : Inv N H v b xs a bss room F) (hm : 100 ≤ m) (i : Nat) {bs : List UInt8} (hi : bss[i]? = some bs) :
    ∃ u H', lvl Try.prog pk m (.func 20) [.pointer (some ⟨a, 0, none⟩), .int .i64 i] H = some (.tuple #[u, .bool true], H') ∧ St F H H' F ∧ Inv N H' v b xs a (bss.eraseIdx i) room F ∧ Br H' u bs ∧ ∀ c, lies u c → F c ∧ c < H'.length := by
  obtain ⟨u, H', g1, g2, g3, g4, g5, g6⟩ := ltake_yes (pr := pk) (flatPr_no rfl) (flatPr_no rfl) (flatPr_no rfl) h.lk hm i hi
  have hs : St F H H' F := ⟨g2, fun b hb => .inl hb⟩
  refine ⟨u, H', g1, hs, h.step hs g3, g4.rd, fun c hc => ?_⟩
  obtain ⟨cs, hcs⟩ := g4.lt c hc
  exact ⟨g6 c hc, (List.getElem?_eq_some_iff.mp hcs).1⟩

theorem Inv.twice_no (h : Inv N H v b xs a bss room F) (hm : 100 ≤ m) (i : Int) (hi : i < 0 ∨ (bss.length : Int) ≤ i) :
    lvl Try.prog pk m (.func 21) [.pointer (some ⟨a, 0, none⟩), .int .i64 i] H = some (.bool false, H) :=
  ltwice_no (flatPr_no rfl) (flatPr_no rfl) h.lk hm i hi

theorem Inv.twice_yes (h : Inv N H v b xs a bss room F) (hm : 200 ≤ m) (i : Nat) {bs : List UInt8} (hi : bss[i]? = some bs) :
    ∃ H' F', lvl Try.prog pk m (.func 21) [.pointer (some ⟨a, 0, none⟩), .int .i64 i] H = some (.bool (decide (bss.length < room)), H') ∧ St F H H' F' ∧ Inv N H' v b xs a (sent room bss bs) room F' := by
  obtain ⟨H', g1, g2, g3⟩ := ltwice_yes (pr := pk) (flatPr_no rfl) (flatPr_no rfl) (flatPr_no rfl) (flatPr_no rfl) h.lk hm i hi
  exact ⟨H', _, g1, St.of_up g2, h.step (St.of_up g2) g3⟩

theorem Inv.bend_no (h : Inv N H v b xs a bss room F) (hm : 100 ≤ m) (i at_ : Int) (x : UInt8) (hi : i < 0 ∨ (bss.length : Int) ≤ i ∨ at_ < 0 ∨ x = 0 ∨ bss[i.toNat]? = some []) :
    lvl Try.prog pk m (.func 22) [.pointer (some ⟨a, 0, none⟩), .int .i64 i, .int .i64 at_, .int .u8 x.toNat] H = some (.bool false, H) :=
  lbend_no (flatPr_no rfl) (flatPr_no rfl) h.lk hm i at_ x hi

theorem Inv.bend_yes (h : Inv N H v b xs a bss room F) (hm : 100 ≤ m) (i at_ : Nat) (x : UInt8) {bs : List UInt8} (hi : bss[i]? = some bs) (hx : x ≠ 0) (hb : bs ≠ []) :
    ∃ H', lvl Try.prog pk m (.func 22) [.pointer (some ⟨a, 0, none⟩), .int .i64 i, .int .i64 at_, .int .u8 x.toNat] H = some (.bool true, H') ∧ St F H H' F ∧ Inv N H' v b xs a (bss.set i (bent bs at_ x)) room F := by
  obtain ⟨H', g1, g2, g3, g4⟩ := lbend_yes (pr := pk) (flatPr_no rfl) (flatPr_no rfl) h.lk hm i at_ x hi hx hb
  exact ⟨H', g1, ⟨g2, fun b hb => .inl hb⟩, h.step ⟨g2, fun b hb => .inl hb⟩ g3⟩

/-- a row that was told is written -/
theorem Inv.other (h : Inv N H v b xs a bss room F) {w : Value} {rows : List (List UInt8)} {G : Nat → Prop} (hk : Kp N F H w rows G) (hf : Fr G H H') : Inv N H' v b xs a bss room F :=
  ⟨h.ops.keep fun c hc => hf.2 c (by have := h.len; omega) fun hG => by have := hk.far c hG; omega, h.lk.keep (fun c hc => hf.2 c (h.lk.lt c hc) fun hG => hk.apart c hG hc) hf.1, h.far, by have := h.len; have := hf.1; omega, h.small⟩

/-- the beginning -/
theorem Inv.new (ho : Ops N H v b xs) (hN : N ≤ H.length) (hs : ∀ x ∈ xs, x.b.length ≤ 3000) (hm : 0 < m) (n : Nat) (hn : 1 ≤ n ∧ n ≤ 64) :
    ∃ H' F, lvl Try.prog pk m (.func 17) [.int .i64 n] H = some (.pointer (some ⟨H.length, 0, none⟩), H') ∧ Ext H H' ∧ Inv N H' v b xs H.length [] n F ∧ ∀ b, F b → H.length ≤ b := by
  obtain ⟨H', g1, g2, g3⟩ := lnew_ok (pr := pk) (flatPr_no rfl) hm n hn
  refine ⟨H', _, g1, g2, ⟨ho.keep fun c hc => g2.2 c (by omega) id, g3, fun b hb => ?_, by have := g2.1; omega, hs⟩, fun b hb => hb.1⟩
  have := hb.1
  omega

/-- what was sent -/
def senT (room : Nat) (xs : List LOp) (i : Nat) : List (List UInt8) := ((xs.map LOp.b).take i).take room

theorem sent_T {i : Nat} {y : LOp} (hy : xs[i]? = some y) : sent room (senT room xs i) y.b = senT room xs (i + 1) := by
  have hlt := (List.getElem?_eq_some_iff.mp hy).1
  have hm : (xs.map LOp.b)[i]? = some y.b := by rw [List.getElem?_map, hy]; rfl
  unfold sent senT
  simp only [List.take_take]
  by_cases h : i < room
  · have h1 : ((xs.map LOp.b).take (min room i)).length ≠ room := by simp; omega
    rw [if_neg h1, Nat.min_eq_right (by omega), Nat.min_eq_right (by omega), List.take_add_one, hm]
    rfl
  · have h1 : ((xs.map LOp.b).take (min room i)).length = room := by simp; omega
    rw [if_pos h1, Nat.min_eq_left (by omega), Nat.min_eq_left (by omega)]

theorem senT_len (i : Nat) (hi : i ≤ xs.length) : (senT room xs i).length = min i room := by
  unfold senT
  simp
  omega
end

end Go.Proofs.Ytcmmlgdbpnogjaa
