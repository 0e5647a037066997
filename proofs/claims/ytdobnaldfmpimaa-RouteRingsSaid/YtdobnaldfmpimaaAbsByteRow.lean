/-
  ROWS OF SLICES OF BYTES, each with a block of its own; what a step leaves as it was.
-/
import Derived.Test.YtdobnaldfmpimaaAbsApp
set_option linter.unusedSimpArgs false
set_option linter.unusedVariables false
namespace Go.Abs

/-- blocks outside F are as they were -/
def Fr (F : Nat → Prop) (H H' : Heap) : Prop := H.length ≤ H'.length ∧ ∀ b, b < H.length → ¬ F b → H'[b]? = H[b]?
def Up (F : Nat → Prop) (H H' : Heap) : Nat → Prop := fun b => F b ∨ (H.length ≤ b ∧ b < H'.length)
/-- new blocks alone -/
abbrev Nw (H H' : Heap) : Nat → Prop := fun b => H.length ≤ b ∧ b < H'.length
abbrev Ext (H H' : Heap) : Prop := Fr (fun _ => False) H H'

section
variable {F G : Nat → Prop} {H H' H'' : Heap}
theorem Fr.refl (F : Nat → Prop) (H : Heap) : Fr F H H := ⟨Nat.le_refl _, fun _ _ _ => rfl⟩
theorem Fr.trans (h : Fr F H H') (h' : Fr (Up F H H') H' H'') : Fr F H H'' :=
  ⟨Nat.le_trans h.1 h'.1, fun b hb hF => by
    rw [h'.2 b (Nat.lt_of_lt_of_le hb h.1) (fun hU => hU.elim hF fun hx => by omega), h.2 b hb hF]⟩
theorem Fr.weak (h : Fr F H H') (hG : ∀ b, F b → G b) : Fr G H H' := ⟨h.1, fun b hb hF => h.2 b hb fun hx => hF (hG b hx)⟩
theorem Fr.app (F : Nat → Prop) (H G : Heap) : Fr F H (H ++ G) := ⟨by simp, fun b hb _ => List.getElem?_append_left hb⟩
theorem Fr.set {b : Nat} (F : Nat → Prop) (hF : F b) (H : Heap) (x : Blk) : Fr F H (H.set b x) := ⟨by simp, fun c hc hn => get_set_ne fun h => hn (by rw [h]; exact hF)⟩
theorem Ext.fr (h : Ext H H') : Fr F H H' := h.weak fun _ hf => hf.elim
theorem Up.weak {b : Nat} (h : Up F H H' b) (hG : ∀ b, F b → G b) : Up G H H' b := h.imp (hG b) id
theorem Up.trans {b : Nat} (h : Up (Up F H H') H' H'' b) (h1 : H.length ≤ H'.length) (h2 : H'.length ≤ H''.length) : Up F H H'' b := by
  rcases h with (h | h) | h
  · exact .inl h
  · exact .inr ⟨h.1, by omega⟩
  · exact .inr ⟨by omega, h.2⟩
theorem Up.self {b : Nat} (h : F b) : Up F H H' b := .inl h
/-- what lies outside stays outside -/
theorem Fr.out (h : Fr F H H') (hG : ∀ b, G b → b < H.length) (hd : ∀ b, G b → ¬ F b) : (∀ b, G b → H'[b]? = H[b]?) ∧ (∀ b, G b → b < H'.length) ∧ ∀ b, G b → ¬ Up F H H' b :=
  ⟨fun b hb => h.2 b (hG b hb) (hd b hb), fun b hb => Nat.lt_of_lt_of_le (hG b hb) h.1, fun b hb hU => hU.elim (hd b hb) fun hx => by have := hG b hb; omega⟩
end

section
variable (eR eB : TypeId)

structure RowI (H : Heap) (v : Value) (us : List Value) (bss : List (List UInt8)) (F : Nat → Prop) : Prop where
  row : RowC eR 1 H v us.length us
  len : us.length = bss.length
  bo : ∀ (i : Nat) (u : Value) (bs : List UInt8), us[i]? = some u → bss[i]? = some bs → Bo eB H u bs
  sep : us.Pairwise fun u w => ∀ b, lies u b → ¬ lies w b
  hv : ∀ b, home v b → F b
  hu : ∀ u ∈ us, ∀ b, lies u b → F b
  lt : ∀ b, F b → b < H.length

/-- a row of slices of bytes; its blocks are in F -/
def Row (H : Heap) (v : Value) (bss : List (List UInt8)) (F : Nat → Prop) : Prop := ∃ us, RowI eR eB H v us bss F
end

section
variable {eR eB : TypeId} {H H' : Heap} {v : Value} {us : List Value} {bss : List (List UInt8)} {F G : Nat → Prop}

theorem RowI.keep (h : RowI eR eB H v us bss F) (hk : ∀ b, F b → H'[b]? = H[b]?) (hl : H.length ≤ H'.length) : RowI eR eB H' v us bss F :=
  ⟨h.row.keep fun b hb => hk b (h.hv b hb), h.len, fun i u bs hu hb => (h.bo i u bs hu hb).keep fun b hb => hk b (h.hu u (List.mem_of_getElem? hu) b hb), h.sep, h.hv, h.hu, fun b hb => Nat.lt_of_lt_of_le (h.lt b hb) hl⟩
theorem Row.keep (h : Row eR eB H v bss F) (hk : ∀ b, F b → H'[b]? = H[b]?) (hl : H.length ≤ H'.length) : Row eR eB H' v bss F := let ⟨us, hi⟩ := h; ⟨us, hi.keep hk hl⟩
theorem Row.weak (h : Row eR eB H v bss F) (hG : ∀ b, F b → G b) (hl : ∀ b, G b → b < H.length) : Row eR eB H v bss G :=
  let ⟨us, hi⟩ := h
  ⟨us, hi.row, hi.len, hi.bo, hi.sep, fun b hb => hG b (hi.hv b hb), fun u hu b hb => hG b (hi.hu u hu b hb), hl⟩
theorem Row.lt (h : Row eR eB H v bss F) : ∀ b, F b → b < H.length := let ⟨_, hi⟩ := h; hi.lt
theorem Row.nil : Row eR eB H (.slice none 0 0) [] F ↔ ∀ b, F b → b < H.length :=
  ⟨fun h => h.lt, fun h => ⟨[], RowC.nil _ _ _, rfl, fun i u bs hu => by simp at hu, List.Pairwise.nil, fun b hb => (by obtain ⟨o, n, c, hv⟩ := hb; cases hv), (fun u hu => by cases hu), h⟩⟩
theorem Row.len (h : Row eR eB H v bss F) : lenSl v = some (.int .i64 bss.length) := by
  obtain ⟨us, hi⟩ := h
  rw [hi.row.len, hi.len]
/-- a row is not in the blocks of its elements -/
theorem RowI.apart (h : RowI eR eB H v us bss F) (hne : eR ≠ eB) {b : Nat} (hb : home v b) {u : Value} (hu : u ∈ us) : ¬ lies u b := by
  intro hl
  obtain ⟨i, hi⟩ := List.getElem?_of_mem hu
  have hlt := (List.getElem?_eq_some_iff.mp hi).1
  have hlen := h.len
  obtain ⟨cs, h1⟩ := (h.bo i u bss[i] hi (List.getElem?_eq_getElem (by omega))).lt b hl
  obtain ⟨hcs, ⟨rfl, _⟩ | ⟨c, cap, rest, rfl, _, _, h2⟩⟩ := h.row
  · obtain ⟨o, n, c, hv⟩ := hb
    cases hv
  · obtain ⟨o, n, c', hv⟩ := hb
    cases hv
    rw [h1] at h2
    injection h2 with h2
    injection h2 with _ h2
    exact hne h2.symm

/-- an element -/
theorem Row.get (h : Row eR eB H v bss F) {i : Nat} {bs : List UInt8} (hb : bss[i]? = some bs) (k : IntKind) :
    ∃ u p, iAddr 1 v (.int k i) = some (.pointer (some ⟨p, i, none⟩)) ∧ F p ∧ (∀ H' : Heap, H'[p]? = H[p]? → ld1 (.pointer (some ⟨p, i, none⟩)) H' = some (u, H')) ∧ Bo eB H u bs ∧ ∀ b, lies u b → F b := by
  obtain ⟨us, hi⟩ := h
  have hlt : i < us.length := by
    have := (List.getElem?_eq_some_iff.mp hb).1
    have := hi.len
    omega
  obtain ⟨p, h1, h2, h3⟩ := hi.row.at_ i k hlt
  have hu : us[i]? = some us[i] := List.getElem?_eq_getElem hlt
  refine ⟨us[i], p, by simpa using h1, hi.hv p h2, fun H' hH' => ?_, hi.bo i _ bs hu hb, fun b hl => hi.hu _ (List.getElem_mem hlt) b hl⟩
  have := h3 H' hH' 0 (by decide)
  simp only [Nat.mul_one, Nat.add_zero] at this
  rw [this, hu, x_cell]

theorem Bo.all {e : TypeId} {u : Value} {bs : List UInt8} (h : Bo e H u bs) : allCells [u] = true := by
  rcases h with ⟨_, rfl | ⟨_, _, _, rfl⟩⟩ | ⟨_, _, _, rfl, _⟩ <;> rfl

theorem bld_one (e : TypeId) (z u : Value) (h : allCells [u] = true) (hu : u.cells = #[u]) (H : Heap) : bldSlice e 1 1 [z] [(0, u)] H = some (.slice (some ⟨H.length, 0, none⟩) 1 1, H ++ [.cells [u] e .row]) := by
  unfold bldSlice
  have : Instr.fill (fun i => some (i * 1, 1)) (List.replicate 1 [z]).flatten.toArray [(0, u)] = some #[u] := by
    simp [Instr.fill, hu]
    try rfl
  rw [this]

theorem Bo.cells {e : TypeId} {u : Value} {bs : List UInt8} (h : Bo e H u bs) : u.cells = #[u] := by
  rcases h with ⟨_, rfl | ⟨_, _, _, rfl⟩⟩ | ⟨_, _, _, rfl, _⟩ <;> rfl

/-- one more -/
theorem Row.push (h : Row eR eB H v bss F) (hne : eR ≠ eB) {u : Value} {bs : List UInt8} (hb : Bo eB H u bs) (hf : ∀ b, lies u b → ¬ F b) {by' : Nat} (hr : roomy (bss.length + 1) by' = true) (z : Value) :
    ∃ w H1 v' H', bldSlice eR 1 1 [z] [(0, u)] H = some (w, H1) ∧ (∀ b, b < H.length → H1[b]? = H[b]?) ∧ app eR 1 by' v w H1 = some (v', H') ∧ Row eR eB H' v' (bss ++ [bs]) (Up (fun b => F b ∨ lies u b) H H') ∧ Fr F H H' := by
  obtain ⟨us, hi⟩ := h
  have h1 : (H ++ [Blk.cells [u] eR .row])[H.length]? = some (.cells [u] eR .row) := by simp
  have hold : ∀ b, b < H.length → (H ++ [Blk.cells [u] eR .row])[b]? = H[b]? := fun b hb => List.getElem?_append_left hb
  have hlt := hi.row.lt
  have hrow : RowC eR 1 (H ++ [Blk.cells [u] eR .row]) v us.length us := hi.row.keep fun b hb => hold b (hlt b hb)
  obtain ⟨v', H', g1, g2, g3, g4, g5⟩ := app_row (w := .slice (some ⟨H.length, 0, none⟩) 1 1) (k := 1) (new := [u]) hrow rfl (by simp [srcCells, h1]) (by rw [hi.len]; exact hr) hb.all (by decide)
  simp only [List.length_append, List.length_cons, List.length_nil] at g3 g4 g5
  have fr : ∀ b, b < H.length → ¬ home v b → H'[b]? = H[b]? := fun b hb hh => by rw [g4 b (by omega) hh, hold b hb]
  have hulies : ∀ b, lies u b → b < H.length ∧ ¬ home v b := fun b hl => by
    obtain ⟨cs, hcs⟩ := hb.lt b hl
    exact ⟨(List.getElem?_eq_some_iff.mp hcs).1, fun hh => hf b hl (hi.hv b hh)⟩
  refine ⟨_, _, v', H', bld_one eR z u hb.all hb.cells H, hold, g1, ⟨us ++ [u], by simpa using g2, by simp [hi.len], ?_, ?_, ?_, ?_, ?_⟩, ⟨by omega, fun b hb hF => fr b hb fun hh => hF (hi.hv b hh)⟩⟩
  · intro i w ws hw hws
    by_cases hlt' : i < us.length
    · rw [List.getElem?_append_left hlt'] at hw
      rw [List.getElem?_append_left (by rw [← hi.len]; exact hlt')] at hws
      refine (hi.bo i w ws hw hws).keep fun b hl => ?_
      have hm := List.mem_of_getElem? hw
      exact fr b (hi.lt b (hi.hu w hm b hl)) fun hh => hi.apart hne hh hm hl
    · have hx : i = us.length := by
        have := (List.getElem?_eq_some_iff.mp hw).1
        simp at this
        omega
      subst hx
      rw [List.getElem?_append_right (Nat.le_refl _)] at hw
      rw [List.getElem?_append_right (by rw [hi.len]; exact Nat.le_refl _), hi.len] at hws
      simp at hw hws
      subst hw hws
      exact hb.keep fun b hl => fr b (hulies b hl).1 (hulies b hl).2
  · rw [List.pairwise_append]
    refine ⟨hi.sep, List.pairwise_singleton _ _, fun x hx y hy b hxb hyb => ?_⟩
    rw [List.mem_singleton] at hy
    subst hy
    exact hf b hyb (hi.hu x hx b hxb)
  · intro b hh
    rcases g5 b hh with hx | hx
    · exact .inl (.inl (hi.hv b hx))
    · exact .inr ⟨by omega, hx.2⟩
  · intro w hw b hl
    rcases List.mem_append.mp hw with hw | hw
    · exact .inl (.inl (hi.hu w hw b hl))
    · rw [List.mem_singleton] at hw
      subst hw
      exact .inl (.inr hl)
  · intro b hb
    rcases hb with (hb | hb) | hb
    · have := hi.lt b hb
      omega
    · have := (hulies b hb).1
      omega
    · exact hb.2

/-- an element's bytes are written -/
theorem Row.set (h : Row eR eB H v bss F) (hne : eR ≠ eB) {i : Nat} {bs : List UInt8} (hb : bss[i]? = some bs) {j : Nat} (hj : j < bs.length) (k : IntKind) (x : UInt8) :
    ∃ u p b o H', iAddr 1 v (.int k i) = some (.pointer (some ⟨p, i, none⟩)) ∧ (∀ H' : Heap, H'[p]? = H[p]? → ld1 (.pointer (some ⟨p, i, none⟩)) H' = some (u, H')) ∧ Bo eB H u bs ∧ iAddr 1 u (.int .i64 j) = some (.pointer (some ⟨b, o, none⟩)) ∧ stN 1 (.pointer (some ⟨b, o, none⟩)) (byteV x) H = some (undef, H') ∧ H'.length = H.length ∧ Row eR eB H' v (bss.set i (bs.set j x)) F ∧ Fr F H H' := by
  obtain ⟨us, hi⟩ := h
  have hlt : i < us.length := by
    have := (List.getElem?_eq_some_iff.mp hb).1
    have := hi.len
    omega
  obtain ⟨p, h1, h2, h3⟩ := hi.row.at_ i k hlt
  have hu : us[i]? = some us[i] := List.getElem?_eq_getElem hlt
  have hbo := hi.bo i _ bs hu hb
  obtain ⟨b, o, H', g1, g2, g3, g4, g5, g6⟩ := hbo.set hj .i64 x
  have hm := List.getElem_mem hlt
  have hpb : ∀ c, home v c → c ≠ b := fun c hc hx => hi.apart hne hc hm (by rw [hx]; exact g5)
  refine ⟨us[i], p, b, o, H', by simpa using h1, fun H' hH' => ?_, hbo, g1, g2, g4, ⟨us, hi.row.keep fun c hc => g6 c (hpb c hc), by simp [hi.len], ?_, hi.sep, hi.hv, hi.hu, fun b hb => by rw [g4]; exact hi.lt b hb⟩, ⟨by omega, fun c _ hF => g6 c fun hx => hF (by rw [hx]; exact hi.hu _ hm b g5)⟩⟩
  · have := h3 H' hH' 0 (by decide)
    simp only [Nat.mul_one, Nat.add_zero] at this
    rw [this, hu, x_cell]
  · intro i' w ws hw hws
    by_cases hii : i = i'
    · subst hii
      rw [List.getElem?_set_self (List.getElem?_eq_some_iff.mp hb).1] at hws
      rw [hu] at hw
      cases hw
      cases hws
      exact g3
    · rw [List.getElem?_set_ne hii] at hws
      refine (hi.bo i' w ws hw hws).keep fun c hc => g6 c fun hx => ?_
      subst hx
      have hlt' := (List.getElem?_eq_some_iff.mp hw).1
      have he := (List.getElem?_eq_some_iff.mp hw).2
      rcases Nat.lt_or_gt_of_ne hii with hx | hx
      · have := List.pairwise_iff_getElem.mp hi.sep i i' hlt hlt' hx c g5
        rw [he] at this
        exact this hc
      · have := List.pairwise_iff_getElem.mp hi.sep i' i hlt' hlt hx c
        rw [he] at this
        exact this hc g5

/-- other cells in the row's own block -/
theorem RowI.cells (h : RowI eR eB H v us bss F) (hne : eR ≠ eB) {v' : Value} {us' : List Value} {bss' : List (List UInt8)} (hrow : RowC eR 1 H' v' us'.length us') (hlen : us'.length = bss'.length) (hl : H'.length = H.length) (hv : ∀ b, home v' b → home v b) (hk : ∀ b, ¬ home v b → H'[b]? = H[b]?)
    (hs : us'.Sublist us) (hb : ∀ (i : Nat) (u : Value) (bs : List UInt8), us'[i]? = some u → bss'[i]? = some bs → ∃ j : Nat, us[j]? = some u ∧ bss[j]? = some bs) : RowI eR eB H' v' us' bss' F := by
  refine ⟨hrow, hlen, fun i u bs hu hbs => ?_, h.sep.sublist hs, fun b hb => h.hv b (hv b hb), fun u hu => h.hu u (hs.subset hu), fun b hb => by rw [hl]; exact h.lt b hb⟩
  obtain ⟨j, h1, h2⟩ := hb i u bs hu hbs
  refine (h.bo j u bs h1 h2).keep fun b hl => hk b fun hh => h.apart hne hh (List.mem_of_getElem? h1) hl

end

theorem Bo.of_row {e : TypeId} {H : Heap} {v : Value} {bs : List UInt8} (h : RowC e 1 H v bs.length (bs.map byteV)) : Bo e H v bs := by
  obtain ⟨hcs, ⟨rfl, h0⟩ | ⟨c, cap, rest, rfl, h1, h2, h3⟩⟩ := h
  · exact .inl ⟨List.length_eq_zero_iff.mp h0, .inl rfl⟩
  · by_cases h0 : bs.length = 0
    · refine .inl ⟨List.length_eq_zero_iff.mp h0, .inr ⟨c, 0, cap, by rw [h0]⟩⟩
    · exact .inr ⟨c, cap, rest, rfl, by omega, h3⟩

/-- append within the room that there is -/
theorem app_in {e : TypeId} {sz by' c n k cap : Nat} {w : Value} {H : Heap} {pre old post new : List Value} (hb : H[c]? = some (.cells (pre ++ old ++ post) e .row)) (hp : pre.length = n * sz) (ho : old.length = k * sz) (hs : srcLen w = some k) (hc : srcCells sz w k H = some new)
    (hroom : n + k ≤ cap) (ha : allCells new = true) : app e sz by' (.slice (some ⟨c, 0, none⟩) n cap) w H = some (.slice (some ⟨c, 0, none⟩) (n + k) cap, H.set c (.cells (pre ++ new ++ post) e .row)) := by
  have hnl := src_len hc
  unfold app
  rw [hs]
  simp only
  rw [hc]
  simp only
  rw [hb]
  simp only
  rw [if_pos hroom]
  by_cases h0 : new = []
  · rw [if_pos h0]
    subst h0
    have : old = [] := List.length_eq_zero_iff.mp (by rw [ho, ← hnl]; rfl)
    subst this
    rw [setSame hb]
  · rw [if_neg h0, if_pos ⟨by decide, by simp [hp, ho], ha⟩]
    have := setCells_mid new old pre post (by rw [ho, hnl])
    rw [Nat.zero_add, ← hp, this]

theorem bnd_nat (d : Nat) (k : IntKind) (i : Nat) : bnd d (some (.int k i)) = some i := by
  simp [bnd]

theorem slc_is {P : Program} {H : Heap} {cs : List Value} {e : TypeId} {k : Kind} {sz b o len cap l h m : Nat} {lo hi mx : Option Value} (hb : H[b]? = some (.cells cs e k)) (hsz : k = .row → P.cellsOf e = sz) (h1 : bnd 0 lo = some l) (h2 : bnd len hi = some h) (h3 : bnd cap mx = some m) (hlh : l ≤ h) (hhm : h ≤ m) (hmc : m ≤ cap) :
    slc P sz (.slice (some ⟨b, o, none⟩) len cap) lo hi mx H = some (.slice (some ⟨b, o + l * sz, none⟩) (h - l) (m - l), H) := by
  unfold slc
  simp only
  rw [hb]
  simp only
  rw [h1, h2, h3]
  simp only
  rw [if_pos ⟨hlh, hhm, hmc, hsz⟩]

end Go.Abs
