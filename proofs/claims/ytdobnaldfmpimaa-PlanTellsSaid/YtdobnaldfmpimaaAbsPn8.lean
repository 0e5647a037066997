/-
  PLAN: plain laws: edges that may be; who is beside whom; plans that Make makes.
-/
import Derived.Test.YtdobnaldfmpimaaAbsPn7
set_option linter.unusedSectionVars false
set_option linter.unusedSimpArgs false
set_option linter.unusedVariables false
set_option maxRecDepth 100000
namespace Go.Proofs.Ytdobnaldfmpimaa
open Go.Abs

def okE (n : Int) (e : Ed) : Prop := 0 ≤ e.1 ∧ e.1 < e.2 ∧ e.2 < n
structure VE (n : Int) (E : List Ed) : Prop where
  ok : ∀ e ∈ E, okE n e
  nd : E.Nodup

theorem edOk_iff (n : Int) : ∀ (E old : List Ed), edOk n old E = true ↔ ((∀ e ∈ E, okE n e) ∧ E.Nodup ∧ ∀ e ∈ E, e ∉ old)
  | [], old => by simp [edOk]
  | e :: E, old => by
    have ih := edOk_iff n E (old ++ [e])
    have hany : (old.any fun x => x == e) = true ↔ e ∈ old := by
      rw [List.any_eq_true]
      constructor
      · rintro ⟨x, h1, h2⟩
        have : x = e := by simpa using h2
        exact this ▸ h1
      · intro h
        exact ⟨e, h, by simp⟩
    unfold edOk
    rw [Bool.and_eq_true, ih, Bool.not_eq_true', Bool.or_eq_false_iff, Bool.or_eq_false_iff, Bool.or_eq_false_iff]
    simp only [decide_eq_false_iff_not, List.nodup_cons, List.mem_cons, List.mem_append, List.not_mem_nil, or_false]
    have hany' : (old.any fun x => x == e) = false ↔ e ∉ old := by rw [← Bool.not_eq_true, hany]
    rw [hany']
    constructor
    · rintro ⟨⟨h1, h2, h3, h4⟩, h5, h6, h7⟩
      refine ⟨?_, ⟨fun hh => (h7 e hh) (.inr rfl), h6⟩, ?_⟩
      · rintro x (rfl | hx)
        · exact ⟨by omega, by omega, by omega⟩
        · exact h5 x hx
      · rintro x (rfl | hx)
        · exact h4
        · exact fun hh => h7 x hx (.inl hh)
    · rintro ⟨h1, ⟨h2, h3⟩, h4⟩
      obtain ⟨a1, a2, a3⟩ := h1 e (.inl rfl)
      refine ⟨⟨by omega, by omega, by omega, h4 e (.inl rfl)⟩, fun x hx => h1 x (.inr hx), h3, fun x hx => ?_⟩
      rintro (hh | rfl)
      · exact h4 x (.inr hx) hh
      · exact h2 hx
theorem edOk_ve (n : Int) (E : List Ed) : edOk n [] E = true ↔ VE n E := by
  rw [edOk_iff]
  exact ⟨fun h => ⟨h.1, h.2.1⟩, fun h => ⟨h.ok, h.nd, fun _ _ => List.not_mem_nil⟩⟩

/-! ### the pairs -/
def castE (p : Nat × Nat) : Ed := ((p.1 : Int), (p.2 : Int))
theorem selE_sub : ∀ (L : List (Nat × Nat)) (bit : Nat), (selE bit L).Sublist (L.map castE)
  | [], _ => List.Sublist.slnil
  | (a, b) :: L, bit => by
    unfold selE
    split
    · exact (selE_sub L (bit / 2)).cons_cons _
    · exact (selE_sub L (bit / 2)).cons _
theorem prs_mem {n a b : Nat} : (a, b) ∈ prs n ↔ a < b ∧ b < n := by
  unfold prs
  rw [List.mem_flatMap]
  constructor
  · rintro ⟨x, h1, h2⟩
    obtain ⟨y, h3, h4⟩ := List.mem_map.mp h2
    cases h4
    exact ⟨List.mem_range.mp h3, List.mem_range.mp h1⟩
  · rintro ⟨h1, h2⟩
    exact ⟨b, List.mem_range.mpr h2, List.mem_map.mpr ⟨a, List.mem_range.mpr h1, rfl⟩⟩
theorem prs_nd : ∀ n, (prs n).Nodup
  | 0 => List.Pairwise.nil
  | n + 1 => by
    rw [prs_succ]
    refine List.nodup_append.mpr ⟨prs_nd n, ?_, ?_⟩
    · exact (List.nodup_range).map (fun a => (a, n)) fun a b hab h => hab (by cases h; rfl)
    · intro x hx y hy
      obtain ⟨a, _, rfl⟩ := List.mem_map.mp hy
      obtain ⟨x1, x2⟩ := x
      have := (prs_mem.mp hx).2
      intro hh
      cases hh
      omega
theorem castE_inj {x y : Nat × Nat} (h : castE x = castE y) : x = y := by
  obtain ⟨a, b⟩ := x
  obtain ⟨c, d⟩ := y
  simp only [castE, Prod.mk.injEq] at h
  have h1 : a = c := by omega
  have h2 : b = d := by omega
  rw [h1, h2]
theorem selE_ve (bit n : Nat) : VE n (selE bit (prs n)) := by
  have hs := selE_sub (prs n) bit
  refine ⟨fun e he => ?_, (((prs_nd n).map castE fun a b hab h => hab (castE_inj h)).sublist hs)⟩
  obtain ⟨⟨a, b⟩, h1, rfl⟩ := List.mem_map.mp (hs.subset he)
  obtain ⟨h2, h3⟩ := prs_mem.mp h1
  simp only [okE, castE]
  omega
theorem prs_15 {n : Nat} (h : n ≤ 6) : (prs n).length ≤ 15 := by
  have : n = 0 ∨ n = 1 ∨ n = 2 ∨ n = 3 ∨ n = 4 ∨ n = 5 ∨ n = 6 := by omega
  rcases this with rfl | rfl | rfl | rfl | rfl | rfl | rfl <;> decide

/-! ### who is beside whom -/
theorem candE_mem {v w : Int} {e : Ed} : w ∈ candE v e ↔ v ≠ w ∧ (e = (v, w) ∨ e = (w, v)) := by
  obtain ⟨a, b⟩ := e
  unfold candE
  simp only [Prod.mk.injEq]
  by_cases h1 : a = b
  · rw [if_pos h1]
    constructor
    · intro h; cases h
    · rintro ⟨h, ⟨h2, h3⟩ | ⟨h2, h3⟩⟩
      · exact absurd (h2.symm.trans (h1.trans h3)) h
      · exact absurd (h3.symm.trans (h1.symm.trans h2)) h
  · rw [if_neg h1]
    by_cases h2 : a = v
    · rw [if_pos h2, List.mem_singleton]
      constructor
      · rintro rfl
        exact ⟨fun hh => h1 (h2.trans hh), .inl ⟨h2, rfl⟩⟩
      · rintro ⟨h, ⟨_, h3⟩ | ⟨h3, h4⟩⟩
        · exact h3.symm
        · exact absurd (h2.symm.trans h3) h
    · rw [if_neg h2]
      by_cases h3 : b = v
      · rw [if_pos h3, List.mem_singleton]
        constructor
        · rintro rfl
          exact ⟨fun hh => h2 hh.symm, .inr ⟨rfl, h3⟩⟩
        · rintro ⟨h, ⟨h4, _⟩ | ⟨h4, _⟩⟩
          · exact absurd h4 h2
          · exact h4.symm
      · rw [if_neg h3]
        constructor
        · intro h; cases h
        · rintro ⟨h, ⟨h4, _⟩ | ⟨_, h4⟩⟩
          · exact absurd h4 h2
          · exact absurd h4 h3
theorem cand_mem {E : List Ed} {v w : Int} : w ∈ cand E v ↔ v ≠ w ∧ ((v, w) ∈ E ∨ (w, v) ∈ E) := by
  unfold cand
  rw [List.mem_flatMap]
  constructor
  · rintro ⟨e, h1, h2⟩
    obtain ⟨h3, h4⟩ := candE_mem.mp h2
    rcases h4 with rfl | rfl
    · exact ⟨h3, .inl h1⟩
    · exact ⟨h3, .inr h1⟩
  · rintro ⟨h3, h4 | h4⟩
    · exact ⟨_, h4, candE_mem.mpr ⟨h3, .inl rfl⟩⟩
    · exact ⟨_, h4, candE_mem.mpr ⟨h3, .inr rfl⟩⟩
theorem beside_mem {E : List Ed} {v w : Int} : w ∈ bes E v ↔ v ≠ w ∧ ((v, w) ∈ E ∨ (w, v) ∈ E) := by rw [bes_mem, cand_mem]
theorem beside_sym {E : List Ed} {v w : Int} (h : w ∈ bes E v) : v ∈ bes E w := by
  rw [beside_mem] at h ⊢
  exact ⟨Ne.symm h.1, h.2.symm⟩
theorem beside_in {n : Int} {E : List Ed} (hE : VE n E) {v w : Int} (h : w ∈ bes E v) : 0 ≤ w ∧ w < n ∧ 0 ≤ v ∧ v < n := by
  obtain ⟨_, h | h⟩ := beside_mem.mp h
  · have := hE.ok _ h
    simp only [okE] at this
    omega
  · have := hE.ok _ h
    simp only [okE] at this
    omega

/-- where one stands in a rising row -/
theorem fst_rise (l : List Int) (hl : l.Pairwise (· < ·)) : ∀ (q i : Nat) {j : Nat} {x : Int}, i + q = l.length → i ≤ j → l[j]? = some x → fst (fun k => l[k]? == some x) q i = j
  | 0, i, j, x, h1, h2, h3 => by
    have := (List.getElem?_eq_some_iff.mp h3).1
    omega
  | q + 1, i, j, x, h1, h2, h3 => by
    unfold fst
    by_cases hij : i = j
    · subst hij
      rw [if_pos (by rw [h3]; simp)]
    · have hj := (List.getElem?_eq_some_iff.mp h3).1
      have hne : ¬ (l[i]? == some x) = true := by
        have hx : l[i]? = some l[i] := List.getElem?_eq_getElem (by omega)
        rw [hx]
        have hlt : l[i] < l[j] := List.pairwise_iff_getElem.mp hl i j (by omega) hj (by omega)
        have hjx : l[j] = x := (List.getElem?_eq_some_iff.mp h3).2
        simp
        omega
      rw [if_neg hne]
      exact fst_rise l hl q (i + 1) (by omega) (by omega) h3
theorem port_at {E : List Ed} {v : Int} {i : Nat} {x : Int} (h : (bes E v)[i]? = some x) : portOf E v x = i + 1 := by
  have h1 := fst_rise (bes E v) (bes_pw E v) (bes E v).length 0 (by omega) (Nat.zero_le i) h
  unfold portOf idxI
  rw [h1, if_neg (by omega)]
theorem port_pos {E : List Ed} {v w : Int} (h : w ∈ bes E v) : 1 ≤ portOf E v w := by
  obtain ⟨i, hi⟩ := List.getElem?_of_mem h
  rw [port_at hi]
  omega

/-! ### how many -/
theorem layL_new (x : Int) : ∀ l : List Int, x ∉ l → (layL x l).length = l.length + 1
  | [], _ => rfl
  | y :: r, h => by
    have ih := layL_new x r (fun hh => h (by simp [hh]))
    unfold layL
    split
    · simp only [List.length_cons, ih]
    · split
      · rename_i hh
        exact absurd (by simp [hh]) h
      · simp only [List.length_cons]
theorem rlist_new : ∀ (xs l : List Int), xs.Nodup → (∀ x ∈ xs, x ∉ l) → (rlist l xs).length = l.length + xs.length
  | [], l, _, _ => rfl
  | x :: xs, l, h, hd => by
    obtain ⟨h1, h2⟩ := List.nodup_cons.mp h
    have := rlist_new xs (layL x l) h2 (fun y hy hh => by
      rcases (layL_mem x y l).mp hh with rfl | hh
      · exact h1 hy
      · exact hd y (by simp [hy]) hh)
    have h3 := layL_new x l (hd x (by simp))
    unfold rlist at *
    rw [List.foldl_cons, this, h3, List.length_cons]
    omega
theorem cand_nd {n : Int} : ∀ (E : List Ed), VE n E → ∀ v, (cand E v).Nodup
  | [], _, v => List.Pairwise.nil
  | e :: E, h, v => by
    have hE : VE n E := ⟨fun x hx => h.ok x (by simp [hx]), (List.nodup_cons.mp h.nd).2⟩
    have ih := cand_nd E hE v
    have hc : cand (e :: E) v = candE v e ++ cand E v := by unfold cand; rw [List.flatMap_cons]
    rw [hc]
    refine List.nodup_append.mpr ⟨?_, ih, ?_⟩
    · unfold candE
      split
      · exact List.Pairwise.nil
      · split
        · simp
        · split <;> simp
    · intro x hx y hy hh
      subst hh
      obtain ⟨h1, h2⟩ := candE_mem.mp hx
      obtain ⟨_, h3⟩ := cand_mem.mp hy
      have he := (List.nodup_cons.mp h.nd).1
      have o1 := h.ok e (by simp)
      rcases h2 with rfl | rfl
      · rcases h3 with h3 | h3
        · exact he h3
        · have o2 := hE.ok _ h3
          simp only [okE] at o1 o2
          omega
      · rcases h3 with h3 | h3
        · have o2 := hE.ok _ h3
          simp only [okE] at o1 o2
          omega
        · exact he h3
theorem bes_cand {n : Int} {E : List Ed} (h : VE n E) (v : Int) : (bes E v).length = (cand E v).length := by
  rw [bes_rlist, rlist_new _ _ (cand_nd E h v) (fun _ _ => List.not_mem_nil)]
  simp
def sumB (E : List Ed) : Nat → Nat
  | 0 => 0
  | n + 1 => sumB E n + (cand E n).length
theorem sumB_cons (e : Ed) (E : List Ed) : ∀ n, sumB (e :: E) n = sumB [e] n + sumB E n
  | 0 => rfl
  | n + 1 => by
    have ih := sumB_cons e E n
    have hc : cand (e :: E) n = candE n e ++ cand E n := by unfold cand; rw [List.flatMap_cons]
    have hc1 : cand [e] n = candE n e := by unfold cand; simp
    unfold sumB
    rw [ih, hc, hc1, List.length_append]
    omega
def under (x : Int) (n : Nat) : Nat := if x < n then 1 else 0
theorem under_succ (x : Int) (n : Nat) : under x (n + 1) = under x n + (if x = n then 1 else 0) := by
  unfold under
  by_cases h1 : x < n
  · rw [if_pos h1, if_pos (by omega), if_neg (by omega)]
  · rw [if_neg h1]
    by_cases h2 : x = n
    · rw [if_pos h2, if_pos (by omega)]
    · rw [if_neg h2, if_neg (by omega)]
theorem candE_len {v : Int} {e : Ed} (h : e.1 < e.2) : (candE v e).length = (if e.1 = v then 1 else 0) + (if e.2 = v then 1 else 0) := by
  unfold candE
  rw [if_neg (by omega)]
  by_cases h1 : e.1 = v
  · rw [if_pos h1, if_pos h1, if_neg (by omega)]
    rfl
  · rw [if_neg h1, if_neg h1]
    by_cases h2 : e.2 = v
    · rw [if_pos h2, if_pos h2]
      rfl
    · rw [if_neg h2, if_neg h2]
      rfl
theorem sumB_one (e : Ed) (h0 : 0 ≤ e.1) (h : e.1 < e.2) : ∀ n : Nat, sumB [e] n = under e.1 n + under e.2 n
  | 0 => by
    have h1 : under e.1 0 = 0 := by unfold under; rw [if_neg (by omega)]
    have h2 : under e.2 0 = 0 := by unfold under; rw [if_neg (by omega)]
    rw [h1, h2]
    rfl
  | n + 1 => by
    have ih := sumB_one e h0 h n
    have hc1 : cand [e] n = candE n e := by unfold cand; simp
    have : sumB [e] (n + 1) = sumB [e] n + (cand [e] n).length := rfl
    rw [this, ih, hc1, candE_len h, under_succ, under_succ]
    omega
theorem sumB_all {n : Nat} : ∀ E : List Ed, (∀ e ∈ E, okE n e) → sumB E n = 2 * E.length
  | [], _ => by
    have : ∀ m, sumB [] m = 0 := fun m => by
      induction m with
      | zero => rfl
      | succ m ih => unfold sumB; rw [ih]; rfl
    rw [this]
    rfl
  | e :: E, h => by
    have ih := sumB_all E fun x hx => h x (by simp [hx])
    obtain ⟨h1, h2, h3⟩ := h e (by simp)
    have u1 : under e.1 n = 1 := by unfold under; rw [if_pos (by omega)]
    have u2 : under e.2 n = 1 := by unfold under; rw [if_pos h3]
    rw [sumB_cons, ih, sumB_one e h1 h2, u1, u2, List.length_cons]
    omega
theorem hops_sum {n : Nat} {E : List Ed} (h : VE n E) (hn : n ≤ 6) : ∀ k, ((List.range k).flatMap (hopAt E)).length = sumB E k
  | 0 => rfl
  | k + 1 => by
    have ih := hops_sum h hn k
    rw [List.range_succ, List.flatMap_append, List.length_append, ih]
    have hsu : sumB E (k + 1) = sumB E k + (cand E k).length := rfl
    rw [hsu, ← bes_cand h]
    have hf : ((bes E k).filter fun w => wi w 0 5) = bes E k := by
      rw [List.filter_eq_self]
      intro x hx
      have := beside_in h hx
      unfold wi
      rw [decide_eq_true (by omega), decide_eq_true (by omega)]
      rfl
    simp [hopAt, hf]

/-! ### plans that Make makes -/
theorem mkN_is (nodes : Nat) : 2 ≤ mkN nodes ∧ mkN nodes ≤ 6 := by unfold mkN; omega
theorem mk_ve (nodes room more joined : Nat) (next : List Nat) : VE (mkP nodes room more joined next).nodes (mkP nodes room more joined next).edges := selE_ve joined (mkN nodes)
theorem mk_e15 (nodes room more joined : Nat) (next : List Nat) : (mkP nodes room more joined next).edges.length ≤ 15 :=
  Nat.le_trans (selE_len _ _) (prs_15 (mkN_is nodes).2)
theorem mk_ok (nodes room more joined : Nat) (next : List Nat) : checkOk (mkP nodes room more joined next) = true := by
  have hn := mkN_is nodes
  unfold checkOk
  simp only [Bool.and_eq_true, decide_eq_true_eq]
  refine ⟨?_, by unfold edgesOk; rw [Bool.and_eq_true, decide_eq_true_eq]; exact ⟨(edOk_ve _ _).mpr (mk_ve ..), by have := mk_e15 nodes room more joined next; omega⟩, ?_, ?_, ?_, ?_⟩
  · unfold numOk wi mkP
    simp only [Bool.and_eq_true, decide_eq_true_eq]
    omega
  · simp [mkP]
  · unfold wOk
    simp only [mkP, List.length_map, List.length_range]
    rw [decide_eq_false (by omega), decide_eq_false (by omega)]
    simp only [Bool.false_or, Bool.not_eq_true', List.any_eq_false]
    intro x hx
    obtain ⟨i, _, rfl⟩ := List.mem_map.mp hx
    unfold wBad mkW
    rw [decide_eq_false (by omega), decide_eq_false (by omega)]
    simp
  · simp [mkP]
  · unfold rowsOk
    simp only [Bool.not_eq_true', List.any_eq_false]
    intro x hx
    obtain ⟨i, _, rfl⟩ := List.mem_map.mp hx
    simp [mkRow, mkP]
theorem Made.pv {H0 H2 : Heap} {nodes room more joined : Nat} {next : List Nat} {u : Value} (h : Made H0 (mkP nodes room more joined next) H2 u) : ∃ ev wv nv, u = plV (mkP nodes room more joined next) ev wv nv ∧ Ext H0 H2 ∧ PV H2 (mkP nodes room more joined next) ev wv nv := by
  obtain ⟨ev, wv, nv, h1, h2, h3, h4, h5⟩ := h
  have := mk_e15 nodes room more joined next
  have hn := mkN_is nodes
  exact ⟨ev, wv, nv, h1, h2, h3.rs, h4.rs, h5.rows, by omega, by simp [mkP]; omega, by simp [mkP]; omega⟩

end Go.Proofs.Ytdobnaldfmpimaa
