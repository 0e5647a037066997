/-
  RINGS: what they are; what a step leaves as it was.
-/
import Derived.Test.YtcmmlgdbpnogjaaAbsPlM
import Derived.Test.YtcmmlgdbpnogjaaAbsQueue
import Derived.Test.YtcmmlgdbpnogjaaAbsMapF
set_option linter.unusedSectionVars false
set_option linter.unusedSimpArgs false
set_option linter.unusedVariables false
set_option maxRecDepth 100000
namespace Go.Proofs.Ytcmmlgdbpnogjaa
open Go.Abs

abbrev Way := Int × Int × Int
def wayV (w : Way) : Value := .agg #[.int .i64 w.1, .int .i64 w.2.1, .int .i64 w.2.2]
abbrev kW : KeyT := .str [true, true, true]

theorem keyW : KeyC kW wayV := ⟨fun a b => by
  obtain ⟨a1, a2, a3⟩ := a
  obtain ⟨b1, b2, b3⟩ := b
  have h : ((a1, a2, a3) = (b1, b2, b3)) = (a1 = b1 ∧ a2 = b2 ∧ a3 = b3) := by simp
  simp [keyEq, wayV, eqT]
  by_cases h1 : a1 = b1 <;> by_cases h2 : a2 = b2 <;> by_cases h3 : a3 = b3 <;> simp [h1, h2, h3]⟩

theorem bW (a b c : Int) : bld Try.prog 82 [(0, .int .i64 a), (1, .int .i64 b), (2, .int .i64 c)] = some (wayV (a, b, c)) := rfl
theorem eRg (a : Addr) : bin Try.prog .eql 46 (.pointer (some a)) (.pointer none) = some (.bool false) := x_eqNil 46 79 (by kernel_rfl) a
theorem eRg0 : bin Try.prog .eql 46 (.pointer none) (.pointer none) = some (.bool true) := x_eqNil0 46 79 (by kernel_rfl)
theorem szI : Try.prog.cellsOf 3 = 1 := by kernel_rfl

/-- blocks that rings write -/
def AR (x : Blk) : Prop := match x with
  | .map _ _ => True
  | .dead => True
  | .cells _ e k => (e = 94 ∧ k = .fix) ∨ (e = 97 ∧ k = .row) ∨ (e = 3 ∧ k = .row)
/-- blocks that rings read -/
def AS (x : Blk) : Prop := AR x ∨ match x with
  | .cells _ e k => (e = 50 ∧ k = .fix) ∨ (e = 79 ∧ k = .fix)
  | _ => False

theorem nA_pk (x : Pkt) : ¬ AR (pkB x) := by simp [AR, pkB]
theorem nA_rg (cs : List Value) : ¬ AR (.cells cs 79 .fix) := by simp [AR]
theorem nA_ro (cs : List Value) (e : TypeId) : ¬ AR (.cells cs e .ro) := by simp [AR]
theorem nA_way (cs : List Value) : ¬ AR (.cells cs 82 .fix) := by simp [AR]
theorem nA_pkts (cs : List Value) : ¬ AR (.cells cs 50 .row) := by simp [AR]

/-- a packet in its queue, and the slot where it lies -/
abbrev En := Way × Nat × Pkt
def qOf (L : List En) (w : Way) : List Nat := (L.filter fun e => decide (e.1 = w)).map (·.2.1)
def pkOf (L : List En) (w : Way) : List Pkt := (L.filter fun e => decide (e.1 = w)).map (·.2.2)
def intV (k : Nat) : Value := .int .i64 k

theorem qp_len (L : List En) (w : Way) : (qOf L w).length = (pkOf L w).length := by simp [qOf, pkOf]

structure RI (H : Heap) (a : Nat) (L : List En) (n ports lanes : Nat) (p s mb : Nat) (l : List Slot) (top free : Int) (fl : List Nat) (f : Way → Option Value) : Prop where
  hd : H[a]? = some (.cells [.pointer (some ⟨p, 0, none⟩), .map (some mb), .int .i64 ports, .int .i64 lanes] 79 .fix)
  pool : Model H p s l top free fl
  len : l.length = n
  cnt : L.length + fl.length = n
  nd : (L.map (·.2.1)).Nodup
  full : ∀ e ∈ L, ∃ q d, l[e.2.1]? = some (some (q, e.2.2), d)
  mp : IsMap wayV H mb f
  no : ∀ w, f w = none → qOf L w = []
  yes : ∀ w v, f w = some v → RowO 3 H v ((qOf L w).map intV) ∧ qOf L w ≠ []
  sep : ∀ w w' v v' b, f w = some v → f w' = some v' → w ≠ w' → home v b → ¬ home v' b
  b1 : 1 ≤ n ∧ n ≤ 200
  b2 : ports ≤ 16 ∧ lanes ≤ 3

def IsRings (H : Heap) (a : Nat) (L : List En) (n ports lanes : Nat) : Prop := ∃ p s mb l top free fl f, RI H a L n ports lanes p s mb l top free fl f

section
variable {H H' : Heap} {a n ports lanes p s mb : Nat} {L : List En} {l : List Slot} {top free : Int} {fl : List Nat} {f : Way → Option Value}

theorem RI.keep (h : RI H a L n ports lanes p s mb l top free fl f) (hk : ∀ (b : Nat) (x : Blk), H[b]? = some x → AS x → H'[b]? = some x) : RI H' a L n ports lanes p s mb l top free fl f := by
  refine ⟨hk _ _ h.hd (.inr (.inr ⟨rfl, rfl⟩)), ⟨⟨hk _ _ h.pool.pool.hp (.inl (.inl ⟨rfl, rfl⟩)), hk _ _ h.pool.pool.hs (.inl (.inr (.inl ⟨rfl, rfl⟩))), fun i q x d hi => hk _ _ (h.pool.pool.hq i q x d hi) (.inr (.inl ⟨rfl, rfl⟩))⟩, h.pool.chain, h.pool.nodup, h.pool.full, h.pool.cnt, h.pool.len⟩,
    h.len, h.cnt, h.nd, h.full, ?_, h.no, fun w v hv => ⟨?_, (h.yes w v hv).2⟩, h.sep, h.b1, h.b2⟩
  · obtain ⟨es, c, h1, h2⟩ := h.mp
    exact ⟨es, c, hk _ _ h1 (.inl trivial), h2⟩
  · refine (h.yes w v hv).1.keep fun b hb => ?_
    obtain ⟨xs, hx⟩ := (h.yes w v hv).1.blk hb
    rw [hx]
    exact hk _ _ hx (.inl (.inr (.inr ⟨rfl, rfl⟩)))

theorem RI.app (h : RI H a L n ports lanes p s mb l top free fl f) (G : Heap) : RI (H ++ G) a L n ports lanes p s mb l top free fl f := h.keep fun b x hx _ => (Ch.app (fun _ => False) H G).2 b x hx id
theorem IsRings.app (h : IsRings H a L n ports lanes) (G : Heap) : IsRings (H ++ G) a L n ports lanes := by
  obtain ⟨p, s, mb, l, top, free, fl, f, hi⟩ := h
  exact ⟨p, s, mb, l, top, free, fl, f, hi.app G⟩
theorem IsRings.keep {A : Blk → Prop} (h : IsRings H a L n ports lanes) (hc : Ch A H H') (hA : ∀ x, A x → ¬ AS x) : IsRings H' a L n ports lanes := by
  obtain ⟨p, s, mb, l, top, free, fl, f, hi⟩ := h
  exact ⟨p, s, mb, l, top, free, fl, f, hi.keep fun b x hx hS => hc.2 b x hx fun hx' => hA x hx' hS⟩

theorem RI.ld0 (h : RI H a L n ports lanes p s mb l top free fl f) : ld1 (.pointer (some ⟨a, 0, none⟩)) H = some (.pointer (some ⟨p, 0, none⟩), H) := by rw [x_ld1, h.hd]; rfl
theorem RI.ld1 (h : RI H a L n ports lanes p s mb l top free fl f) : ld1 (.pointer (some ⟨a, 1, none⟩)) H = some (.map (some mb), H) := by rw [x_ld1, h.hd]; rfl
theorem RI.ld2 (h : RI H a L n ports lanes p s mb l top free fl f) : Go.Abs.ld1 (.pointer (some ⟨a, 2, none⟩)) H = some (.int .i64 ports, H) := by rw [x_ld1, h.hd]; rfl
theorem RI.ld3 (h : RI H a L n ports lanes p s mb l top free fl f) : Go.Abs.ld1 (.pointer (some ⟨a, 3, none⟩)) H = some (.int .i64 lanes, H) := by rw [x_ld1, h.hd]; rfl
end

/-! ### lists -/

theorem q_cons (L : List En) (e : En) (w : Way) : qOf (e :: L) w = if e.1 = w then e.2.1 :: qOf L w else qOf L w := by
  unfold qOf
  by_cases h : e.1 = w <;> simp [h]
theorem p_cons (L : List En) (e : En) (w : Way) : pkOf (e :: L) w = if e.1 = w then e.2.2 :: pkOf L w else pkOf L w := by
  unfold pkOf
  by_cases h : e.1 = w <;> simp [h]
theorem q_app (L : List En) (e : En) (w : Way) : qOf (L ++ [e]) w = if e.1 = w then qOf L w ++ [e.2.1] else qOf L w := by
  unfold qOf
  by_cases h : e.1 = w <;> simp [List.filter_append, h]
theorem p_app (L : List En) (e : En) (w : Way) : pkOf (L ++ [e]) w = if e.1 = w then pkOf L w ++ [e.2.2] else pkOf L w := by
  unfold pkOf
  by_cases h : e.1 = w <;> simp [List.filter_append, h]

/-- without the first one of a queue -/
def popL (L : List En) (w : Way) : List En := L.eraseP fun e => decide (e.1 = w)

theorem q_pop (w w' : Way) : ∀ L : List En, qOf (popL L w) w' = if w = w' then (qOf L w').tail else qOf L w'
  | [] => by simp [popL, qOf]
  | e :: L => by
    have ih := q_pop w w' L
    unfold popL at ih ⊢
    by_cases h : e.1 = w
    · simp only [List.eraseP_cons, h, decide_true, cond_true, q_cons]
      by_cases hw : w = w'
      · simp [hw]
      · simp [hw]
    · simp only [List.eraseP_cons, h, decide_false, cond_false, q_cons, ih]
      by_cases hw : w = w'
      · subst hw
        simp [h]
      · simp [hw]
theorem p_pop (w w' : Way) : ∀ L : List En, pkOf (popL L w) w' = if w = w' then (pkOf L w').tail else pkOf L w'
  | [] => by simp [popL, pkOf]
  | e :: L => by
    have ih := p_pop w w' L
    unfold popL at ih ⊢
    by_cases h : e.1 = w
    · simp only [List.eraseP_cons, h, decide_true, cond_true, p_cons]
      by_cases hw : w = w'
      · simp [hw]
      · simp [hw]
    · simp only [List.eraseP_cons, h, decide_false, cond_false, p_cons, ih]
      by_cases hw : w = w'
      · subst hw
        simp [h]
      · simp [hw]
theorem first_in {w : Way} : ∀ {L : List En} {k : Nat} {ks : List Nat}, qOf L w = k :: ks → ∃ x xs, pkOf L w = x :: xs ∧ (w, k, x) ∈ L ∧ L.length = (popL L w).length + 1 ∧ ∀ e, e ∈ popL L w → e ∈ L ∧ ((L.map (·.2.1)).Nodup → e.2.1 ≠ k)
  | [], k, ks, h => by simp [qOf] at h
  | e :: L, k, ks, h => by
    obtain ⟨we, ke, xe⟩ := e
    rw [q_cons] at h
    by_cases hw : we = w
    · subst hw
      simp only [if_pos] at h
      cases h
      refine ⟨xe, pkOf L we, by rw [p_cons]; simp, by simp, by simp [popL], fun e he => ?_⟩
      have he' : e ∈ L := by simpa [popL] using he
      refine ⟨by simp [he'], fun hn => ?_⟩
      simp only [List.map_cons, List.nodup_cons] at hn
      intro hh
      exact hn.1 (by rw [← hh]; exact List.mem_map_of_mem he')
    · simp only [hw, if_false] at h
      obtain ⟨x, xs, h1, h2, h3, h4⟩ := first_in h
      refine ⟨x, xs, by rw [p_cons]; simp [hw, h1], by simp [h2], by simp [popL, hw] at h3 ⊢; omega, fun e he => ?_⟩
      have he' : e = (we, ke, xe) ∨ e ∈ popL L w := by
        simp only [popL, List.eraseP_cons, hw, decide_false, cond_false] at he
        simpa [popL] using he
      rcases he' with rfl | he'
      · refine ⟨by simp, fun hn => ?_⟩
        simp only [List.map_cons, List.nodup_cons] at hn
        intro hh
        exact hn.1 (by rw [show ke = k from hh]; exact List.mem_map_of_mem h2)
      · obtain ⟨g1, g2⟩ := h4 e he'
        refine ⟨by simp [g1], fun hn => ?_⟩
        simp only [List.map_cons, List.nodup_cons] at hn
        exact g2 hn.2

end Go.Proofs.Ytcmmlgdbpnogjaa
