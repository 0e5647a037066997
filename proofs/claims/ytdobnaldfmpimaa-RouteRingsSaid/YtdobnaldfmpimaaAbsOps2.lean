/-
  EACH OPERATION IS SOUND, part 2: slices: append, copy, clear, make.
-/
import Derived.Test.YtdobnaldfmpimaaAbsOps
set_option linter.unusedSimpArgs false
set_option linter.unusedVariables false
namespace Go.Abs

section
variable {P : Program} {ρ : Ren} {H H' : Heap} {w : World}

theorem srcLen_sound {v v' : Value} {n : Nat} (hv : Vr ρ v v') (h : srcLen v = some n) (w1 : World) : (Builtin.lenOf v').run P w1 = .ok n w1 := by
  unfold srcLen at h
  split at h
  · injection h with h; subst h
    cases hv; simp [Builtin.lenOf]
  · injection h with h; subst h
    cases hv <;> simp_all [Builtin.lenOf, litCell]
  · injection h with h; subst h
    cases hv; simp [Builtin.lenOf]
  · cases h

theorem strBytes_eq (s : ByteArray) (n : Nat) (hn : n ≤ s.size) : ((s.extract 0 n).data.map fun b => Value.int .u8 b.toNat) = ((strBytes s).take n).toArray := by
  apply Array.ext'
  simp only [Array.toList_map, ByteArray.data_extract, Array.toList_extract, strBytes]
  simp [List.extract, List.map_take]

theorem src_sound (hr : Rel P ρ (getH H) w) {v v' : Value} {sz n : Nat} {new : List Value} (hv : Vr ρ v v') (h : srcCells sz v n H = some new) :
    new.length = n * sz ∧ ∃ ys : List Value, Vrs ρ new ys ∧ ys.length = n * sz ∧ ∀ w1 : World, w1.heap = w.heap → (Builtin.firstCells sz n v').run P w1 = .ok ys.toArray w1 := by
  unfold srcCells at h
  split at h
  · split at h
    · rename_i h0
      injection h with h; subst h; subst h0
      cases hv with
      | same _ => exact ⟨by simp, [], .nil ρ, by simp, fun w1 _ => by simp [Builtin.firstCells]⟩
    · cases h
  · rename_i b o len cap
    split at h
    · rename_i h0
      injection h with h; subst h; subst h0
      cases hv with
      | same hl => simp [litCell] at hl
      | @slice _ _ _ _ cap' pl hpl hn hcc hroom => exact ⟨by simp, [], .nil ρ, by simp, fun w1 _ => by show (loadCells _ (0 * sz)).run P w1 = _; rw [Nat.zero_mul]; rfl⟩
      | @slice0 _ _ pl a hpl => exact ⟨by simp, [], .nil ρ, by simp, fun w1 _ => by show (loadCells _ (0 * sz)).run P w1 = _; rw [Nat.zero_mul]; rfl⟩
    split at h
    · rename_i cs e k hb
      split at h
      · rename_i hc
        injection h with h; subst h
        have hlen : ((cs.drop o).take (n * sz)).length = n * sz := by simp; omega
        refine ⟨hlen, ?_⟩
        have main : ∀ pl, ρ b = some pl → ∀ l c, ∃ ys : List Value, Vrs ρ ((cs.drop o).take (n * sz)) ys ∧ ys.length = n * sz ∧ ∀ w1 : World, w1.heap = w.heap →
            (Builtin.firstCells sz n (.slice (some ⟨pl.c, pl.base + o, none⟩) l c)).run P w1 = .ok ys.toArray w1 := by
          intro pl hpl l c
          obtain ⟨ys, hyl, hys, hcell⟩ := (hr.blk b pl _ hpl hb).read hc.2
          refine ⟨ys, hys, hyl, fun w1 hw1 => ?_⟩
          have hrun := run_loadCells_list (P := P) w1 ⟨pl.c, pl.base + o, none⟩ ys (fun j v hj => by
            have := hcell j v hj
            simpa [World.cell?, hw1] using this)
          rw [hyl] at hrun
          simp [Builtin.firstCells, hrun]
        cases hv with
        | same hl => simp [litCell] at hl
        | @slice _ _ _ _ cap' pl hpl hn hcc hroom => exact main pl hpl _ _
        | @slice0 _ _ pl a hpl =>
          have h0 : n = 0 := by omega
          subst h0
          refine ⟨[], by rw [Nat.zero_mul]; exact Vrs.nil ρ, by rw [Nat.zero_mul]; rfl, fun w1 hw1 => ?_⟩
          show (loadCells a (0 * sz)).run P w1 = _
          rw [Nat.zero_mul]; rfl
      · cases h
    · cases h
  · split at h
    · rename_i s hc
      injection h with h; subst h
      obtain ⟨hn, rfl⟩ := hc
      have hl : ((strBytes s).take n).length = n := by
        have : (strBytes s).length = s.size := by unfold strBytes; rw [List.length_map]; rfl
        simp; omega
      refine ⟨by omega, (strBytes s).take n, ⟨rfl, fun i u v hu hv' => ?_⟩, by omega, fun w1 _ => ?_⟩
      · rw [hu] at hv'; injection hv' with e; subst e
        have hmem := List.mem_of_mem_take (List.mem_of_getElem? hu)
        simp only [strBytes, List.mem_map] at hmem
        obtain ⟨b, _, rfl⟩ := hmem
        exact .same rfl
      · cases hv with
        | same _ =>
          simp only [Builtin.firstCells, Sem.run_pure]
          rw [strBytes_eq s n hn]
    · cases h
  · cases h

theorem run_app_room {ts : Array TypeId} {t tx ty e : TypeId} {sz by' : Nat} (h0 : ts[0]? = some t) (h1 : ts[1]? = some tx) (ht : P.underlying t = some (.slice e)) (htx : (P.underlying tx = some .string) ∨ ∃ x, P.underlying tx = some (.slice x)) (hs : infoB P e = some (sz, by'))
    {base : Option Addr} {len cap n : Nat} {x' : Value} {ys : List Value} (hl : ∀ w1, (Builtin.lenOf x').run P w1 = .ok n w1) (hf : ∀ w1 : World, w1.heap = w.heap → (Builtin.firstCells sz n x').run P w1 = .ok ys.toArray w1)
    (hneed : len + n ≤ cap) {w' : World} (hst : ∀ a, base = some a → (storeCells (a.add (len * sz)) ys).run P w = .ok () w') (hnone : base = none → w' = w) :
    (Builtin.append_ ts ty #[.slice base len cap, x']).run P w = .ok (.slice base (len + n) cap) w' := by
  obtain ⟨i, hi, hi1, hi2⟩ := infoB_some hs
  have hf' := hf w rfl
  have hl' := hl w
  cases base with
  | none =>
    rw [hnone rfl]
    rcases htx with hd | ⟨x, hd⟩ <;> simp [Builtin.append_, run_underlying ht, run_underlying hd, run_sizeOf hs, hl', hf', hneed, h0, h1]
  | some a =>
    have hst' := hst a rfl
    rcases htx with hd | ⟨x, hd⟩ <;> simp [Builtin.append_, run_underlying ht, run_underlying hd, run_sizeOf hs, hl', hf', hneed, hst', h0, h1]

theorem run_app_grow {ts : Array TypeId} {t tx ty e : TypeId} {sz by' : Nat} {z : Value} (h0 : ts[0]? = some t) (h1 : ts[1]? = some tx) (ht : P.underlying t = some (.slice e)) (htx : (P.underlying tx = some .string) ∨ ∃ x, P.underlying tx = some (.slice x)) (hs : infoB P e = some (sz, by')) (hz : zeroT P e = some z)
    {base : Option Addr} {len cap n : Nat} {x' : Value} {ys olds : List Value} (hl : ∀ w1, (Builtin.lenOf x').run P w1 = .ok n w1) (hf : ∀ w1 : World, w1.heap = w.heap → (Builtin.firstCells sz n x').run P w1 = .ok ys.toArray w1)
    (ho : ∀ w1 : World, w1.heap = w.heap → (Builtin.firstCells sz len (.slice base len cap)).run P w1 = .ok olds.toArray w1)
    (hneed : cap < len + n) (hroom : roomy (len + n) by' = true) :
    ∃ c, len + n ≤ c ∧ (Builtin.append_ ts ty #[.slice base len cap, x']).run P w = .ok (.slice (some ⟨w.heap.size, 0, none⟩) (len + n) c)
      (w.drew.alloc (.cells (olds.toArray ++ ys.toArray ++ Builtin.zeroCells z.cells (c - (len + n))) e)) := by
  obtain ⟨i, hi, hi1, hi2⟩ := infoB_some hs
  simp only [roomy, Bool.and_eq_true, decide_eq_true_eq] at hroom
  have hfit : Builtin.nextslicecap (len + n) cap * i.bytes ≤ 281474976710656 := by
    have h3 := nextslicecap_le hneed
    have h2 : Builtin.nextslicecap (len + n) cap * i.bytes ≤ (2 * (len + n) + 256) * by' := by
      rw [hi2]; exact Nat.mul_le_mul_right _ (by omega)
    omega
  have h48 : ¬ (281474976710656 < Builtin.nextslicecap (len + n) cap * i.bytes) := by omega
  have h63 : ¬ (9223372036854775807 < ((len : Int) + (n : Int))) := by omega
  have hn : ¬ (len + n ≤ cap) := by omega
  have hzv : i.zero = some z := by unfold zeroT at hz; simpa [hi] using hz
  refine ⟨grownCap w (len + n) cap e, grownCap_ge _ _ _ _, ?_⟩
  have hf' := hf w.drew rfl
  have ho' := ho w.drew rfl
  have hl' := hl w
  subst hi1
  rcases htx with hd | ⟨x, hd⟩ <;>
    (simp [Builtin.append_, h0, h1, run_underlying ht, run_underlying hd, Go.sizeOf, typeInfo, zeroValue, hi, hzv, hl', hn, h63, h48, Question.forced, hf', ho', newRow, grownCap]
     congr 2; apply Array.ext'; simp)

theorem app_sound (hr : Rel P ρ (getH H) w) {ts : Array TypeId} {t tx ty e : TypeId} {sz by' : Nat} {z : Value} (h0 : ts[0]? = some t) (h1 : ts[1]? = some tx) (ht : P.underlying t = some (.slice e)) (htx : (P.underlying tx = some .string) ∨ ∃ x, P.underlying tx = some (.slice x))
    (hs : infoB P e = some (sz, by')) (hz : zeroT P e = some z) (hzs : z.cells.size = sz) {v v' x x' r : Value} (hv : Vr ρ v v') (hx : Vr ρ x x')
    (hfree : ∀ b, H.length ≤ b → b < H'.length → ρ b = none) (h : app e sz by' v x H = some (r, H')) :
    Runs P (Builtin.append_ ts ty #[v', x']) w (Post P ρ H w r H') := by
  unfold app at h
  split at h
  · cases h
  rename_i n hn
  split at h
  · cases h
  rename_i new hnew
  have hl := fun w1 => srcLen_sound (P := P) hx hn w1
  obtain ⟨hnl, ys, hys, hyl, hf⟩ := src_sound (P := P) hr hx hnew
  have hcell := cellsOf_infoB hs
  -- a new row, of what was and what comes
  have made : ∀ (len cap : Nat) (base : Option Addr) (old olds : List Value), Vrs ρ old olds → old.length = len * sz → (∀ w1 : World, w1.heap = w.heap → (Builtin.firstCells sz len (.slice base len cap)).run P w1 = .ok olds.toArray w1) →
      cap < len + n → roomy (len + n) by' = true → ρ H.length = none →
      ∃ v1 w1 pl, (Builtin.append_ ts ty #[.slice base len cap, x']).run P w = .ok v1 w1 ∧ w.heap.size ≤ pl.c ∧
        Vr (ρ.upd H.length pl) (.slice (some ⟨H.length, 0, none⟩) (len + n) (len + n)) v1 ∧ Step P ρ H w (ρ.upd H.length pl) (H ++ [.cells (old ++ new) e .row]) w1 ∧
        (w1.heap.size = w.heap.size + 1) ∧ (∀ c, c < w.heap.size → w1.heap[c]? = w.heap[c]?) ∧ BRel P (ρ.upd H.length pl) pl (.cells (old ++ new) e .row) w1.heap[pl.c]? ∧ pl.c < w1.heap.size ∧ w1.os = w.os ∧ w1.tape = w.tape ∧ w1.output = w.output := by
    intro len cap base old olds ho hol hof hneed hroom hfr
    obtain ⟨c, hc, hrun⟩ := run_app_grow (w := w) (ty := ty) h0 h1 ht htx hs hz hl hf hof hneed hroom
    have holds : olds.length = len * sz := by rw [← ho.1]; exact hol
    have hzc : ∀ m, (Builtin.zeroCells z.cells m).size = m * sz := by intro m; simp [Builtin.zeroCells, hzs]
    have hsz : (olds.toArray ++ ys.toArray ++ Builtin.zeroCells z.cells (c - (len + n))).size = c * sz := by
      simp only [Array.size_append, List.size_toArray, hzc, holds, hyl]
      rw [← Nat.add_mul, ← Nat.add_mul]
      congr 1; omega
    have hstep := new_sound (w' := w.drew.alloc (.cells (olds.toArray ++ ys.toArray ++ Builtin.zeroCells z.cells (c - (len + n))) e)) hr hfr (e := e) (ho.append hys) .row (lo := 0) (hi := 0)
      (ccs := olds.toArray ++ ys.toArray ++ Builtin.zeroCells z.cells (c - (len + n))) rfl (fun i v hi => by
        have hlt := (List.getElem?_eq_some_iff.1 hi).1
        simp only [List.length_append] at hlt
        rw [← Array.getElem?_toList]
        simp only [Array.toList_append, List.toList_toArray]
        rw [List.getElem?_append_left (by simp; omega)]
        exact hi) (by omega) rfl rfl rfl
    simp only [if_true] at hstep
    refine ⟨_, _, ⟨w.heap.size, 0, some (P.cellsOf e, (olds.toArray ++ ys.toArray ++ Builtin.zeroCells z.cells (c - (len + n))).size)⟩, hrun, Nat.le_refl _, ?_, hstep, by show (w.heap.push _).size = _; simp, ?_, ?_, by show _ < (w.heap.push _).size; simp, rfl, rfl, rfl⟩
    · have := Vr.slice (ρ := ρ.upd H.length ⟨w.heap.size, 0, some (P.cellsOf e, (olds.toArray ++ ys.toArray ++ Builtin.zeroCells z.cells (c - (len + n))).size)⟩) (o := 0) (n := len + n) (cap := len + n) (cap' := c)
        (Ren.upd_same _ _ _) (Nat.le_refl _) hc (by
          intro e' T hT
          simp only [Option.some.injEq, Prod.mk.injEq] at hT
          obtain ⟨rfl, rfl⟩ := hT
          rw [hsz, hcell]; simp)
      simpa using this
    · intro c' hc'
      show (w.heap.push _)[c']? = _
      rw [alloc_get, if_neg (by omega)]
    · exact hstep.rel.blk H.length _ _ (Ren.upd_same _ _ _) (by simp)
  split at h
  · -- onto nil
    cases hv with
    | same _ =>
    split at h
    · rename_i hn0
      injection h with h; injection h with h3 h2; subst h3; subst h2; subst hn0
      refine ⟨_, w, run_app_room (w := w) (w' := w) h0 h1 ht htx hs hl hf (by omega) (fun a ha => by cases ha) (fun _ => rfl), ?_⟩
      exact Post.same hr (.same rfl)
    · rename_i hn0
      split at h
      · rename_i hroom
        injection h with h; injection h with h3 h2; subst h3; subst h2
        have hfr : ρ H.length = none := hfree _ (Nat.le_refl _) (by simp)
        obtain ⟨v1, w1, pl, hrun, _, hvr, hst, _⟩ := made 0 0 none [] [] (.nil ρ) (by simp) (fun w1 _ => by simp [Builtin.firstCells]) (by omega) (by simpa using hroom) hfr
        exact ⟨v1, w1, hrun, _, by simpa using hvr, by simpa using hst⟩
      · cases h
  · rename_i b o len cap
    split at h
    · rename_i cs e' k hb
      split at h
      · -- there is room
        rename_i hroom
        obtain ⟨pl, hpl, a', cap', rfl, hcc, haddr, hroomP⟩ : ∃ pl, ρ b = some pl ∧ ∃ (a' : Addr) (cap' : Nat), v' = .slice (some a') len cap' ∧ cap ≤ cap' ∧ (a' = ⟨pl.c, pl.base + o, none⟩ ∨ (len = 0 ∧ cap = 0)) ∧ (∀ m, m ≤ cap → Vr ρ (.slice (some ⟨b, o, none⟩) m cap) (.slice (some a') m cap')) := by
          cases hv with
          | same hl => simp [litCell] at hl
          | @slice _ _ _ _ cap' pl hpl hn hcc hr' => exact ⟨pl, hpl, _, cap', rfl, hcc, .inl rfl, fun m hm => .slice hpl hm hcc hr'⟩
          | @slice0 _ _ pl a hpl => exact ⟨pl, hpl, a, 0, rfl, Nat.le_refl _, .inr ⟨rfl, rfl⟩, fun m hm => by
              have : m = 0 := by omega
              subst this; exact .slice0 hpl⟩
        split at h
        · rename_i hnil
          injection h with h; injection h with h3 h2; subst h3; subst h2
          subst hnil
          have : ys = [] := by rw [hys.nil_left]
          subst this
          refine ⟨_, w, run_app_room (w := w) (w' := w) h0 h1 ht htx hs hl hf (by omega) (fun a ha => by simp [storeCells]) (fun _ => rfl), ?_⟩
          exact Post.same hr (hroomP _ hroom)
        · rename_i hnil
          split at h
          · rename_i hc
            obtain ⟨hk, hlen, hall⟩ := hc
            injection h with h; injection h with h3 h2; subst h3; subst h2
            have haddr' : a' = ⟨pl.c, pl.base + o, none⟩ := by
              rcases haddr with h | ⟨h1, h2⟩
              · exact h
              · exfalso
                have : n = 0 := by omega
                subst this
                apply hnil
                apply List.length_eq_zero_iff.1; simpa using hnl
            subst haddr'
            obtain ⟨w', hrun, hst⟩ := write_sound (o := o + len * sz) hr hpl hb hk hys (by rw [hnl]; omega) hall
            refine ⟨_, w', run_app_room (w := w) (w' := w') h0 h1 ht htx hs hl hf (by omega) (fun a ha => by injection ha with ha; subst ha; rw [add_eq, Nat.add_assoc]; exact hrun) (fun h => by cases h), ?_⟩
            exact ⟨ρ, hroomP _ hroom, hst⟩
          · cases h
      · -- it grows
        rename_i hnroom
        split at h
        · rename_i hc
          obtain ⟨hk, rfl, hlen, hroom, hall⟩ := hc
          injection h with h; injection h with h3 h2; subst h3; subst h2
          have hfr : ρ H.length = none := hfree _ (Nat.le_refl _) (by simp)
          have hwr : wr H[b]? = true := by rw [hb, hk]; rfl
          have hold : ((cs.drop o).take (len * sz)).length = len * sz := by simp; omega
          -- where the old one dies and the new one lies in new memory
          have fresh : ∀ (pl : Pl), ρ b = some pl → ∀ (base : Addr) (cap' : Nat) (olds : List Value), Vrs ρ ((cs.drop o).take (len * sz)) olds → (∀ w1 : World, w1.heap = w.heap → (Builtin.firstCells sz len (.slice (some base) len cap')).run P w1 = .ok olds.toArray w1) →
              cap' < len + n → Runs P (Builtin.append_ ts ty #[.slice (some base) len cap', x']) w (Post P ρ H w (.slice (some ⟨H.length, 0, none⟩) (len + n) (len + n)) (H.set b .dead ++ [.cells ((cs.drop o).take (len * sz) ++ new) e' .row])) := by
            intro pl0 hpl0 base cap' olds ho hof hlt
            obtain ⟨v1, w1, pl, hrun, hplc, hvr, hst, hsz, hsame, hB, hplt, g1, g2, g3⟩ := made len cap' (some base) _ olds ho hold hof hlt hroom hfr
            refine ⟨v1, w1, hrun, _, hvr, ?_⟩
            refine Step.newOn hr hfr (by simp) (fun b' => ?_) (.inl hplc) (by omega) hplt (fun c _ hc => hsame c hc) hB (by simp) g1 g2 g3
            rw [List.getElem?_set]
            by_cases e : b = b'
            · subst e; right; exact ⟨by simp [lt_of_ne_none hb], pl0, hpl0, hwr⟩
            · left; simp [e]
          cases hv with
          | same hl => simp [litCell] at hl
          | @slice0 _ _ pl a hpl =>
            refine fresh pl hpl a 0 [] (by simpa using Vrs.nil ρ) (fun w1 _ => ?_) (by omega)
            show (loadCells a (0 * sz)).run P w1 = _
            rw [Nat.zero_mul]; rfl
          | @slice _ _ _ _ cap' pl hpl hn' hcc hroomP =>
            have hB := hr.blk b pl _ hpl hb
            obtain ⟨olds, hol, hovr, hocell⟩ := hB.read hlen
            have hof : ∀ w1 : World, w1.heap = w.heap → (Builtin.firstCells sz len (.slice (some ⟨pl.c, pl.base + o, none⟩) len cap')).run P w1 = .ok olds.toArray w1 := by
              intro w1 hw1
              have hrun := run_loadCells_list (P := P) w1 ⟨pl.c, pl.base + o, none⟩ olds (fun j v hj => by
                have := hocell j v hj
                simpa [World.cell?, hw1] using this)
              rw [hol] at hrun
              simp [Builtin.firstCells, hrun]
            by_cases hin : len + n ≤ cap'
            · -- in place: the new block lies where the old one did
              obtain ⟨ccs, ce, lo, hi, ho, hcs, hfz, hrow, hnrow⟩ := hB
              have hroomE := hroomP _ _ (hrow hk)
              rw [hcell] at hroomE
              have hmul : len * sz + n * sz ≤ cap' * sz := by rw [← Nat.add_mul]; exact Nat.mul_le_mul_right _ hin
              have hlt := (Array.getElem?_eq_some_iff.1 ho).1
              have hfit : pl.base + o + len * sz + 0 + ys.length ≤ ccs.size := by rw [hyl]; omega
              have hrun := run_storeCells P pl.c (pl.base + o + len * sz) ce (lo, hi) ys 0 w ccs ho hfit (hfz (by rw [hk]; simp)) (hys.allCells hall)
              -- the world behind
              have hw' : ∃ w', (storeCells ⟨pl.c, pl.base + o + len * sz, none⟩ ys).run P w = .ok () w' ∧ w'.heap.size = w.heap.size ∧ (∀ c : Nat, c ≠ pl.c → w'.heap[c]? = w.heap[c]?) ∧
                  w'.heap[pl.c]? = some (.cells (setArr ccs (pl.base + o + len * sz) ys) ce (lo, hi)) ∧ w'.os = w.os ∧ w'.tape = w.tape ∧ w'.output = w.output := by
                refine ⟨_, hrun, ?_⟩
                split
                · rename_i hnil
                  subst hnil
                  exact ⟨rfl, fun _ _ => rfl, by simpa [setArr] using ho, rfl, rfl, rfl⟩
                · exact ⟨by simp [putBlk], fun c hc => by rw [putBlk_get _ _ _ hlt, if_neg hc], by rw [putBlk_get _ _ _ hlt]; simp, rfl, rfl, rfl⟩
              obtain ⟨w', hrun', hsz', hsame', hblk', hos', htp', hout'⟩ := hw'
              refine ⟨_, w', run_app_room (w := w) (w' := w') h0 h1 ht htx hs hl hf hin (fun a ha => by injection ha with ha; subst ha; rw [add_eq]; exact hrun') (fun h => by cases h), ?_⟩
              refine ⟨ρ.upd H.length ⟨pl.c, pl.base + o, pl.room⟩, ?_, ?_⟩
              · have := Vr.slice (ρ := ρ.upd H.length ⟨pl.c, pl.base + o, pl.room⟩) (o := 0) (n := len + n) (cap := len + n) (cap' := cap') (Ren.upd_same _ _ _) (Nat.le_refl _) hin (by
                  intro e2 T hT
                  have := hroomP e2 T hT
                  simpa using this)
                simpa using this
              · have hle := Ren.le_upd (ρ := ρ) (b := H.length) ⟨pl.c, pl.base + o, pl.room⟩ hfr
                refine Step.newOn hr hfr (by simp) (fun b' => ?_) (.inr ⟨b, pl, hpl, hwr, rfl, by simp [lt_of_ne_none hb]⟩) (by omega) (by rw [hsz']; exact hlt) (fun c hc _ => hsame' c hc) ?_ (by simp) hos' htp' hout'
                · rw [List.getElem?_set]
                  by_cases e2 : b = b'
                  · subst e2; right; exact ⟨by simp [lt_of_ne_none hb], pl, hpl, hwr⟩
                  · left; simp [e2]
                · refine ⟨_, ce, lo, hi, hblk', ?_, ?_, ?_, ?_⟩
                  · intro i u hi'
                    rw [setArr_get _ _ _ (by rw [hyl]; omega)]
                    rw [List.getElem?_append] at hi'
                    split at hi'
                    · rename_i h1
                      rw [hold] at h1
                      rw [if_neg (by simp only; omega)]
                      rw [List.getElem?_take, if_pos h1, List.getElem?_drop] at hi'
                      obtain ⟨v2, h2, h3⟩ := hcs _ _ hi'
                      refine ⟨v2, by simpa [Nat.add_assoc] using h2, h3.mono hle⟩
                    · rename_i h1
                      rw [hold] at h1 hi'
                      have hlt' := (List.getElem?_eq_some_iff.1 hi').1
                      rw [hnl] at hlt'
                      rw [if_pos (by simp only; rw [hyl]; omega)]
                      obtain ⟨v2, h2, h3⟩ := hys.get hi'
                      refine ⟨v2, by simp only; rw [show pl.base + o + i - (pl.base + o + len * sz) = i - len * sz by omega]; exact h2, h3.mono hle⟩
                  · intro _ off hoff
                    rw [setArr_size] at hoff
                    exact hfz (by rw [hk]; simp) off hoff
                  · intro _
                    simp only [setArr_size]
                    exact hrow hk
                  · intro h; exact absurd rfl h
            · exact fresh pl hpl _ _ olds hovr hof (by omega)
        · cases h
    · cases h
  · cases h

end
end Go.Abs
