/-
  EACH OPERATION IS SOUND, part 4: slices of slices, strings of bytes, comparisons.
-/
import Derived.Test.YtdobnaldfmpimaaAbsOps3
import Derived.Laws.BytesString
import Derived.Laws.BytesArg
import Derived.Laws.Pointers
import Derived.Lib.SliceRun
import Derived.Laws.Cover3
set_option linter.unusedSimpArgs false
set_option linter.unusedVariables false
namespace Go.Abs

section
variable {P : Program} {ρ : Ren} {H H' : Heap} {w : World}

def Vro (ρ : Ren) : Option Value → Option Value → Prop
  | none, none => True
  | some v, some v' => Vr ρ v v'
  | _, _ => False

/-- a bound, as the model asks it -/
theorem bnd_sound {d : Nat} {x x' : Option Value} {n : Nat} (hx : Vro ρ x x') (h : bnd d x = some n) :
    (x' = none ∧ n = d) ∨ ∃ k i, x' = some (.int k i) ∧ 0 ≤ i ∧ i.toNat = n := by
  cases x with
  | none =>
    cases x' with
    | none => left; simp [bnd] at h; exact ⟨rfl, h.symm⟩
    | some _ => exact hx.elim
  | some v =>
    cases x' with
    | none => exact hx.elim
    | some v' =>
      right
      cases v <;> simp [bnd] at h
      obtain ⟨h0, h1⟩ := h
      have := Vr.eq_of_flat hx rfl
      subst this
      exact ⟨_, _, rfl, h0, h1⟩

theorem run_bound {x' : Option Value} {n d y : Nat} {code : BoundsCode} (h : (x' = none ∧ n = d) ∨ ∃ k i, x' = some (.int k i) ∧ 0 ≤ i ∧ i.toNat = n) (hy : x'.isSome = true → n ≤ y) (w : World) :
    ((match x' with | some v => Instr.sliceBound v y code | none => pure d : Sem Nat)).run P w = .ok n w := by
  rcases h with ⟨rfl, rfl⟩ | ⟨k, i, rfl, h0, h1⟩
  · rfl
  · have := hy rfl
    simp only
    rw [run_sliceBound w k i y code h0 (by omega), h1]

theorem run_sliceBounds {lo hi mx : Option Value} {l h m len cap dm : Nat} {isSlice : Bool}
    (h1 : (lo = none ∧ l = 0) ∨ ∃ k i, lo = some (.int k i) ∧ 0 ≤ i ∧ i.toNat = l) (h2 : (hi = none ∧ h = len) ∨ ∃ k i, hi = some (.int k i) ∧ 0 ≤ i ∧ i.toNat = h)
    (h3 : (mx = none ∧ dm = cap) ∨ ∃ k i, mx = some (.int k i) ∧ 0 ≤ i ∧ i.toNat = m ∧ dm = m ∧ hi ≠ none) (hlh : l ≤ h) (hhm : h ≤ dm) (hmc : mx.isSome = true → m ≤ cap) (w : World) :
    (Instr.sliceBounds isSlice len cap lo hi mx).run P w = .ok (l, h, dm) w := by
  rcases h3 with ⟨rfl, rfl⟩ | ⟨k3, i3, rfl, h30, h31, rfl, hne⟩
  · rcases h2 with ⟨rfl, rfl⟩ | ⟨k2, i2, rfl, h20, h21⟩
    · rcases h1 with ⟨rfl, rfl⟩ | ⟨k1, i1, rfl, h10, h11⟩
      · simp [Instr.sliceBounds]
      · simp only [Instr.sliceBounds, Sem.run_bind, Sem.run_pure, Result.andThen_ok]
        rw [run_sliceBound w k1 i1 _ _ h10 (by omega)]; simp [h11]
    · rcases h1 with ⟨rfl, rfl⟩ | ⟨k1, i1, rfl, h10, h11⟩
      · simp only [Instr.sliceBounds, Sem.run_bind, Sem.run_pure, Result.andThen_ok]
        rw [run_sliceBound w k2 i2 _ _ h20 (by omega)]; simp [h21]
      · simp only [Instr.sliceBounds, Sem.run_bind, Sem.run_pure, Result.andThen_ok]
        rw [run_sliceBound w k2 i2 _ _ h20 (by omega)]
        simp only [Result.andThen_ok]
        rw [run_sliceBound w k1 i1 _ _ h10 (by omega)]; simp [h21, h11]
  · have hm := hmc rfl
    rcases h2 with ⟨rfl, rfl⟩ | ⟨k2, i2, rfl, h20, h21⟩
    · exact absurd rfl hne
    · rcases h1 with ⟨rfl, rfl⟩ | ⟨k1, i1, rfl, h10, h11⟩
      · simp only [Instr.sliceBounds, Sem.run_bind, Sem.run_pure, Result.andThen_ok]
        rw [run_sliceBound w k3 i3 _ _ h30 (by omega)]
        simp only [Result.andThen_ok]
        rw [run_sliceBound w k2 i2 _ _ h20 (by omega)]; simp [h21, h31]
      · simp only [Instr.sliceBounds, Sem.run_bind, Sem.run_pure, Result.andThen_ok]
        rw [run_sliceBound w k3 i3 _ _ h30 (by omega)]
        simp only [Result.andThen_ok]
        rw [run_sliceBound w k2 i2 _ _ h20 (by omega)]
        simp only [Result.andThen_ok]
        rw [run_sliceBound w k1 i1 _ _ h10 (by omega)]; simp [h21, h11, h31]

theorem bnd_max {d c : Nat} {x x' y : Option Value} {n : Nat} (hx : Vro ρ x x') (h : bnd d x = some n) (hhi : x'.isSome = true → y ≠ none) :
    (x' = none ∧ c = c ∧ n = d) ∨ (∃ k i, x' = some (.int k i) ∧ 0 ≤ i ∧ i.toNat = n) := by
  rcases bnd_sound hx h with ⟨h1, h2⟩ | h
  · exact .inl ⟨h1, rfl, h2⟩
  · exact .inr h

theorem slc_sound (hr : Rel P ρ (getH H) w) {t e : TypeId} {sz by' : Nat} (ht : P.underlying t = some (.slice e)) (hs : infoB P e = some (sz, by'))
    {v v' r : Value} {lo lo' hi hi' mx mx' : Option Value} (hv : Vr ρ v v') (hlo : Vro ρ lo lo') (hhi : Vro ρ hi hi') (hmx : Vro ρ mx mx') (hmh : mx.isSome = true → hi ≠ none)
    (h : slc P sz v lo hi mx H = some (r, H')) : H' = H ∧ ∃ v'', (Instr.sliceAt t v' lo' hi' mx').run P w = .ok v'' w ∧ Vr ρ r v'' := by
  have hat : ∀ x, (Instr.sliceAt t x lo' hi' mx').run P w = (Instr.slice t x lo' hi' mx').run P w := by
    intro x; simp [Instr.sliceAt, run_underlying ht]
  have hmh' : ∀ {k i}, mx' = some (.int k i) → hi' ≠ none := by
    intro k i e
    subst e
    cases mx with
    | none => exact hmx.elim
    | some m =>
      have := hmh rfl
      cases hi with
      | none => exact absurd rfl this
      | some _ => cases hi' with
        | none => exact hhi.elim
        | some _ => simp
  unfold slc at h
  split at h
  · split at h
    · rename_i e1 e2 e3
      injection h with h; injection h with h1 h2; subst h1; subst h2
      cases hv with
      | same _ =>
        refine ⟨rfl, .slice none 0 0, ?_, .same rfl⟩
        rw [hat]
        have b3 := bnd_sound hmx e3
        have hb := run_sliceBounds (P := P) (isSlice := true) (len := 0) (cap := 0) (bnd_sound hlo e1) (bnd_sound hhi e2) (dm := 0) (m := 0)
          (by rcases b3 with ⟨a, b⟩ | ⟨k, i, a, b, c⟩
              · exact .inl ⟨a, rfl⟩
              · exact .inr ⟨k, i, a, b, c, rfl, hmh' a⟩) (Nat.le_refl _) (Nat.le_refl _) (fun _ => Nat.le_refl _) w
        simp [Instr.slice, run_underlying ht, hb, run_sizeOf hs]
    · cases h
  · rename_i b o len cap
    split at h
    · rename_i cs e' k hb
      split at h
      · rename_i l h' m e1 e2 e3
        split at h
        · rename_i hc
          obtain ⟨hlh, hhm, hmc, hkr⟩ := hc
          injection h with h; injection h with h1 h2; subst h1; subst h2
          have b1 := bnd_sound hlo e1
          have b2 := bnd_sound hhi e2
          have b3 := bnd_sound hmx e3
          refine ⟨rfl, ?_⟩
          rw [hat]
          cases hv with
          | same hl => simp [litCell] at hl
          | @slice0 _ _ pl a hpl =>
            have hm0 : m = 0 := by omega
            have hh0 : h' = 0 := by omega
            have hl0 : l = 0 := by omega
            subst hm0; subst hh0; subst hl0
            have hb := run_sliceBounds (P := P) (isSlice := true) (len := 0) (cap := 0) b1 b2 (dm := 0) (m := 0)
              (by rcases b3 with ⟨a, b⟩ | ⟨k, i, a, b, c⟩
                  · exact .inl ⟨a, rfl⟩
                  · exact .inr ⟨k, i, a, b, c, rfl, hmh' a⟩) (Nat.le_refl _) (Nat.le_refl _) (fun _ => Nat.le_refl _) w
            refine ⟨.slice (some a) 0 0, by simp [Instr.slice, run_underlying ht, hb, run_sizeOf hs], ?_⟩
            simpa using Vr.slice0 (o := o) (a := a) hpl
          | @slice _ _ _ _ cap' pl hpl hn hcc hroom =>
            -- the bound that holds in the model
            obtain ⟨dm, hdm, hbm⟩ : ∃ dm, m ≤ dm ∧ dm ≤ cap' ∧ ((mx' = none ∧ dm = cap') ∨ ∃ k i, mx' = some (.int k i) ∧ 0 ≤ i ∧ i.toNat = m ∧ dm = m ∧ hi' ≠ none) := by
              rcases b3 with ⟨a, b⟩ | ⟨k, i, a, b, c⟩
              · exact ⟨cap', by omega, Nat.le_refl _, .inl ⟨a, rfl⟩⟩
              · exact ⟨m, Nat.le_refl _, by omega, .inr ⟨k, i, a, b, c, rfl, hmh' a⟩⟩
            obtain ⟨hdc, hbm⟩ := hbm
            have hb := run_sliceBounds (P := P) (isSlice := true) (len := len) (cap := cap') b1 b2 hbm hlh (by omega) (fun _ => by omega) w
            refine ⟨.slice (if dm = l then some ⟨pl.c, pl.base + o, none⟩ else some ⟨pl.c, pl.base + o + l * sz, none⟩) (h' - l) (dm - l), ?_, ?_⟩
            · simp [Instr.slice, run_underlying ht, hb, run_sizeOf hs, add_eq]
            · by_cases hd : dm = l
              · have e4 : h' - l = 0 := by omega
                have e5 : m - l = 0 := by omega
                have e6 : dm - l = 0 := by omega
                rw [if_pos hd, e4, e5, e6]
                exact .slice0 hpl
              · rw [if_neg hd]
                have := Vr.slice (ρ := ρ) (o := o + l * sz) (n := h' - l) (cap := m - l) (cap' := dm - l) hpl (by omega) (by omega) (by
                  intro e2 T hT
                  have h1 := hroom e2 T hT
                  -- the block's element is the slice's
                  have hB := hr.blk b pl _ hpl (by simpa [getH] using ‹H[b]? = some (Blk.cells cs e' k)›)
                  obtain ⟨ccs, ce, lo0, hi0, ho, hcs, hfz, hrow, hnrow⟩ := hB
                  have hk : k = .row := by
                    cases hk : decide (k = Kind.row) with
                    | true => simpa using hk
                    | false => rw [hnrow (by simpa using hk)] at hT; cases hT
                  have hsz := hkr hk
                  rw [hrow hk] at hT
                  injection hT with hT; injection hT with hT1 hT2
                  subst hT1
                  rw [hsz] at h1 ⊢
                  have hmul : l * sz + (dm - l) * sz ≤ cap' * sz := by rw [← Nat.add_mul]; exact Nat.mul_le_mul_right _ (by omega)
                  omega)
                simpa [Nat.add_assoc] using this
        · cases h
      · cases h
    · cases h
  · cases h

theorem slcA_sound (hr : Rel P ρ (getH H) w) {t e : TypeId} {n sz by' : Nat} (ht : P.underlying t = some (.array n e)) (hs : infoB P e = some (sz, by'))
    {v v' r : Value} {lo lo' hi hi' : Option Value} (hv : Vr ρ v v') (hlo : Vro ρ lo lo') (hhi : Vro ρ hi hi')
    (h : slcA n sz v lo hi H = some (r, H')) : H' = H ∧ ∃ v'', (Instr.sliceAt t v' lo' hi' none).run P w = .ok v'' w ∧ Vr ρ r v'' := by
  unfold slcA at h
  split at h
  · rename_i b o
    split at h
    · rename_i cs e' k hb
      split at h
      · rename_i l h' e1 e2
        split at h
        · rename_i hc
          obtain ⟨hlh, hhn, hk⟩ := hc
          injection h with h; injection h with h1 h2; subst h1; subst h2
          obtain ⟨pl, hpl, rfl⟩ := hv.ptr_inv
          have hbr := run_sliceBounds (P := P) (isSlice := false) (len := n) (cap := n) (bnd_sound hlo e1) (bnd_sound hhi e2) (m := 0) (.inl ⟨rfl, rfl⟩) hlh hhn (fun h => by cases h) w
          refine ⟨rfl, .slice (some (if n = l then ⟨pl.c, pl.base + o, none⟩ else ⟨pl.c, pl.base + o + l * sz, none⟩)) (h' - l) (n - l), ?_, ?_⟩
          · simp [Instr.sliceAt, run_underlying ht, Instr.sureAddr, hbr, run_sizeOf hs, add_eq]
          · by_cases hd : n = l
            · have e4 : h' - l = 0 := by omega
              have e6 : n - l = 0 := by omega
              rw [if_pos hd, e4, e6]
              exact .slice0 hpl
            · rw [if_neg hd]
              have := Vr.slice (ρ := ρ) (o := o + l * sz) (n := h' - l) (cap := n - l) (cap' := n - l) hpl (by omega) (Nat.le_refl _) (by
                intro e2 T hT
                obtain ⟨ccs, ce, lo0, hi0, ho, hcs, hfz, hrow, hnrow⟩ := hr.blk b pl _ hpl hb
                rw [hnrow (by rw [hk]; simp)] at hT; cases hT)
              simpa [Nat.add_assoc] using this
        · cases h
      · cases h
    · cases h
  · cases h

/-! ### strings of bytes -/

theorem bytesOf_some : ∀ {l : List Value} {bs : List UInt8}, bytesOf l = some bs → ∃ ns : List Int, l = ns.map (Value.int .u8) ∧ bs = ns.map fun n => UInt8.ofNat n.toNat
  | [], bs, h => by simp [bytesOf] at h; exact ⟨[], rfl, by simp [h]⟩
  | v :: l, bs, h => by
    unfold bytesOf at h
    split at h
    · rename_i hh; cases hh
    · rename_i n r' hh
      injection hh with h1 h2; subst h1; subst h2
      cases hb : bytesOf l with
      | none => simp [hb] at h
      | some bs' =>
        simp [hb] at h
        obtain ⟨ns, rfl, rfl⟩ := bytesOf_some hb
        exact ⟨n :: ns, rfl, by simp [h]⟩
    · cases h

theorem toStr_sound (hr : Rel P ρ (getH H) w) {s d e : TypeId} (hs : P.underlying s = some (.slice e)) (he : P.underlying e = some (.int .u8)) (hd : P.underlying d = some .string)
    {v v' r : Value} (hv : Vr ρ v v') (h : toStr v H = some (r, H')) : H' = H ∧ (convert s d v').run P w = .ok r w ∧ flat r = true := by
  unfold toStr at h
  split at h
  · injection h with h; injection h with h1 h2; subst h1; subst h2
    cases hv with
    | same _ =>
      refine ⟨rfl, ?_, rfl⟩
      rw [run_convert_bytes_string w s d e none 0 0 hs he hd]
      simp [Conv.bytesToString]
  · rename_i b o n c
    split at h
    · rename_i h0
      injection h with h; injection h with h1 h2; subst h1; subst h2; subst h0
      have fin0 : ∀ (a : Addr) (c' : Nat), (convert s d (.slice (some a) 0 c')).run P w = .ok (.string .empty) w := by
        intro a c'
        rw [run_convert_bytes_string w s d e (some a) 0 c' hs he hd, run_bytesToString w a 0 c' [] (by rfl)]
        rfl
      refine ⟨rfl, ?_, rfl⟩
      cases hv with
      | same hl => simp [litCell] at hl
      | @slice _ _ _ _ cap' pl hpl _ _ _ => exact fin0 _ _
      | @slice0 _ _ pl a hpl => exact fin0 _ _
    split at h
    · rename_i cs e' k hb
      split at h
      · rename_i hlen
        split at h
        · rename_i bs hbs
          injection h with h; injection h with h1 h2; subst h1; subst h2
          refine ⟨rfl, ?_, rfl⟩
          obtain ⟨ns, hns, hbs'⟩ := bytesOf_some hbs
          have fin : ∀ (a : Addr) (c' : Nat), (loadCells a n).run P w = .ok (ns.map (Value.int .u8)).toArray w → (convert s d (.slice (some a) n c')).run P w = .ok (.string ⟨bs.toArray⟩) w := by
            intro a c' hl
            rw [run_convert_bytes_string w s d e (some a) n c' hs he hd, run_bytesToString w a n c' ns hl, foldl_push_bytes, hbs']
            simp [ByteArray.empty, ByteArray.emptyWithCapacity]
            rfl
          cases hv with
          | same hl => simp [litCell] at hl
          | @slice _ _ _ _ cap' pl hpl _ _ _ =>
            apply fin
            obtain ⟨ys, hyl, hys, hcell⟩ := (hr.blk b pl _ hpl hb).read hlen
            have hrun := run_loadCells_list (P := P) w ⟨pl.c, pl.base + o, none⟩ ys hcell
            rw [hyl] at hrun
            have : ys = ns.map (Value.int .u8) := by
              rw [hns] at hys
              apply List.ext_getElem?
              intro i
              cases hi : (ns.map (Value.int .u8))[i]? with
              | none =>
                apply List.getElem?_eq_none
                rw [← hys.1]
                exact List.getElem?_eq_none_iff.1 hi
              | some x =>
                obtain ⟨y, hy, hxy⟩ := hys.get hi
                rw [hy]
                have hm := List.mem_of_getElem? hi
                simp only [List.mem_map] at hm
                obtain ⟨z, _, rfl⟩ := hm
                rw [hxy.eq_of_flat rfl]
            rw [this] at hrun
            exact hrun
          | @slice0 _ _ pl a hpl =>
            apply fin
            simp at hns
            have : ns = [] := by cases ns <;> simp_all
            subst this
            rfl
        · cases h
      · cases h
    · cases h
  · cases h

/-! ### comparisons -/

theorem eqT_flat : ∀ {ks : List Bool} {xs ys : List Value} {b : Bool}, eqT ks xs ys = some b → (∀ x ∈ xs, flat x = true) ∧ (∀ y ∈ ys, flat y = true)
  | ks, xs, ys, b, h => by
    unfold eqT at h
    split at h
    · exact ⟨by simp, by simp⟩
    · rename_i ks' k a xs' k' b' ys'
      split at h
      · cases hr : eqT ks' xs' ys' with
        | none => simp [hr] at h
        | some r =>
          obtain ⟨h2, h3⟩ := eqT_flat hr
          exact ⟨by simp [flat]; exact h2, by simp [flat]; exact h3⟩
      · cases h
    · rename_i ks' a xs' b' ys'
      cases hr : eqT ks' xs' ys' with
      | none => simp [hr] at h
      | some r =>
        obtain ⟨h2, h3⟩ := eqT_flat hr
        exact ⟨by simp [flat]; exact h2, by simp [flat]; exact h3⟩
    · cases h

theorem Vrs.eq_of_flat {xs ys : List Value} (h : Vrs ρ xs ys) (hf : ∀ x ∈ xs, flat x = true) : ys = xs := by
  induction xs generalizing ys with
  | nil => exact h.nil_left
  | cons x xs ih =>
    obtain ⟨y, ys', rfl, hy, hs⟩ := h.cons_left
    rw [hy.eq_of_flat (hf x (by simp)), ih hs fun z hz => hf z (by simp [hz])]

/-- the fields of a struct of numbers, held against each other -/
theorem run_eqFields (d : Nat) (xs ys : Array Value) : ∀ (fs : List Field) (k : Nat) (ks : List Bool) (b : Bool), kindsL P k fs = some ks →
    eqT ks (xs.toList.drop k) (ys.toList.drop k) = some b → (Op.eqFields (d + 1) xs ys fs).run P w = .ok b w
  | [], k, ks, b, hf, h => by
    simp only [kindsL, Option.some.injEq] at hf
    subst hf
    unfold eqT at h
    split at h <;> simp_all
    subst h; simp [Op.eqFields]
  | f :: fs, k, ks, b, hf, h => by
    simp only [kindsL] at hf
    split at hf
    · rename_i hc
      obtain ⟨hoff, hname⟩ := hc
      have px : ∀ (zs : Array Value) (z : Value) (zr : List Value), aggOf P f.type = some false → zs.toList.drop k = z :: zr → (part f.type zs f.offset).run P w = .ok z w := by
        intro zs z zr hagg hz
        have hk : k < zs.toList.length := by
          rcases Nat.lt_or_ge k zs.toList.length with hk | hk
          · exact hk
          · rw [List.drop_eq_nil_of_le hk] at hz; cases hz
        have : zs.toList[k]? = some z := by
          have := congrArg (fun l : List Value => l[0]?) hz
          simpa using this
        rw [Array.getElem?_toList] at this
        simp [part, run_isAgg hagg, hoff, this]
      have tl : ∀ (zs : Array Value) (z : Value) (zr : List Value), zs.toList.drop k = z :: zr → zs.toList.drop (k + 1) = zr := by
        intro zs z zr hz
        have := congrArg List.tail hz
        simpa using this
      split at hf
      · rename_i kk hu
        have hagg : aggOf P f.type = some false := by simp [aggOf, hu]
        cases hks : kindsL P (k + 1) fs with
        | none => simp [hks] at hf
        | some ks' =>
          simp [hks] at hf
          subst hf
          unfold eqT at h
          split at h
          · rename_i hh _ _; cases hh
          · rename_i ks2 k1 a xs' k2 b' ys' e1 e2 e3
            injection e1 with _ e1; subst e1
            split at h
            · rename_i hk
              subst hk
              cases hr : eqT ks' xs' ys' with
              | none => simp [hr] at h
              | some r =>
                rw [hr] at h; injection h with h; subst h
                have ih := run_eqFields d xs ys fs (k + 1) ks' r hks (by rw [tl xs _ _ e2, tl ys _ _ e3]; exact hr)
                simp only [Op.eqFields, hname, not_false_eq_true, if_true, ne_eq, Sem.run_bind, px xs _ _ hagg e2, px ys _ _ hagg e3, Result.andThen_ok, run_equalIn_int w d f.type k1 kk a b' hu]
                cases hab : (a == b') with
                | false => simp
                | true => simp [ih]
            · cases h
          · rename_i hh _ _; cases hh
          · cases h
      · rename_i hu
        have hagg : aggOf P f.type = some false := by simp [aggOf, hu]
        cases hks : kindsL P (k + 1) fs with
        | none => simp [hks] at hf
        | some ks' =>
          simp [hks] at hf
          subst hf
          unfold eqT at h
          split at h
          · rename_i hh _ _; cases hh
          · rename_i hh _ _; cases hh
          · rename_i ks2 a xs' b' ys' e1 e2 e3
            injection e1 with _ e1; subst e1
            cases hr : eqT ks' xs' ys' with
            | none => simp [hr] at h
            | some r =>
              rw [hr] at h; injection h with h; subst h
              have ih := run_eqFields d xs ys fs (k + 1) ks' r hks (by rw [tl xs _ _ e2, tl ys _ _ e3]; exact hr)
              simp only [Op.eqFields, hname, not_false_eq_true, if_true, ne_eq, Sem.run_bind, px xs _ _ hagg e2, px ys _ _ hagg e3, Result.andThen_ok, run_equalIn_bool' w d f.type a b' hu]
              cases hab : (a == b') with
              | false => simp
              | true => simp [ih]
          · cases h
      · cases hf
    · cases hf

theorem kindsOf_some {t : TypeId} {ks : List Bool} (h : kindsOf P t = some ks) : P.underlying t = some (.struct (P.fieldsOf t)) ∧ P.stoodInHeld t = false ∧ P.eqGuardType P.depth t = false ∧ kindsL P 0 (P.fieldsOf t).toList = some ks := by
  unfold kindsOf at h
  split at h
  · rename_i fs hu
    split at h
    · rename_i hc
      have : P.fieldsOf t = fs := by simp [Program.fieldsOf, hu]
      rw [this]
      exact ⟨hu, hc.1, hc.2, h⟩
    · cases h
  · cases h

theorem run_equalIn_agg' (d : Nat) {t : TypeId} {ks : List Bool} {xs ys : Array Value} {b : Bool} (hk : kindsOf P t = some ks) (h : eqT ks xs.toList ys.toList = some b) (w : World) :
    (Op.equalIn (d + 2) t (.agg xs) (.agg ys)).run P w = .ok b w := by
  obtain ⟨h1, h2, h3, h4⟩ := kindsOf_some hk
  rw [run_equalIn_struct w (d + 1) t xs ys h1 h2]
  exact run_eqFields d xs ys _ 0 ks b h4 (by simpa using h)

theorem eqIn_ptr1 {t e : TypeId} (d : Nat) (p : Option Addr) (hu : P.underlying t = some (.pointer e)) (w : World) : (Op.equalIn (d + 1) t (.pointer none) (.pointer p)).run P w = .ok p.isNone w := by
  cases p <;> simp [Op.equalIn, run_underlying hu]
theorem eqIn_ptr2 {t e : TypeId} (d : Nat) (p : Option Addr) (hu : P.underlying t = some (.pointer e)) (w : World) : (Op.equalIn (d + 1) t (.pointer p) (.pointer none)).run P w = .ok p.isNone w := by
  cases p <;> simp [Op.equalIn, run_underlying hu]
theorem eqIn_sl1 {t e : TypeId} (d : Nat) (p : Option Addr) (a b a' b' : Nat) (hu : P.underlying t = some (.slice e)) (w : World) : (Op.equalIn (d + 1) t (.slice none a b) (.slice p a' b')).run P w = .ok p.isNone w := by
  cases p <;> simp [Op.equalIn, run_underlying hu]
theorem eqIn_sl2 {t e : TypeId} (d : Nat) (p : Option Addr) (a b a' b' : Nat) (hu : P.underlying t = some (.slice e)) (w : World) : (Op.equalIn (d + 1) t (.slice p a b) (.slice none a' b')).run P w = .ok p.isNone w := by
  cases p <;> simp [Op.equalIn, run_underlying hu]
theorem eqIn_map {t k e : TypeId} (d : Nat) (p : Option Nat) (hu : P.underlying t = some (.map k e)) (w : World) : (Op.equalIn (d + 1) t (.map p) (.map none)).run P w = .ok p.isNone w := by
  cases p <;> simp [Op.equalIn, run_underlying hu]
theorem eqIn_func0 {t : TypeId} {ps rs : Array TypeId} {v : Bool} (d : Nat) (hu : P.underlying t = some (.func ps rs v)) (w : World) : (Op.equalIn (d + 1) t .nilFunc .nilFunc).run P w = .ok true w := by
  simp [Op.equalIn, run_underlying hu]
theorem eqIn_func1 {t : TypeId} {ps rs : Array TypeId} {v : Bool} (d : Nat) (f : Fn) (x y : Array Value) (hu : P.underlying t = some (.func ps rs v)) (w : World) : (Op.equalIn (d + 1) t (.func f x y) .nilFunc).run P w = .ok false w := by
  simp [Op.equalIn, run_underlying hu]

theorem nilKind_ptr {t : TypeId} {p : Option Addr} (h : nilKind P t (.pointer p) = true) : ∃ e, P.underlying t = some (.pointer e) := by
  unfold nilKind at h; split at h <;> simp_all
theorem nilKind_sl {t : TypeId} {p : Option Addr} {a b : Nat} (h : nilKind P t (.slice p a b) = true) : ∃ e, P.underlying t = some (.slice e) := by
  unfold nilKind at h; split at h <;> simp_all
theorem nilKind_map {t : TypeId} {p : Option Nat} (h : nilKind P t (.map p) = true) : ∃ k e, P.underlying t = some (.map k e) := by
  unfold nilKind at h; split at h <;> simp_all
theorem nilKind_func {t : TypeId} (h : nilKind P t .nilFunc = true) : ∃ ps rs v, P.underlying t = some (.func ps rs v) := by
  unfold nilKind at h; split at h <;> simp_all

/-- what '==' and '!=' come to -/
def EqRuns (P : Program) (t : TypeId) (x' y' : Value) (b : Bool) (w : World) : Prop :=
  (∀ (op : BinOp) (a c : Operand), (eqGuard op t a c x' y').run P w = .ok () w) ∧ (binOp .eql t x' y').run P w = .ok (.bool b) w ∧ (binOp .neq t x' y').run P w = .ok (.bool !b) w

theorem EqRuns.of {t : TypeId} {x' y' : Value} {b : Bool} {w : World} (h : (Op.equalIn (9999 + 1) t x' y').run P w = .ok b w) (hg : ∀ (op : BinOp) (a c : Operand), (eqGuard op t a c x' y').run P w = .ok () w)
    (he : ∀ w, (binOp .eql t x' y').run P w = (do pure (.bool (← Op.equal t x' y')) : Sem Value).run P w) (hn : ∀ w, (binOp .neq t x' y').run P w = (do pure (.bool (!(← Op.equal t x' y'))) : Sem Value).run P w) : EqRuns P t x' y' b w := by
  have h' : (Op.equal t x' y').run P w = .ok b w := h
  refine ⟨hg, ?_, ?_⟩
  · rw [he]; simp [h']
  · rw [hn]; simp [h']

theorem eqAny_sound {t : TypeId} {x x' y y' : Value} {b : Bool} (hx : Vr ρ x x') (hy : Vr ρ y y') (h : eqAny P t x y = some b) (w : World) : EqRuns P t x' y' b w := by
  unfold eqAny at h
  split at h
  · rename_i xs ys
    split at h
    · rename_i ks hk
      obtain ⟨f1, f2⟩ := eqT_flat h
      have e1 : x' = .agg xs := by
        cases hx with
        | same hl => rfl
        | @agg _ x2 hl h1 => have : xs.toList = x2.toList := (Vrs.eq_of_flat ⟨hl, h1⟩ f1).symm; rw [Array.ext' this]
      have e2 : y' = .agg ys := by
        cases hy with
        | same hl => rfl
        | @agg _ x2 hl h1 => have : ys.toList = x2.toList := (Vrs.eq_of_flat ⟨hl, h1⟩ f2).symm; rw [Array.ext' this]
      subst e1; subst e2
      refine .of (run_equalIn_agg' 9998 hk h w) (fun op a c => run_eqGuard_agg w op t a c xs ys (kindsOf_some hk).2.2.1) (fun w => ?_) (fun w => ?_)
      · rfl
      · rfl
    · cases h
  · split at h
    · rename_i hc
      simp only [Bool.and_eq_true] at hc
      obtain ⟨hn1, hn2⟩ := hc
      have gd : ∀ (p q : Value), (∀ xs, p ≠ .agg xs) → p ≠ .nilIface → ∀ (op : BinOp) (a c : Operand), (eqGuard op t a c p q).run P w = .ok () w := by
        intro p q h1 h2 op a c
        cases op <;> (try (rfl)) <;> (cases p <;> first | rfl | (exact absurd rfl h2) | (exact absurd rfl (h1 _)))
      unfold eqV at h
      split at h
      · injection h with h; subst h
        obtain ⟨e, hu⟩ := nilKind_ptr hn1
        cases hx; cases hy
        exact .of (eqIn_ptr1 9999 none hu w) (gd _ _ (by simp) (by simp)) (fun _ => rfl) (fun _ => rfl)
      · injection h with h; subst h
        obtain ⟨e, hu⟩ := nilKind_ptr hn1
        cases hx
        cases hy with
        | same hl => simp [litCell] at hl
        | ptr _ => exact .of (eqIn_ptr1 9999 (some _) hu w) (gd _ _ (by simp) (by simp)) (fun _ => rfl) (fun _ => rfl)
      · injection h with h; subst h
        obtain ⟨e, hu⟩ := nilKind_ptr hn1
        cases hy
        cases hx with
        | same hl => simp [litCell] at hl
        | ptr _ => exact .of (eqIn_ptr2 9999 (some _) hu w) (gd _ _ (by simp) (by simp)) (fun _ => rfl) (fun _ => rfl)
      · injection h with h; subst h
        obtain ⟨e, hu⟩ := nilKind_sl hn1
        cases hx; cases hy
        exact .of (eqIn_sl1 9999 none 0 0 0 0 hu w) (gd _ _ (by simp) (by simp)) (fun _ => rfl) (fun _ => rfl)
      · injection h with h; subst h
        obtain ⟨e, hu⟩ := nilKind_sl hn1
        cases hy
        cases hx with
        | same hl => simp [litCell] at hl
        | slice => exact .of (eqIn_sl2 9999 (some _) _ _ 0 0 hu w) (gd _ _ (by simp) (by simp)) (fun _ => rfl) (fun _ => rfl)
        | slice0 => exact .of (eqIn_sl2 9999 (some _) _ _ 0 0 hu w) (gd _ _ (by simp) (by simp)) (fun _ => rfl) (fun _ => rfl)
      · injection h with h; subst h
        obtain ⟨e, hu⟩ := nilKind_sl hn1
        cases hx
        cases hy with
        | same hl => simp [litCell] at hl
        | slice => exact .of (eqIn_sl1 9999 (some _) 0 0 _ _ hu w) (gd _ _ (by simp) (by simp)) (fun _ => rfl) (fun _ => rfl)
        | slice0 => exact .of (eqIn_sl1 9999 (some _) 0 0 _ _ hu w) (gd _ _ (by simp) (by simp)) (fun _ => rfl) (fun _ => rfl)
      · injection h with h; subst h
        obtain ⟨k, e, hu⟩ := nilKind_map hn1
        cases hx; cases hy
        exact .of (eqIn_map 9999 none hu w) (gd _ _ (by simp) (by simp)) (fun _ => rfl) (fun _ => rfl)
      · injection h with h; subst h
        obtain ⟨k, e, hu⟩ := nilKind_map hn1
        cases hy
        cases hx with
        | same hl => simp [litCell] at hl
        | map _ => exact .of (eqIn_map 9999 (some _) hu w) (gd _ _ (by simp) (by simp)) (fun _ => rfl) (fun _ => rfl)
      · injection h with h; subst h
        obtain ⟨ps, rs, v, hu⟩ := nilKind_func hn1
        cases hx; cases hy
        exact .of (eqIn_func0 9999 hu w) (gd _ _ (by simp) (by simp)) (fun _ => rfl) (fun _ => rfl)
      · injection h with h; subst h
        obtain ⟨ps, rs, v, hu⟩ := nilKind_func hn2
        cases hy
        cases hx with
        | same hl => simp [litCell] at hl
        | func => exact .of (eqIn_func1 9999 _ _ _ hu w) (gd _ _ (by simp) (by simp)) (fun _ => rfl) (fun _ => rfl)
      · cases h
    · cases h

theorem purF_run {s : Sem Value} {r : Value} (h : purF P s = some r) (w : World) : s.run P w = .ok r w ∧ flat r = true := by
  unfold purF at h
  split at h
  · rename_i r' hp
    split at h
    · rename_i hf
      injection h with h; subst h
      exact ⟨pur_run _ _ hp w, hf⟩
    · cases h
  · cases h

theorem bin_sound {op : BinOp} {t : TypeId} {x x' y y' r : Value} (hx : Vr ρ x x') (hy : Vr ρ y y') (h : bin P op t x y = some r) (a c : Operand) (w : World) :
    (do eqGuard op t a c x' y'; binOp op t x' y' : Sem Value).run P w = .ok r w ∧ flat r = true := by
  unfold bin at h
  split at h
  · rename_i hf
    simp only [Bool.and_eq_true] at hf
    rw [hx.eq_of_flat hf.1, hy.eq_of_flat hf.2]
    have hg : (eqGuard op t a c x y).run P w = .ok () w := by
      cases x <;> simp [flat] at hf <;> cases y <;> simp [flat] at hf <;> cases op <;> rfl
    exact ⟨by simp only [Sem.run_bind, hg, Result.andThen_ok]; exact (purF_run h w).1, (purF_run h w).2⟩
  · split at h
    · cases he : eqAny P t x y with
      | none => simp [he] at h
      | some b =>
        simp [he] at h; subst h
        obtain ⟨h1, h2, h3⟩ := eqAny_sound hx hy he w
        exact ⟨by simp only [Sem.run_bind, h1, Result.andThen_ok, h2], rfl⟩
    · cases he : eqAny P t x y with
      | none => simp [he] at h
      | some b =>
        simp [he] at h; subst h
        obtain ⟨h1, h2, h3⟩ := eqAny_sound hx hy he w
        exact ⟨by simp only [Sem.run_bind, h1, Result.andThen_ok, h3], rfl⟩
    · cases h

end
end Go.Abs
