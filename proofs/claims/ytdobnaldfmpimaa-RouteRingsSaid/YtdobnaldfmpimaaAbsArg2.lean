/-
  ARGUMENTS THAT HOLD SLICES WITHIN SLICES.
-/
import Derived.Test.YtdobnaldfmpimaaAbsOwn
import Derived.SizedLaws
set_option linter.unusedSimpArgs false
set_option linter.unusedVariables false
namespace Go.Abs
open Go.ChangeShapes Go.WideShapes Go.ChangeAt Go.RowKit Go.Deep

theorem In.addV {P : Program} {W : World} {H : Heap} {ρ : Ren} (h : In P W H ρ) (c o : Nat) (cs : List Value) (e : TypeId) {ccs : Array Value} {ce : TypeId} {fr : Nat × Nat} (hb : W.heap[c]? = some (.cells ccs ce fr))
    (hc : ∀ (i : Nat) (v : Value), cs[i]? = some v → ∃ v', ccs[o + i]? = some v' ∧ Vr ρ v v') : In P W (H ++ [.cells cs e .ro]) (ρ.upd H.length ⟨c, o, none⟩) := by
  have hlt : c < W.heap.size := by
    by_cases hx : c < W.heap.size
    · exact hx
    · rw [Array.getElem?_eq_none (by omega)] at hb
      cases hb
  have hle : ρ.le (ρ.upd H.length ⟨c, o, none⟩) := Ren.le_upd _ (h.dom _ (Nat.le_refl _))
  have hblk : ∀ b, b < H.length → (H ++ [.cells cs e .ro])[b]? = H[b]? := fun b hb => List.getElem?_append_left hb
  have hnew : (H ++ [Blk.cells cs e .ro])[H.length]? = some (.cells cs e .ro) := by simp
  have old : ∀ b pl, ρ b = some pl → b < H.length := fun b pl hp => by
    by_cases hx : b < H.length
    · exact hx
    · rw [h.dom b (by omega)] at hp
      cases hp
  have hro : ∀ b pl, ρ.upd H.length ⟨c, o, none⟩ b = some pl → wr (H ++ [.cells cs e .ro])[b]? = false := by
    intro b pl hp
    unfold Ren.upd at hp
    split at hp
    · rename_i hbl
      subst hbl
      rw [hnew]
      rfl
    · rw [hblk b (old b pl hp)]
      exact h.ro b pl hp
  refine ⟨⟨?_, ?_, ?_⟩, hro, ?_⟩
  · intro b pl hp
    unfold Ren.upd at hp
    split at hp
    · cases hp
      exact hlt
    · exact h.rel.lt b pl hp
  · intro b pl x hp hx
    unfold Ren.upd at hp
    split at hp
    · rename_i hbl
      subst hbl
      cases hp
      have hx' : (H ++ [Blk.cells cs e .ro])[H.length]? = some x := hx
      rw [hnew] at hx'
      cases hx'
      obtain ⟨lo, hi⟩ := fr
      exact ⟨ccs, ce, lo, hi, hb, fun i v hi => (let ⟨v', h1, h2⟩ := hc i v hi; ⟨v', h1, h2.mono hle⟩), fun hk => absurd rfl hk, fun hk => (by cases hk), fun _ => rfl⟩
    · have hx' : (H ++ [Blk.cells cs e .ro])[b]? = some x := hx
      rw [hblk b (old b pl hp)] at hx'
      exact (h.rel.blk b pl x hp hx').mono hle
  · intro b1 b2 p1 p2 hne h1 h2 hw
    rw [hro b1 p1 h1] at hw
    cases hw
  · intro b hb
    unfold Ren.upd
    simp only [List.length_append, List.length_cons, List.length_nil] at hb
    rw [if_neg (by omega)]
    exact h.dom b (by omega)


def contig (P : Program) : Nat → List (TypeId × Nat) → Nat → Bool
  | o, [], tot => o == tot
  | o, (t, off) :: l, tot => off == o && contig P (o + P.cellsOf t) l tot

/-- types that are read whole: numbers, bools, strings, slices and structs of such -/
def okA (P : Program) (S : List TypeId) (t : TypeId) : Bool := match P.underlying t with
  | some .bool => true
  | some (.int _) => true
  | some .string => true
  | some (.slice e) => decide (0 < P.cellsOf e) && S.contains e
  | some (.struct fs) => (fs.toList.all fun f => S.contains f.type) && contig P 0 (fs.toList.map fun f => (f.type, f.offset)) (P.cellsOf t)
  | _ => false

/-- cells that read as of a type, in a heap -/
def Rp (P : Program) (G : Heap) : Nat → TypeId → List Value → Prop
  | 0, _, _ => False
  | n + 1, t, cs => match P.underlying t with
    | some .bool => ∃ b, cs = [.bool b]
    | some (.int k) => ∃ i, cs = [.int k i] ∧ (Lit.int k i).wf = true
    | some .string => ∃ s : ByteArray, cs = [.string s] ∧ s.size ≤ reachBytes
    | some (.slice e) => ∃ u b rows, cs = [u] ∧ Sl G u (P.cellsOf e) b rows ∧ rows.length * P.bytesOf e ≤ reachBytes ∧ (u = .slice none 0 0 ∨ ∃ c, u = .slice (some ⟨c, 0, none⟩) rows.length rows.length) ∧ ∀ r ∈ rows, r.length = P.cellsOf e ∧ Rp P G n e r
    | some (.struct fs) => cs.length = P.cellsOf t ∧ ∀ f ∈ fs.toList, Rp P G n f.type ((cs.drop f.offset).take (P.cellsOf f.type))
    | _ => False

def KeepRO (H H' : Heap) : Prop := ∀ (b : Nat) (cs : List Value) (e : TypeId), H[b]? = some (.cells cs e .ro) → H'[b]? = some (.cells cs e .ro)

theorem KeepRO.app (H G : Heap) : KeepRO H (H ++ G) := fun b cs e h => by
  rw [List.getElem?_append_left (List.getElem?_eq_some_iff.mp h).1, h]
theorem KeepRO.refl (H : Heap) : KeepRO H H := fun _ _ _ h => h
theorem KeepRO.trans {H H' H'' : Heap} (h : KeepRO H H') (h' : KeepRO H' H'') : KeepRO H H'' := fun b cs e hb => h' b cs e (h b cs e hb)

theorem Sl.ro {H H' : Heap} {v : Value} {sz b : Nat} {rows : List (List Value)} (h : Sl H v sz b rows) (hk : KeepRO H H') : Sl H' v sz b rows :=
  ⟨h.len, h.at_, fun h0 => by
    obtain ⟨e, he⟩ := h.blk h0
    exact ⟨e, hk _ _ _ he⟩⟩

theorem Rp.keep {P : Program} {G G' : Heap} (hk : KeepRO G G') : ∀ (n : Nat) (t : TypeId) (cs : List Value), Rp P G n t cs → Rp P G' n t cs
  | 0, _, _, h => h
  | n + 1, t, cs, h => by
    unfold Rp at h ⊢
    split at h
    · exact h
    · exact h
    · exact h
    · obtain ⟨u, b, rows, h1, h2, h4, h5, h3⟩ := h
      exact ⟨u, b, rows, h1, h2.ro hk, h4, h5, fun r hr => ⟨(h3 r hr).1, Rp.keep hk n _ r (h3 r hr).2⟩⟩
    · exact ⟨h.1, fun f hf => Rp.keep hk n _ _ (h.2 f hf)⟩
    · exact h

theorem In.dead {P : Program} {W : World} {H : Heap} {ρ : Ren} (h : In P W H ρ) (hW : 0 < W.heap.size) : In P W (H ++ [.dead]) (ρ.upd H.length ⟨0, 0, none⟩) := by
  have hle : ρ.le (ρ.upd H.length ⟨0, 0, none⟩) := Ren.le_upd _ (h.dom _ (Nat.le_refl _))
  have hblk : ∀ b, b < H.length → (H ++ [Blk.dead])[b]? = H[b]? := fun b hb => List.getElem?_append_left hb
  have hnew : (H ++ [Blk.dead])[H.length]? = some .dead := by simp
  have old : ∀ b pl, ρ b = some pl → b < H.length := fun b pl hp => by
    by_cases hx : b < H.length
    · exact hx
    · rw [h.dom b (by omega)] at hp
      cases hp
  have hro : ∀ b pl, ρ.upd H.length ⟨0, 0, none⟩ b = some pl → wr (H ++ [Blk.dead])[b]? = false := by
    intro b pl hp
    unfold Ren.upd at hp
    split at hp
    · rename_i hbl
      subst hbl
      rw [hnew]
      rfl
    · rw [hblk b (old b pl hp)]
      exact h.ro b pl hp
  refine ⟨⟨?_, ?_, ?_⟩, hro, ?_⟩
  · intro b pl hp
    unfold Ren.upd at hp
    split at hp
    · cases hp
      exact hW
    · exact h.rel.lt b pl hp
  · intro b pl x hp hx
    unfold Ren.upd at hp
    split at hp
    · rename_i hbl
      subst hbl
      have hx' : (H ++ [Blk.dead])[H.length]? = some x := hx
      rw [hnew] at hx'
      cases hx'
      trivial
    · have hx' : (H ++ [Blk.dead])[b]? = some x := hx
      rw [hblk b (old b pl hp)] at hx'
      exact (h.rel.blk b pl x hp hx').mono hle
  · intro b1 b2 p1 p2 hne h1 h2 hw
    rw [hro b1 p1 h1] at hw
    cases hw
  · intro b hb
    unfold Ren.upd
    simp only [List.length_append, List.length_cons, List.length_nil] at hb
    rw [if_neg (by omega)]
    exact h.dom b (by omega)

/-- the heap is not empty, or no cell is a slice that lies in it -/
def Hok (W : World) (cs : List Value) : Prop := 0 < W.heap.size ∨ ∀ v ∈ cs, ∀ a n c, v ≠ .slice (some a) n c

theorem weightsAll_mem {H : Type} {P : Program} {e : TypeId} : ∀ {ds : List (DataW H)} {d : DataW H}, d ∈ ds → ∀ n ∈ d.weights P e, n ∈ DataW.weightsAll P e ds
  | d0 :: ds, d, hd, n, hn => by
    simp only [DataW.weightsAll, List.mem_append]
    rcases List.mem_cons.mp hd with rfl | hd
    · exact .inl hn
    · exact .inr (weightsAll_mem hd n hn)
  | [], _, hd, _, _ => by cases hd

/-- no slice and no text of what is read is larger than memory -/
def Fit {H : Type} (P : Program) (t : TypeId) (d : DataW H) : Prop := ∀ n ∈ d.weights P t, n ≤ reachBytes

section
variable {Hh : Type} {enc : TypeId × Value → Hh} {P : Program} {W : World} {S : List TypeId}

/-- one after another -/
theorem read_list {n : Nat} (ih : ∀ (t : TypeId) (cs : List Value) (x : DataW Hh × List MemPlace), t ∈ S → DataW.trod enc P W 0 (fun _ => true) true n t cs = some x → Fit P t x.1 → Hok W cs → ∀ (H : Heap) (ρ : Ren), In P W H ρ →
      ∃ (G : Heap) (ρ' : Ren) (cs' : List Value), In P W (H ++ G) ρ' ∧ ρ.le ρ' ∧ Vrs ρ' cs' cs ∧ Rp P (H ++ G) n t cs') :
    ∀ (l : List (TypeId × List Value)), (∀ p ∈ l, p.1 ∈ S ∧ ∃ x, DataW.trod enc P W 0 (fun _ => true) true n p.1 p.2 = some x ∧ Fit P p.1 x.1 ∧ Hok W p.2) → ∀ (H : Heap) (ρ : Ren), In P W H ρ →
      ∃ (G : Heap) (ρ' : Ren) (l' : List (List Value)), In P W (H ++ G) ρ' ∧ ρ.le ρ' ∧ l'.length = l.length ∧ ∀ (i : Nat) (p : TypeId × List Value) (c : List Value), l[i]? = some p → l'[i]? = some c → Vrs ρ' c p.2 ∧ Rp P (H ++ G) n p.1 c
  | [], _, H, ρ, hi => ⟨[], ρ, [], by simpa using hi, Ren.le_refl _, rfl, fun i p c h => by simp at h⟩
  | p :: l, hl, H, ρ, hi => by
    obtain ⟨hp, x, hx, hw, hk⟩ := hl p (by simp)
    obtain ⟨G1, ρ1, c1, i1, le1, v1, r1⟩ := ih p.1 p.2 x hp hx hw hk H ρ hi
    obtain ⟨G2, ρ2, l2, i2, le2, hlen, hr⟩ := read_list ih l (fun q hq => hl q (by simp [hq])) (H ++ G1) ρ1 i1
    refine ⟨G1 ++ G2, ρ2, c1 :: l2, by rw [← List.append_assoc]; exact i2, Ren.le_trans le1 le2, by simp [hlen], ?_⟩
    rw [← List.append_assoc]
    intro i q c hq hc
    cases i with
    | zero =>
      simp only [List.getElem?_cons_zero, Option.some.injEq] at hq hc
      subst hq hc
      exact ⟨v1.mono le2, Rp.keep (KeepRO.app _ _) _ _ _ r1⟩
    | succ i =>
      simp only [List.getElem?_cons_succ] at hq hc
      exact hr i q c hq hc

theorem Vrs.flatten {ρ : Ren} : ∀ (xs ys : List (List Value)), xs.length = ys.length → (∀ (i : Nat) (x y : List Value), xs[i]? = some x → ys[i]? = some y → Vrs ρ x y) → Vrs ρ xs.flatten ys.flatten
  | [], [], _, _ => Vrs.nil ρ
  | x :: xs, y :: ys, h, hv => by
    simp only [List.flatten_cons]
    exact Vrs.append (hv 0 x y rfl rfl) (Vrs.flatten xs ys (by simpa using h) fun i a b ha hb => hv (i + 1) a b ha hb)
  | [], _ :: _, h, _ => by simp at h
  | _ :: _, [], h, _ => by simp at h

theorem contig_flat (P : Program) (cs : List Value) : ∀ (l : List (TypeId × Nat)) (o tot : Nat), contig P o l tot = true → cs.length = tot → (l.map fun f => (cs.drop f.2).take (P.cellsOf f.1)).flatten = cs.drop o
  | [], o, tot, h, hl => by
    simp only [contig, beq_iff_eq] at h
    simp [h, ← hl]
  | (t, off) :: l, o, tot, h, hl => by
    simp only [contig, Bool.and_eq_true, beq_iff_eq] at h
    obtain ⟨rfl, h⟩ := h
    simp only [List.map_cons, List.flatten_cons]
    rw [contig_flat P cs l _ tot h hl, ← List.drop_drop, List.take_append_drop]

theorem contig_piece (P : Program) : ∀ (l : List (TypeId × Nat)) (o tot : Nat) (css : List (List Value)), contig P o l tot = true → css.length = l.length →
    (∀ (i : Nat) (f : TypeId × Nat) (c : List Value), l[i]? = some f → css[i]? = some c → c.length = P.cellsOf f.1) →
    ∀ (i : Nat) (f : TypeId × Nat) (c : List Value), l[i]? = some f → css[i]? = some c → o ≤ f.2 ∧ (css.flatten.drop (f.2 - o)).take (P.cellsOf f.1) = c
  | [], _, _, _, _, _, _, i, f, c, hf, _ => by simp at hf
  | (t, off) :: l, o, tot, [], _, h, _, i, f, c, _, hc => by simp at h
  | (t, off) :: l, o, tot, c0 :: css, h, hl, hlen, i, f, c, hf, hc => by
    simp only [contig, Bool.and_eq_true, beq_iff_eq] at h
    obtain ⟨rfl, h⟩ := h
    have h0 : c0.length = P.cellsOf t := hlen 0 (t, off) c0 rfl rfl
    cases i with
    | zero =>
      simp only [List.getElem?_cons_zero, Option.some.injEq] at hf hc
      subst hf hc
      refine ⟨Nat.le_refl _, ?_⟩
      simp only [Nat.sub_self, List.drop_zero, List.flatten_cons]
      rw [← h0, List.take_left]
    | succ i =>
      simp only [List.getElem?_cons_succ] at hf hc
      obtain ⟨h1, h2⟩ := contig_piece P l _ tot css h (by simpa using hl) (fun i f c hf hc => hlen (i + 1) f c hf hc) i f c hf hc
      refine ⟨by omega, ?_⟩
      rw [List.flatten_cons, show f.2 - off = c0.length + (f.2 - (off + P.cellsOf t)) by omega, ← List.drop_drop, List.drop_left]
      exact h2

theorem contig_le (P : Program) : ∀ (l : List (TypeId × Nat)) (o tot : Nat), contig P o l tot = true → o ≤ tot ∧ ∀ f ∈ l, f.2 + P.cellsOf f.1 ≤ tot
  | [], o, tot, h => by
    simp only [contig, beq_iff_eq] at h
    exact ⟨by omega, fun f hf => by cases hf⟩
  | (t, off) :: l, o, tot, h => by
    simp only [contig, Bool.and_eq_true, beq_iff_eq] at h
    obtain ⟨rfl, h⟩ := h
    obtain ⟨h1, h2⟩ := contig_le P l _ tot h
    refine ⟨by omega, fun f hf => ?_⟩
    rcases List.mem_cons.mp hf with rfl | hf
    · exact h1
    · exact h2 f hf

theorem okA_of {S : List TypeId} (hz : S.all (okA P S) = true) {t : TypeId} (ht : t ∈ S) : okA P S t = true := List.all_eq_true.mp hz t ht

theorem cell_block {a : Addr} {v : Value} (h : W.cell? a = some v) : a.spot = none ∧ ∃ (ccs : Array Value) (ce : TypeId) (fr : Nat × Nat), W.heap[a.block]? = some (.cells ccs ce fr) ∧ ccs[a.off]? = some v := by
  unfold World.cell? at h
  split at h
  · rename_i c e fr hb
    split at h
    · cases h
    · rename_i hs
      exact ⟨by simpa using hs, c, e, fr, hb, h⟩
  · cases h

theorem trod_strX {fuel : Nat} {t : TypeId} {cs : List Value} {x : DataW Hh × List MemPlace} (ht : P.underlying t = some .string) (h : DataW.trod enc P W 0 (fun _ => true) true fuel t cs = some x) (hw : Fit P t x.1) : ∃ s : ByteArray, cs = [.string s] ∧ s.size ≤ reachBytes := by
  obtain ⟨s, h1, rfl, h2⟩ := DataW.trod_string ht h
  refine ⟨s, h1, ?_⟩
  have := hw s.data.toList.length (by simp [DataW.weights])
  simpa using this

theorem read_in' (hz : S.all (okA P S) = true) : ∀ (n : Nat) (t : TypeId) (cs : List Value) (x : DataW Hh × List MemPlace), t ∈ S → DataW.trod enc P W 0 (fun _ => true) true n t cs = some x → Fit P t x.1 → Hok W cs → ∀ (H : Heap) (ρ : Ren), In P W H ρ →
      ∃ (G : Heap) (ρ' : Ren) (cs' : List Value), In P W (H ++ G) ρ' ∧ ρ.le ρ' ∧ Vrs ρ' cs' cs ∧ Rp P (H ++ G) n t cs' := by
  intro n
  induction n with
  | zero => intro t cs x _ h; simp [DataW.trod] at h
  | succ n ih =>
    intro t cs x hS h hw hW H ρ hi
    have hok := okA_of hz hS
    have rl := read_list (S := S) (W := W) (P := P) (enc := enc) (n := n) ih
    cases hu : P.underlying t with
    | none => simp [okA, hu] at hok
    | some d =>
      cases d with
      | bool =>
        obtain ⟨b, rfl, _⟩ := DataW.trod_bool hu h
        exact ⟨[], ρ, [.bool b], by simpa using hi, Ren.le_refl _, Vrs.cons (.same rfl) (Vrs.nil _), by unfold Rp; rw [hu]; exact ⟨b, rfl⟩⟩
      | int k =>
        obtain ⟨i, rfl, _, hw⟩ := DataW.trod_int hu h
        exact ⟨[], ρ, [.int k i], by simpa using hi, Ren.le_refl _, Vrs.cons (.same rfl) (Vrs.nil _), by unfold Rp; rw [hu]; exact ⟨i, rfl, hw⟩⟩
      | struct fs =>
        obtain ⟨xs, m, hm, hx, hl, hlen, hf⟩ := DataW.trod_struct hu h
        cases hm
        subst hx
        simp only [okA, hu, Bool.and_eq_true, List.all_eq_true, List.contains_iff_mem] at hok
        obtain ⟨hin, hcon⟩ := hok
        obtain ⟨G, ρ', l', i', le', hlen', hr⟩ := rl (fs.toList.map fun f => (f.type, (cs.drop f.offset).take (P.cellsOf f.type))) (fun q hq => by
          obtain ⟨f, hfm, rfl⟩ := List.mem_map.mp hq
          obtain ⟨i, hi'⟩ := List.getElem?_of_mem hfm
          refine ⟨hin f hfm, ?_⟩
          have hfi : fs[i]? = some f := by simpa using hi'
          have hlt : i < xs.length := by
            have := (Array.getElem?_eq_some_iff.mp hfi).1
            omega
          refine ⟨xs[i], by rw [hf i f hfi]; exact List.getElem?_eq_getElem hlt, fun n hn => hw n ?_, hW.imp id fun h v hv => h v (List.mem_of_mem_drop (List.mem_of_mem_take hv))⟩
          simp only [DataW.weights, hu]
          exact DataW.weights_mem_each (j := i) (by rw [List.getElem?_map]; simp [hfi]) (by rw [List.getElem?_map, List.getElem?_eq_getElem hlt]; rfl) n hn) H ρ hi
        rw [List.length_map] at hlen'
        have hflat := contig_flat P cs _ 0 _ hcon hl
        rw [List.map_map, List.drop_zero] at hflat
        have hv : Vrs ρ' l'.flatten cs := by
          rw [← hflat]
          refine Vrs.flatten _ _ (by simp [hlen']) fun i a b ha hb => ?_
          rw [List.getElem?_map] at hb
          obtain ⟨f, hf1, rfl⟩ := Option.map_eq_some_iff.mp hb
          exact (hr i _ a (by rw [List.getElem?_map, hf1]; rfl) ha).1
        refine ⟨G, ρ', l'.flatten, i', le', hv, ?_⟩
        unfold Rp
        rw [hu]
        refine ⟨by rw [hv.1, hl], fun f hfm => ?_⟩
        obtain ⟨i, hi'⟩ := List.getElem?_of_mem hfm
        have hlt : i < l'.length := by
          have := (List.getElem?_eq_some_iff.mp hi').1
          omega
        have hri := hr i _ l'[i] (by rw [List.getElem?_map, hi']; rfl) (List.getElem?_eq_getElem hlt)
        have hlens : ∀ (i : Nat) (g : TypeId × Nat) (c : List Value), (fs.toList.map fun f => (f.type, f.offset))[i]? = some g → l'[i]? = some c → c.length = P.cellsOf g.1 := by
          intro i g c hg hc
          rw [List.getElem?_map] at hg
          obtain ⟨f, hf1, rfl⟩ := Option.map_eq_some_iff.mp hg
          have := (hr i _ c (by rw [List.getElem?_map, hf1]; rfl) hc).1.1
          rw [this]
          have hle := (contig_le P _ 0 _ hcon).2 (f.type, f.offset) (List.mem_map.mpr ⟨f, List.mem_of_getElem? hf1, rfl⟩)
          simp only [List.length_take, List.length_drop]
          simp only at hle
          omega
        have hp := (contig_piece P _ 0 _ l' hcon (by simp [hlen']) hlens i (f.type, f.offset) l'[i] (by rw [List.getElem?_map, hi']; rfl) (List.getElem?_eq_getElem hlt)).2
        rw [Nat.sub_zero] at hp
        rw [hp]
        exact hri.2
      | string =>
        obtain ⟨b, rfl, hb⟩ := trod_strX hu h hw
        exact ⟨[], ρ, [.string b], by simpa using hi, Ren.le_refl _, Vrs.cons (.same rfl) (Vrs.nil _), by unfold Rp; rw [hu]; exact ⟨b, rfl, hb⟩⟩
      | slice e =>
        simp only [okA, hu, Bool.and_eq_true, decide_eq_true_eq, List.contains_iff_mem] at hok
        obtain ⟨hpos, heS⟩ := hok
        rcases DataW.trod_slice hu h with ⟨rfl, _⟩ | ⟨a, len, cap, elems, rest, m, hm, rfl, hx, _, hlc, _, hlen, hel, hsp, _⟩
        · exact ⟨[], ρ, [.slice none 0 0], by simpa using hi, Ren.le_refl _, Vrs.cons (.same rfl) (Vrs.nil _), by
            unfold Rp; rw [hu]; exact ⟨_, 0, [], rfl, ⟨rfl, fun i k h => absurd h (by simp), fun h => absurd h (by simp)⟩, by simp, .inl rfl, fun r hr => by cases hr⟩⟩
        · cases hm
          subst hx
          have hfit : len * P.bytesOf e ≤ reachBytes := by
            have := hw _ (by simp only [DataW.weights, hu]; exact List.mem_cons_self ..)
            simp only [List.length_map] at this
            refine Nat.le_trans (Nat.mul_le_mul_right _ ?_) this
            omega
          by_cases hcap : cap = 0
          · obtain rfl : len = 0 := by omega
            subst hcap
            refine ⟨[.dead], ρ.upd H.length ⟨0, 0, none⟩, [.slice (some ⟨H.length, 0, none⟩) 0 0], hi.dead (hW.resolve_right fun h => h _ (List.mem_singleton.mpr rfl) _ _ _ rfl), Ren.le_upd _ (hi.dom _ (Nat.le_refl _)), Vrs.cons (.slice0 (Ren.upd_same ρ H.length ⟨0, 0, none⟩)) (Vrs.nil _), ?_⟩
            unfold Rp
            rw [hu]
            exact ⟨_, 0, [], rfl, ⟨rfl, fun i k h => absurd h (by simp), fun h => absurd h (by simp)⟩, by simp, .inr ⟨_, rfl⟩, fun r hr => by cases hr⟩
          · -- the elements' cells
            have read : ∀ i, i < cap → ∃ c, W.cells? 0 (a.add (i * P.cellsOf e)) (P.cellsOf e) = some c ∧ (i < len → ∃ y, DataW.trod enc P W 0 (fun _ => true) true n e c = some y ∧ Fit P e y.1) := by
              intro i hi'
              by_cases hil : i < len
              · have := hel i hil
                rw [List.getElem?_eq_getElem (show i < elems.length by omega)] at this
                obtain ⟨c, h1, h2⟩ := Option.bind_eq_some_iff.mp this
                refine ⟨c, h1, fun _ => ⟨_, h2, fun n hn => hw n ?_⟩⟩
                simp only [DataW.weights, hu]
                exact List.mem_cons_of_mem _ (List.mem_append_left _ (weightsAll_mem (List.mem_map_of_mem (List.getElem_mem _)) n hn))
              · obtain ⟨h1, h2⟩ := hsp rfl
                have := h2 (i - len) (by omega)
                rw [List.getElem?_eq_getElem (show i - len < rest.length by omega), show len + (i - len) = i by omega] at this
                obtain ⟨c, h3, h4⟩ := Option.bind_eq_some_iff.mp this
                exact ⟨c, h3, fun hh => absurd hh hil⟩
            obtain ⟨c0, h0, _⟩ := read 0 (by omega)
            have hc0 := (World.cells?_some h0).2.2 0 hpos
            have hc0l := (World.cells?_some h0).2.1
            rw [List.getElem?_eq_getElem (show 0 < c0.length by omega)] at hc0
            have hspot : a.spot = none := by
              have := (cell_block hc0).1
              simpa [Addr.add] using this
            obtain ⟨c, o, sp⟩ := a
            simp only at hspot
            subst hspot
            rw [addr_add, addr_add] at hc0
            obtain ⟨_, ccs, ce, fr, hblk, _⟩ := cell_block hc0
            simp only at hblk
            obtain ⟨V, hV⟩ := choose_lt (α := List Value) (p := fun i cs => W.cells? 0 (Addr.add ⟨c, o, none⟩ (i * P.cellsOf e)) (P.cellsOf e) = some cs ∧ (i < len → ∃ x, DataW.trod enc P W 0 (fun _ => true) true n e cs = some x ∧ Fit P e x.1)) (n := cap) read
            obtain ⟨G, ρ', l', i', le', hlen', hr⟩ := rl ((List.range len).map fun i => (e, V i)) (fun q hq => by
              obtain ⟨i, hi', rfl⟩ := List.mem_map.mp hq
              have hil := List.mem_range.mp hi'
              obtain ⟨x, hx1, hx2⟩ := (hV i (by omega)).2 hil
              exact ⟨heS, x, hx1, hx2, .inl (by
                by_cases hx : 0 < W.heap.size
                · exact hx
                · rw [Array.getElem?_eq_none (by omega)] at hblk
                  cases hblk)⟩) H ρ hi
            simp only [List.length_map, List.length_range] at hlen'
            have hrow : ∀ (i : Nat) (r : List Value), l'[i]? = some r → i < len ∧ Vrs ρ' r (V i) ∧ Rp P (H ++ G) n e r ∧ r.length = P.cellsOf e := by
              intro i r hr'
              have hil : i < len := by
                have := (List.getElem?_eq_some_iff.mp hr').1
                omega
              obtain ⟨h1, h2⟩ := hr i (e, V i) r (by simp [hil]) hr'
              exact ⟨hil, h1, h2, by rw [h1.1]; exact (World.cells?_some (hV i (by omega)).1).2.1⟩
            have hsz : ∀ r ∈ l', r.length = P.cellsOf e := fun r hr' => by
              obtain ⟨i, hi'⟩ := List.getElem?_of_mem hr'
              exact (hrow i r hi').2.2.2
            have hin := i'.addV c o l'.flatten e hblk (fun j v hj => by
              have hjs : j % P.cellsOf e < P.cellsOf e := Nat.mod_lt _ hpos
              have hjj : j = (j / P.cellsOf e) * P.cellsOf e + j % P.cellsOf e := by rw [Nat.mul_comm]; exact (Nat.div_add_mod _ _).symm
              rw [hjj, flat_get _ hsz _ _ hjs] at hj
              obtain ⟨r, hr1, hr2⟩ := Option.bind_eq_some_iff.mp hj
              obtain ⟨hil, hvr, _, _⟩ := hrow _ r hr1
              obtain ⟨v', hv1, hv2⟩ := hvr.get hr2
              refine ⟨v', ?_, hv2⟩
              have := (World.cells?_some (hV _ (by omega : j / P.cellsOf e < cap)).1).2.2 _ hjs
              rw [hv1, addr_add, addr_add] at this
              simp only [World.cell?, hblk] at this
              rw [show o + j = o + j / P.cellsOf e * P.cellsOf e + j % P.cellsOf e by omega]
              simpa using this)
            refine ⟨G ++ [.cells l'.flatten e .ro], ρ'.upd (H ++ G).length ⟨c, o, none⟩, [.slice (some ⟨(H ++ G).length, 0, none⟩) len len], by rw [← List.append_assoc]; exact hin, Ren.le_trans le' (Ren.le_upd _ (i'.dom _ (Nat.le_refl _))), ?_, ?_⟩
            · have := Vr.slice (ρ := ρ'.upd (H ++ G).length ⟨c, o, none⟩) (o := 0) (Ren.upd_same ρ' (H ++ G).length ⟨c, o, none⟩) (Nat.le_refl len) hlc (fun e T h => (by cases h))
              exact Vrs.cons (by simpa using this) (Vrs.nil _)
            · unfold Rp
              rw [hu, ← List.append_assoc]
              refine ⟨_, (H ++ G).length, l', rfl, ⟨by rw [hlen']; rfl, fun i k h => ?_, fun _ => ⟨e, by simp⟩⟩, by rw [hlen']; exact hfit, .inr ⟨_, by rw [hlen']⟩, fun r hr' => ?_⟩
              · rw [r_iAddr _ _ _ _ _ _ _ (by omega) (by omega)]
                simp
              · obtain ⟨i, hi'⟩ := List.getElem?_of_mem hr'
                obtain ⟨_, _, h3, h4⟩ := hrow i r hi'
                exact ⟨h4, Rp.keep (KeepRO.app _ _) _ _ _ h3⟩
      | _ => simp [okA, hu] at hok

theorem read_in (hz : S.all (okA P S) = true) (hW : 0 < W.heap.size) (n : Nat) (t : TypeId) (cs : List Value) (x : DataW Hh × List MemPlace) (hS : t ∈ S) (h : DataW.trod enc P W 0 (fun _ => true) true n t cs = some x) (hw : Fit P t x.1) (H : Heap) (ρ : Ren) (hi : In P W H ρ) :
      ∃ (G : Heap) (ρ' : Ren) (cs' : List Value), In P W (H ++ G) ρ' ∧ ρ.le ρ' ∧ Vrs ρ' cs' cs ∧ Rp P (H ++ G) n t cs' := read_in' hz n t cs x hS h hw (.inl hW) H ρ hi

end
end Go.Abs
