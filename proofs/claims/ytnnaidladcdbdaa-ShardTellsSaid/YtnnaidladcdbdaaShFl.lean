/- A shard in memory (chapter 15): what turns of its flights leaves it a shard. -/
import Derived.Test.YtnnaidladcdbdaaShResult
namespace Go.Proofs.Ytnnaidladcdbdaa
open Go.RowKit Go.ChangeMaps
open KZ (SV sv ZA KK)

variable {w w' : World} {s : ShB} {room : Int} {d d' : List (PK × Option Int)} {rs rs' : List (Int × Option Int × Int)}

/-- What waits in a flight, as a map's pairs. -/
abbrev wl (l : List Int) : List (Int × Value) := l.map fun i => (i, .bool true)

theorem ShAt.ffLt (h : ShAt w s room d rs) : ∀ x ∈ s.ff, x.2.bf < w.heap.size ∧ x.2.bw < w.heap.size := fun x hx => ⟨cell_lt (h.each x hx).lead, (h.each x hx).waits.lt KI⟩

theorem ShAt.ffKeys (h : ShAt w s room d rs) : (s.ff.map Prod.fst).Nodup := by
  have := h.flies.nodup KP
  rwa [List.map_map] at this

theorem ShAt.ffOne (h : ShAt w s room d rs) {x y : PK × Fl} (hx : x ∈ s.ff) (hy : y ∈ s.ff) (e : y.1 = x.1) : y = x := by
  obtain ⟨i, hi, rfl⟩ := List.getElem_of_mem hx
  obtain ⟨j, hj, rfl⟩ := List.getElem_of_mem hy
  have h1 : (s.ff.map Prod.fst)[j]'(by simpa using hj) = (s.ff.map Prod.fst)[i]'(by simpa using hi) := by simpa using e
  have := (List.getElem_inj h.ffKeys).1 h1
  subst this; rfl

theorem ShAt.ffBw (h : ShAt w s room d rs) {x y : PK × Fl} (hx : x ∈ s.ff) (hy : y ∈ s.ff) (e : y.2.bw = x.2.bw) : y = x := by
  obtain ⟨i, hi, rfl⟩ := List.getElem_of_mem hx
  obtain ⟨j, hj, rfl⟩ := List.getElem_of_mem hy
  have h1 : (s.ff.map fun x => x.2.bw)[j]'(by simpa using hj) = (s.ff.map fun x => x.2.bw)[i]'(by simpa using hi) := by simpa using e
  have := (List.getElem_inj h.bw).1 h1
  subst this; rfl

/-- The flights turn, each in the blocks that it has; who waits may be another. -/
theorem ShAt.mapF {G : Nat → Prop} (h : ShAt w s room d rs) (hc : Ch G w w') (g : PK × Fl → PK × Fl) (hg : ∀ y, (g y).1 = y.1 ∧ (g y).2.bf = y.2.bf ∧ (g y).2.bw = y.2.bw)
    (hG : ∀ b, b < w.heap.size → G b → ∃ y ∈ s.ff, b = y.2.bw) (each' : ∀ y ∈ s.ff, FlAt w' (g y).2) : ShAt w' { s with ff := s.ff.map g } room d rs := by
  have lp := cell_lt h.c0
  have lm := h.flies.lt KP
  have lr := h.results.lt KI
  have np : ¬ G s.p := fun hb => by obtain ⟨y, hy, e⟩ := hG _ lp hb; exact (h.pf y hy).2 e.symm
  have nm : ¬ G s.mf := fun hb => by obtain ⟨y, hy, e⟩ := hG _ lm hb; exact (h.mf y hy).2 e.symm
  have nr : ¬ G s.mr := fun hb => by obtain ⟨y, hy, e⟩ := hG _ lr hb; exact (h.mr y hy).2 e.symm
  have nF : ∀ b, s.F b → ¬ G b := fun b hF hb => by obtain ⟨y, hy, e⟩ := hG _ (h.done.lt b hF) hb; exact (h.ff y hy).2 (e ▸ hF)
  have nz : ∀ b, s.Z b → ¬ G b := fun b hZ hb => by obtain ⟨y, hy, e⟩ := hG _ (h.lz b hZ) hb; exact (h.zf y hy).2 (e ▸ hZ)
  have hcell : ∀ o, w'.cell? ⟨s.p, o, none⟩ = w.cell? ⟨s.p, o, none⟩ := fun o => hc.cell (p := ⟨s.p, o, none⟩) lp np
  have all : ∀ {φ : Nat → Nat → Prop}, (∀ x ∈ s.ff, φ x.2.bf x.2.bw) → ∀ x ∈ s.ff.map g, φ x.2.bf x.2.bw := fun {φ} H x hx => by
    obtain ⟨y, hy, rfl⟩ := List.mem_map.1 hx
    obtain ⟨-, h2, h3⟩ := hg y
    rw [h2, h3]; exact H y hy
  exact {
    c0 := by rw [hcell]; exact h.c0
    c1 := by rw [hcell]; exact h.c1
    c2 := by rw [hcell]; exact h.c2
    done := h.done.kept hc nF
    told := h.told.mono (fun x hx y hy => hy.kept hc (fun a ha => nz _ (h.zl x hx a ha)))
    flies := by
      have e : ((s.ff.map g).map fun x => (x.1, Value.pointer (some ⟨x.2.bf, 0, none⟩))) = s.ff.map fun x => (x.1, Value.pointer (some ⟨x.2.bf, 0, none⟩)) := by
        rw [List.map_map]
        refine List.map_congr_left (fun y _ => ?_)
        obtain ⟨h1, h2, -⟩ := hg y
        simp only [Function.comp, h1, h2]
      show MapIs KP.val KP.ok w' s.mf ((s.ff.map g).map fun x => (x.1, Value.pointer (some ⟨x.2.bf, 0, none⟩)))
      rw [e]
      exact h.flies.of_block KP (hc.block _ lm nm)
    each := fun x hx => by
      obtain ⟨y, hy, rfl⟩ := List.mem_map.1 hx
      exact each' y hy
    results := h.results.of_block KI (hc.block _ lr nr)
    tolds := h.tolds.mono (fun x hx y hy => ⟨hy.1.kept hc (fun a ha => nz _ (h.zr x hx a ha)), hy.2⟩)
    zl := h.zl
    zr := h.zr
    fp := h.fp
    fm := h.fm
    fr := h.fr
    ff := all (φ := fun a b => ¬ s.F a ∧ ¬ s.F b) h.ff
    fz := h.fz
    zp := h.zp
    zm := h.zm
    zs := h.zs
    zf := all (φ := fun a b => ¬ s.Z a ∧ ¬ s.Z b) h.zf
    pm := h.pm
    pr := h.pr
    mm := h.mm
    pf := all (φ := fun a b => a ≠ s.p ∧ b ≠ s.p) h.pf
    mf := all (φ := fun a b => a ≠ s.mf ∧ b ≠ s.mf) h.mf
    mr := all (φ := fun a b => a ≠ s.mr ∧ b ≠ s.mr) h.mr
    bw := by
      have e : ((s.ff.map g).map fun x => x.2.bw) = s.ff.map fun x => x.2.bw := by
        rw [List.map_map]
        exact List.map_congr_left (fun y _ => (hg y).2.2)
      show ((s.ff.map g).map fun x => x.2.bw).Nodup
      rw [e]; exact h.bw
    bb := fun x hx y hy => by
      obtain ⟨x', hx', rfl⟩ := List.mem_map.1 hx
      obtain ⟨y', hy', rfl⟩ := List.mem_map.1 hy
      rw [(hg x').2.1, (hg y').2.2]; exact h.bb x' hx' y' hy'
    lz := fun b hb => Nat.lt_of_lt_of_le (h.lz b hb) hc.size }

/-- One flight's waiting ones turn. -/
def setW (k : PK) (ws : List Int) (y : PK × Fl) : PK × Fl := if y.1 = k then (y.1, { y.2 with waits := ws }) else y
theorem setW_keeps (k : PK) (ws : List Int) (y : PK × Fl) : (setW k ws y).1 = y.1 ∧ (setW k ws y).2.bf = y.2.bf ∧ (setW k ws y).2.bw = y.2.bw := by
  unfold setW; split <;> exact ⟨rfl, rfl, rfl⟩

theorem ShAt.setW {x : PK × Fl} (h : ShAt w s room d rs) (hx : x ∈ s.ff) {ws : List Int} (hc : Ch (fun b => b = x.2.bw) w w') (hm : MapIs KI.val KI.ok w' x.2.bw (wl ws)) :
    ShAt w' { s with ff := s.ff.map (setW x.1 ws) } room d rs := by
  refine h.mapF hc _ (setW_keeps _ _) (fun b _ e => ⟨x, hx, e⟩) (fun y hy => ?_)
  have hbf : ∀ o, w'.cell? ⟨y.2.bf, o, none⟩ = w.cell? ⟨y.2.bf, o, none⟩ := fun o => hc.cell (p := ⟨y.2.bf, o, none⟩) (h.ffLt y hy).1 (h.bb y hy x hx)
  unfold Go.Proofs.Ytnnaidladcdbdaa.setW
  split
  · rename_i e
    have := h.ffOne hx hy e
    subst this
    exact ⟨by rw [hbf]; exact (h.each y hy).lead, by rw [hbf]; exact (h.each y hy).map, hm⟩
  · rename_i e
    have hne : y.2.bw ≠ x.2.bw := fun e1 => e (by rw [h.ffBw hx hy e1])
    exact ⟨by rw [hbf]; exact (h.each y hy).lead, by rw [hbf]; exact (h.each y hy).map, (h.each y hy).waits.of_block KI (hc.block _ (h.ffLt y hy).2 hne)⟩

/-- A flight more. -/
theorem ShAt.newF (h : ShAt w s room d rs) (hc : Ch (fun b => b = s.mf) w w') (k : PK) (f : Fl) (hf : FlAt w' f) (h1 : w.heap.size ≤ f.bf) (h2 : w.heap.size ≤ f.bw) (hne : f.bf ≠ f.bw)
    (hm : MapIs KP.val KP.ok w' s.mf ((s.ff.map fun x => (x.1, Value.pointer (some ⟨x.2.bf, 0, none⟩))) ++ [(k, .pointer (some ⟨f.bf, 0, none⟩))])) : ShAt w' { s with ff := s.ff ++ [(k, f)] } room d rs := by
  have lp := cell_lt h.c0
  have lm := h.flies.lt KP
  have lr := h.results.lt KI
  have lf := h.ffLt
  have hcell : ∀ b o, b < w.heap.size → b ≠ s.mf → w'.cell? ⟨b, o, none⟩ = w.cell? ⟨b, o, none⟩ := fun b o hb hF => hc.cell (p := ⟨b, o, none⟩) hb hF
  have nz : ∀ b, s.Z b → b ≠ s.mf := fun b hb e => h.zm (by rw [← e]; exact hb)
  have all : ∀ {φ : Nat → Prop}, (∀ x ∈ s.ff, φ x.2.bf ∧ φ x.2.bw) → (∀ b, w.heap.size ≤ b → φ b) → ∀ x ∈ s.ff ++ [(k, f)], φ x.2.bf ∧ φ x.2.bw := fun {φ} H H' x hx => by
    rcases List.mem_append.1 hx with hx | hx
    · exact H x hx
    · simp only [List.mem_singleton] at hx
      subst hx
      exact ⟨H' _ h1, H' _ h2⟩
  exact {
    c0 := by rw [hcell _ _ lp h.pm]; exact h.c0
    c1 := by rw [hcell _ _ lp h.pm]; exact h.c1
    c2 := by rw [hcell _ _ lp h.pm]; exact h.c2
    done := h.done.kept hc (fun b hb e => h.fm (by rw [← e]; exact hb))
    told := h.told.mono (fun x hx y hy => hy.kept hc (fun a ha => nz _ (h.zl x hx a ha)))
    flies := by
      show MapIs KP.val KP.ok w' s.mf ((s.ff ++ [(k, f)]).map fun x => (x.1, Value.pointer (some ⟨x.2.bf, 0, none⟩)))
      rw [List.map_append]; exact hm
    each := fun x hx => by
      rcases List.mem_append.1 hx with hx | hx
      · exact ⟨by rw [hcell _ _ (lf x hx).1 (h.mf x hx).1]; exact (h.each x hx).lead, by rw [hcell _ _ (lf x hx).1 (h.mf x hx).1]; exact (h.each x hx).map, (h.each x hx).waits.of_block KI (hc.block _ (lf x hx).2 (h.mf x hx).2)⟩
      · simp only [List.mem_singleton] at hx; subst hx; exact hf
    results := h.results.of_block KI (hc.block _ lr h.mm.symm)
    tolds := h.tolds.mono (fun x hx y hy => ⟨hy.1.kept hc (fun a ha => nz _ (h.zr x hx a ha)), hy.2⟩)
    zl := h.zl
    zr := h.zr
    fp := h.fp
    fm := h.fm
    fr := h.fr
    ff := all (φ := fun a => ¬ s.F a) h.ff (fun b hb hF => by have := h.done.lt b hF; omega)
    fz := h.fz
    zp := h.zp
    zm := h.zm
    zs := h.zs
    zf := all (φ := fun a => ¬ s.Z a) h.zf (fun b hb hF => by have := h.lz b hF; omega)
    pm := h.pm
    pr := h.pr
    mm := h.mm
    pf := all (φ := fun a => a ≠ s.p) h.pf (fun b hb => by omega)
    mf := all (φ := fun a => a ≠ s.mf) h.mf (fun b hb => by omega)
    mr := all (φ := fun a => a ≠ s.mr) h.mr (fun b hb => by omega)
    bw := by
      show ((s.ff ++ [(k, f)]).map fun x => x.2.bw).Nodup
      rw [List.map_append]
      refine List.nodup_append.2 ⟨h.bw, by simp, fun a ha b hb => ?_⟩
      obtain ⟨x, hx, rfl⟩ := List.mem_map.1 ha
      simp only [List.map_cons, List.map_nil, List.mem_singleton] at hb
      subst hb
      have := (lf x hx).2; show x.2.bw ≠ f.bw; omega
    bb := fun x hx y hy => by
      rcases List.mem_append.1 hx with hx | hx <;> rcases List.mem_append.1 hy with hy | hy
      · exact h.bb x hx y hy
      · simp only [List.mem_singleton] at hy; subst hy; have := (lf x hx).1; show x.2.bf ≠ f.bw; omega
      · simp only [List.mem_singleton] at hx; subst hx; have := (lf y hy).2; show f.bf ≠ y.2.bw; omega
      · simp only [List.mem_singleton] at hx hy; subst hx; subst hy; exact hne
    lz := fun b hb => Nat.lt_of_lt_of_le (h.lz b hb) hc.size }

/-- A flight is gone. -/
theorem ShAt.delF (h : ShAt w s room d rs) (hc : Ch (fun b => b = s.mf) w w') (k : PK)
    (hm : MapIs KP.val KP.ok w' s.mf ((s.ff.map fun x => (x.1, Value.pointer (some ⟨x.2.bf, 0, none⟩))).filter fun x => x.1 ≠ k)) : ShAt w' { s with ff := del s.ff k } room d rs := by
  have lp := cell_lt h.c0
  have lr := h.results.lt KI
  have lf := h.ffLt
  have hcell : ∀ b o, b < w.heap.size → b ≠ s.mf → w'.cell? ⟨b, o, none⟩ = w.cell? ⟨b, o, none⟩ := fun b o hb hF => hc.cell (p := ⟨b, o, none⟩) hb hF
  have nz : ∀ b, s.Z b → b ≠ s.mf := fun b hb e => h.zm (by rw [← e]; exact hb)
  have sub : ∀ x ∈ del s.ff k, x ∈ s.ff := fun x hx => (List.mem_filter.1 hx).1
  exact { h with
    c0 := by rw [hcell _ _ lp h.pm]; exact h.c0
    c1 := by rw [hcell _ _ lp h.pm]; exact h.c1
    c2 := by rw [hcell _ _ lp h.pm]; exact h.c2
    done := h.done.kept hc (fun b hb e => h.fm (by rw [← e]; exact hb))
    told := h.told.mono (fun x hx y hy => hy.kept hc (fun a ha => nz _ (h.zl x hx a ha)))
    flies := by
      have e : ((s.ff.map fun x => (x.1, Value.pointer (some ⟨x.2.bf, 0, none⟩))).filter fun x => x.1 ≠ k) = (del s.ff k).map fun x => (x.1, Value.pointer (some ⟨x.2.bf, 0, none⟩)) := by
        unfold del; rw [List.filter_map]; rfl
      rw [e] at hm
      exact hm
    each := fun x hx0 => by
      have hx := sub x hx0
      exact ⟨by rw [hcell _ _ (lf x hx).1 (h.mf x hx).1]; exact (h.each x hx).lead, by rw [hcell _ _ (lf x hx).1 (h.mf x hx).1]; exact (h.each x hx).map, (h.each x hx).waits.of_block KI (hc.block _ (lf x hx).2 (h.mf x hx).2)⟩
    results := h.results.of_block KI (hc.block _ lr h.mm.symm)
    tolds := h.tolds.mono (fun x hx y hy => ⟨hy.1.kept hc (fun a ha => nz _ (h.zr x hx a ha)), hy.2⟩)
    ff := fun x hx => h.ff x (sub x hx)
    zf := fun x hx => h.zf x (sub x hx)
    pf := fun x hx => h.pf x (sub x hx)
    mf := fun x hx => h.mf x (sub x hx)
    mr := fun x hx => h.mr x (sub x hx)
    bw := h.bw.sublist (List.filter_sublist.map _)
    bb := fun x hx y hy => h.bb x (sub x hx) y (sub y hy)
    lz := fun b hb => Nat.lt_of_lt_of_le (h.lz b hb) hc.size }

/-- A zone's block more that the shard may hold. -/
theorem ShAt.moreZ {E : Nat → Prop} (h : ShAt w s room d rs) (hE : ∀ b, E b → ¬ s.all b ∧ b < w.heap.size) : ShAt w { s with Z := fun b => s.Z b ∨ E b } room d rs := by
  have ap : s.all s.p := Or.inl rfl
  have am : s.all s.mf := Or.inr (Or.inl rfl)
  have ar : s.all s.mr := Or.inr (Or.inr (Or.inl rfl))
  have aF : ∀ b, s.F b → s.all b := fun b hb => Or.inr (Or.inr (Or.inr (Or.inl hb)))
  have af : ∀ x ∈ s.ff, s.all x.2.bf ∧ s.all x.2.bw := fun x hx => ⟨Or.inr (Or.inr (Or.inr (Or.inr (Or.inr ⟨x, hx, Or.inl rfl⟩)))), Or.inr (Or.inr (Or.inr (Or.inr (Or.inr ⟨x, hx, Or.inr rfl⟩))))⟩
  exact { h with
    zl := fun x hx a ha => Or.inl (h.zl x hx a ha)
    zr := fun x hx a ha => Or.inl (h.zr x hx a ha)
    fz := fun b hb hF => hb.elim (fun hb => h.fz b hb hF) (fun hb => (hE b hb).1 (aF b hF))
    zp := fun hb => hb.elim h.zp (fun hb => (hE _ hb).1 ap)
    zm := fun hb => hb.elim h.zm (fun hb => (hE _ hb).1 am)
    zs := fun hb => hb.elim h.zs (fun hb => (hE _ hb).1 ar)
    zf := fun x hx => ⟨fun hb => hb.elim (h.zf x hx).1 (fun hb => (hE _ hb).1 (af x hx).1), fun hb => hb.elim (h.zf x hx).2 (fun hb => (hE _ hb).1 (af x hx).2)⟩
    lz := fun b hb => hb.elim (h.lz b) (fun hb => (hE b hb).2) }

end Go.Proofs.Ytnnaidladcdbdaa
