/- A shard in memory (chapter 15): what is complete, what flies, what waits to be fetched. -/
import Derived.Test.YtnnaidladcdbdaaCopy
import Derived.Test.YtnnaidladcdbdaaRel
import Derived.Test.YtnnaidladcdbdaaMapRange
namespace Go.Proofs.Ytnnaidladcdbdaa
open Go.RowKit Go.ChangeMaps
open KZ (SV sv ZA)

/-- A result's cells: a zone and an error. -/
def rc (v : SV) (e : Int) : List Value := zc (sv v) ++ [.int .i64 e]
abbrev RA (x : SV × Int) : Value := .agg (rc x.1 x.2).toArray

/-- A flight: its two blocks, who leads, who waits. -/
structure Fl where
  bf : Nat
  bw : Nat
  lead : Int
  waits : List Int

/-- A flight in memory. -/
structure FlAt (w : World) (f : Fl) : Prop where
  lead : w.cell? ⟨f.bf, 0, none⟩ = some (.int .i64 f.lead)
  map : w.cell? ⟨f.bf, 1, none⟩ = some (.map (some f.bw))
  waits : MapIs KI.val KI.ok w f.bw (f.waits.map fun i => (i, .bool true))

/-- The blocks of a shard: its own, its two maps', its list's, its flights'; and those of the zones that it holds. -/
structure ShB where
  p : Nat
  pd : Nat
  mf : Nat
  mr : Nat
  F : Nat → Prop
  Z : Nat → Prop
  l : List (PK × SV)
  ff : List (PK × Fl)
  rr : List (Int × SV × Int)

/-- What lies where. -/
structure ShAt (w : World) (s : ShB) (room : Int) (d : List (PK × Option Int)) (rs : List (Int × Option Int × Int)) : Prop where
  c0 : w.cell? ⟨s.p, 0, none⟩ = some (.pointer (some ⟨s.pd, 0, none⟩))
  c1 : w.cell? ⟨s.p, 1, none⟩ = some (.map (some s.mf))
  c2 : w.cell? ⟨s.p, 2, none⟩ = some (.map (some s.mr))
  done : KZ.Is w s.F s.pd room s.l
  told : Rel (Zn w) s.l d
  flies : MapIs KP.val KP.ok w s.mf (s.ff.map fun x => (x.1, .pointer (some ⟨x.2.bf, 0, none⟩)))
  each : ∀ x ∈ s.ff, FlAt w x.2
  results : MapIs KI.val KI.ok w s.mr (s.rr.map fun x => (x.1, RA x.2))
  tolds : Rel (fun v y => Zn w v.1 y.1 ∧ v.2 = y.2) s.rr rs
  zl : ∀ x ∈ s.l, ∀ a, x.2.1 = some a → s.Z a.block
  zr : ∀ x ∈ s.rr, ∀ a, x.2.1.1 = some a → s.Z a.block
  fp : ¬ s.F s.p
  fm : ¬ s.F s.mf
  fr : ¬ s.F s.mr
  ff : ∀ x ∈ s.ff, ¬ s.F x.2.bf ∧ ¬ s.F x.2.bw
  fz : ∀ b, s.Z b → ¬ s.F b
  zp : ¬ s.Z s.p
  zm : ¬ s.Z s.mf
  zs : ¬ s.Z s.mr
  zf : ∀ x ∈ s.ff, ¬ s.Z x.2.bf ∧ ¬ s.Z x.2.bw
  pm : s.p ≠ s.mf
  pr : s.p ≠ s.mr
  mm : s.mf ≠ s.mr
  pf : ∀ x ∈ s.ff, x.2.bf ≠ s.p ∧ x.2.bw ≠ s.p
  mf : ∀ x ∈ s.ff, x.2.bf ≠ s.mf ∧ x.2.bw ≠ s.mf
  mr : ∀ x ∈ s.ff, x.2.bf ≠ s.mr ∧ x.2.bw ≠ s.mr
  bw : (s.ff.map fun x => x.2.bw).Nodup
  bb : ∀ x ∈ s.ff, ∀ y ∈ s.ff, x.2.bf ≠ y.2.bw
  lz : ∀ b, s.Z b → b < w.heap.size

/-- All blocks of a shard. -/
def ShB.all (s : ShB) : Nat → Prop := fun b => b = s.p ∨ b = s.mf ∨ b = s.mr ∨ s.F b ∨ s.Z b ∨ ∃ x ∈ s.ff, b = x.2.bf ∨ b = x.2.bw

theorem cell_lt {w : World} {b o : Nat} {v : Value} (h : w.cell? ⟨b, o, none⟩ = some v) : b < w.heap.size := World.block_lt_of_cell? (a := ⟨b, o, none⟩) _ h

theorem ShAt.lt {w : World} {s : ShB} {room : Int} {d : List (PK × Option Int)} {rs : List (Int × Option Int × Int)} (h : ShAt w s room d rs) : ∀ b, s.all b → b < w.heap.size := by
  intro b hb
  rcases hb with rfl | rfl | rfl | hb | hb | ⟨x, hx, rfl | rfl⟩
  · exact cell_lt h.c0
  · exact h.flies.lt KP
  · exact h.results.lt KI
  · exact h.done.lt b hb
  · exact h.lz b hb
  · exact cell_lt (h.each x hx).lead
  · exact (h.each x hx).waits.lt KI

/-- A change that spares all blocks of a shard spares the shard. -/
theorem ShAt.kept {w w' : World} {s : ShB} {room : Int} {d : List (PK × Option Int)} {rs : List (Int × Option Int × Int)} {E : Nat → Prop} (h : ShAt w s room d rs) (hc : Ch E w w') (hE : ∀ b, s.all b → ¬ E b) : ShAt w' s room d rs := by
  have hcell : ∀ b o, s.all b → w'.cell? ⟨b, o, none⟩ = w.cell? ⟨b, o, none⟩ := fun b o hb => hc.cell (p := ⟨b, o, none⟩) (h.lt b hb) (hE b hb)
  have ap : s.all s.p := Or.inl rfl
  have am : s.all s.mf := Or.inr (Or.inl rfl)
  have ar : s.all s.mr := Or.inr (Or.inr (Or.inl rfl))
  have aF : ∀ b, s.F b → s.all b := fun b hb => Or.inr (Or.inr (Or.inr (Or.inl hb)))
  have aZ : ∀ b, s.Z b → s.all b := fun b hb => Or.inr (Or.inr (Or.inr (Or.inr (Or.inl hb))))
  have af : ∀ x ∈ s.ff, s.all x.2.bf ∧ s.all x.2.bw := fun x hx => ⟨Or.inr (Or.inr (Or.inr (Or.inr (Or.inr ⟨x, hx, Or.inl rfl⟩)))), Or.inr (Or.inr (Or.inr (Or.inr (Or.inr ⟨x, hx, Or.inr rfl⟩))))⟩
  exact { h with
    c0 := by rw [hcell _ _ ap]; exact h.c0
    c1 := by rw [hcell _ _ ap]; exact h.c1
    c2 := by rw [hcell _ _ ap]; exact h.c2
    done := h.done.kept hc (fun b hb => hE b (aF b hb))
    told := h.told.mono (fun x hx y hy => hy.kept hc (fun a ha => hE _ (aZ _ (h.zl x hx a ha))))
    flies := h.flies.of_block KP (hc.block _ (h.lt _ am) (hE _ am))
    each := fun x hx => ⟨by rw [hcell _ _ (af x hx).1]; exact (h.each x hx).lead, by rw [hcell _ _ (af x hx).1]; exact (h.each x hx).map, (h.each x hx).waits.of_block KI (hc.block _ (h.lt _ (af x hx).2) (hE _ (af x hx).2))⟩
    results := h.results.of_block KI (hc.block _ (h.lt _ ar) (hE _ ar))
    tolds := h.tolds.mono (fun x hx y hy => ⟨hy.1.kept hc (fun a ha => hE _ (aZ _ (h.zr x hx a ha))), hy.2⟩)
    lz := fun b hb => Nat.lt_of_lt_of_le (h.lz b hb) hc.size }

end Go.Proofs.Ytnnaidladcdbdaa
