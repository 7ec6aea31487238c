/- shard.Result (chapter 15). -/
import Derived.Test.YtnnaidladcdbdaaShDrop
namespace Go.Proofs.Ytnnaidladcdbdaa
open Go.RowKit Go.ChangeMaps
open KZ (SV sv ZA KK)

variable {w w' : World} {s : ShB} {room : Int} {d d' : List (PK × Option Int)} {rs rs' : List (Int × Option Int × Int)}

/-- The map of the results has turned, nothing else. -/
theorem ShAt.setR {rr' : List (Int × SV × Int)} (h : ShAt w s room d rs) (hc : Ch (fun b => b = s.mr) w w') (hm : MapIs KI.val KI.ok w' s.mr (rr'.map fun x => (x.1, RA x.2)))
    (ht : Rel (fun v y => Zn w v.1 y.1 ∧ v.2 = y.2) rr' rs') (hz : ∀ x ∈ rr', ∀ a, x.2.1.1 = some a → s.Z a.block) : ShAt w' { s with rr := rr' } room d rs' := by
  have lp := cell_lt h.c0
  have lm := h.flies.lt KP
  have lf : ∀ x ∈ s.ff, x.2.bf < w.heap.size ∧ x.2.bw < w.heap.size := fun x hx => ⟨cell_lt (h.each x hx).lead, (h.each x hx).waits.lt KI⟩
  have hcell : ∀ b o, b < w.heap.size → b ≠ s.mr → w'.cell? ⟨b, o, none⟩ = w.cell? ⟨b, o, none⟩ := fun b o hb hF => hc.cell (p := ⟨b, o, none⟩) hb hF
  have nz : ∀ b, s.Z b → b ≠ s.mr := fun b hb e => h.zs (by rw [← e]; exact hb)
  exact {
    c0 := by rw [hcell _ _ lp h.pr]; exact h.c0
    c1 := by rw [hcell _ _ lp h.pr]; exact h.c1
    c2 := by rw [hcell _ _ lp h.pr]; exact h.c2
    done := h.done.kept hc (fun b hb e => h.fr (by rw [← e]; exact hb))
    told := h.told.mono (fun x hx _ hy => hy.kept hc (fun a ha => nz _ (h.zl x hx a ha)))
    flies := h.flies.of_block KP (hc.block _ lm h.mm)
    each := fun x hx => ⟨by rw [hcell _ _ (lf x hx).1 (h.mr x hx).1]; exact (h.each x hx).lead, by rw [hcell _ _ (lf x hx).1 (h.mr x hx).1]; exact (h.each x hx).map, (h.each x hx).waits.of_block KI (hc.block _ (lf x hx).2 (h.mr x hx).2)⟩
    results := hm
    tolds := ht.mono (fun x hx y hy => ⟨hy.1.kept hc (fun a ha => nz _ (hz x hx a ha)), hy.2⟩)
    zl := h.zl
    zr := hz
    fp := h.fp
    fm := h.fm
    fr := h.fr
    ff := h.ff
    fz := h.fz
    zp := h.zp
    zm := h.zm
    zs := h.zs
    zf := h.zf
    pm := h.pm
    pr := h.pr
    mm := h.mm
    pf := h.pf
    mf := h.mf
    mr := h.mr
    bw := h.bw
    bb := h.bb
    lz := fun b hb => Nat.lt_of_lt_of_le (h.lz b hb) hc.size }

theorem filter_ra (l : List (Int × SV × Int)) (i : Int) : ((l.map fun x => (x.1, RA x.2)).filter fun x => x.1 ≠ i) = (del l i).map fun x => (x.1, RA x.2) := by
  unfold del
  rw [List.filter_map]
  rfl

/-- A worker's result is gone. -/
theorem ShAt.forget (h : ShAt w s room d rs) (i : Int) (hi : KI.ok i) :
    ∃ o, (Builtin.delete_ #[129, 3] 0 #[.map (some s.mr), .int .i64 i]).run Try.prog w = .ok (.tuple #[]) (setBlock w s.mr o) ∧ ShAt (setBlock w s.mr o) { s with rr := del s.rr i } room d (del rs i) ∧ Ch (fun b => b = s.mr) w (setBlock w s.mr o) := by
  obtain ⟨o, hrun, hm⟩ := h.results.del KI Try.underlying129 i hi 0
  have hc : Ch (fun b => b = s.mr) w (setBlock w s.mr o) := (Ch.refl (fun b => b = s.mr) w).setBlock (m := s.mr) (fun _ => rfl) o
  rw [filter_ra] at hm
  exact ⟨o, hrun, h.setR hc hm (h.tolds.del i) (fun x hx => h.zr x (List.mem_filter.1 hx).1), hc⟩

end Go.Proofs.Ytnnaidladcdbdaa
