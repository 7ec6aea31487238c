/- shard.Drop (chapter 15); what a call on the list leaves of the shard. -/
import Derived.Test.YtnnaidladcdbdaaShReady
namespace Go.Proofs.Ytnnaidladcdbdaa
open Go.RowKit Go.ChangeMaps
open KZ (SV sv ZA KK)

variable {w w' : World} {s : ShB} {room : Int} {d d' : List (PK × Option Int)} {rs : List (Int × Option Int × Int)}

/-- A call on the list of what is complete. -/
theorem ShAt.listed {F' : Nat → Prop} {l' : List (PK × SV)} (h : ShAt w s room d rs) (hc : Ch s.F w w') (hd : KZ.Is w' F' s.pd room l') (hF' : ∀ b, F' b → s.F b ∨ w.heap.size ≤ b) (ht : Rel (Zn w') l' d')
    (hz : ∀ x ∈ l', ∀ a, x.2.1 = some a → s.Z a.block) : ShAt w' { s with F := F', l := l' } room d' rs := by
  have lp := cell_lt h.c0
  have lm := h.flies.lt KP
  have lr := h.results.lt KI
  have lf : ∀ x ∈ s.ff, x.2.bf < w.heap.size ∧ x.2.bw < w.heap.size := fun x hx => ⟨cell_lt (h.each x hx).lead, (h.each x hx).waits.lt KI⟩
  have hcell : ∀ b o, b < w.heap.size → ¬ s.F b → w'.cell? ⟨b, o, none⟩ = w.cell? ⟨b, o, none⟩ := fun b o hb hF => hc.cell (p := ⟨b, o, none⟩) hb hF
  have nF : ∀ b, b < w.heap.size → ¬ s.F b → ¬ F' b := fun b hb hF h' => by
    rcases hF' b h' with h1 | h1
    · exact hF h1
    · omega
  exact {
    c0 := by rw [hcell _ _ lp h.fp]; exact h.c0
    c1 := by rw [hcell _ _ lp h.fp]; exact h.c1
    c2 := by rw [hcell _ _ lp h.fp]; exact h.c2
    done := hd
    told := ht
    flies := h.flies.of_block KP (hc.block _ lm h.fm)
    each := fun x hx => ⟨by rw [hcell _ _ (lf x hx).1 (h.ff x hx).1]; exact (h.each x hx).lead, by rw [hcell _ _ (lf x hx).1 (h.ff x hx).1]; exact (h.each x hx).map, (h.each x hx).waits.of_block KI (hc.block _ (lf x hx).2 (h.ff x hx).2)⟩
    results := h.results.of_block KI (hc.block _ lr h.fr)
    tolds := h.tolds.mono (fun x hx y hy => ⟨hy.1.kept hc (fun a ha => h.fz _ (h.zr x hx a ha)), hy.2⟩)
    zl := hz
    zr := h.zr
    fp := nF _ lp h.fp
    fm := nF _ lm h.fm
    fr := nF _ lr h.fr
    ff := fun x hx => ⟨nF _ (lf x hx).1 (h.ff x hx).1, nF _ (lf x hx).2 (h.ff x hx).2⟩
    fz := fun b hb => nF b (h.lz b hb) (h.fz b hb)
    zp := h.zp
    zm := h.zm
    zs := h.zs
    zf := h.zf
    pm := h.pm
    pr := h.pr
    mm := h.mm
    pf := h.pf
    mf := h.mf
    mr := h.mr
    bw := h.bw
    bb := h.bb
    lz := fun b hb => Nat.lt_of_lt_of_le (h.lz b hb) hc.size }

theorem ShAt.told_kept (h : ShAt w s room d rs) (hc : Ch s.F w w') : Rel (Zn w') s.l d :=
  h.told.mono (fun x hx _ hy => hy.kept hc (fun a ha => h.fz _ (h.zl x hx a ha)))

set_option maxRecDepth 100000 in
set_option maxHeartbeats 1000000 in
theorem drop51 (h : ShAt w s room d rs) (k : PK) (hok : KP.ok k) :
    Calls Try.prog 51 #[.pointer (some ⟨s.p, 0, none⟩), KK k] w fun e w' => e = .returned (.bool (has d k)) ∧ ShAt w' { s with l := del s.l k } room (del d k) rs ∧ Ch s.all w w' := by
  have hb := KZ.DW.below w k
  have hc1 : Ch (fun _ => False) w (KZ.DW w k) := Ch.of_none hb _
  have h1 := h.kept (hc1.drew) (fun _ _ h => h)
  have c0 : (KZ.DW w k).cell? ⟨s.p, 0, none⟩ = some (.pointer (some ⟨s.pd, 0, none⟩)) := h1.c0
  obtain ⟨k0, k1⟩ := KZ.DW.key w k
  have D := Lib.hid (KZ.drop_c h1.done hok)
  have H1 := Lib.hid h1
  have HC := Lib.hid hc1
  clear h h1 hb hc1
  go_enter Try.func51, Try.ntmps51
  go_upto_region 1 with fail
  change Code.wp _ _ _ _ (KZ.DW w k)
  revert c0 k0 k1 D H1 HC
  generalize KZ.DW w k = w1
  intro c0 k0 k1 D H1 HC
  go_still_tail 5, (by kernel_rfl)
  change wpList _ _ _ _ _ w1.drew
  go_wp2_with fail
  refine D.out.mono ?_
  rintro e w2 ⟨rfl, h2, hc2⟩
  go_wp2
  go_ret
  refine ⟨by rw [H1.out.told.has]; rfl, ?_, ?_⟩
  · exact H1.out.listed hc2 h2 (fun b hb => Or.inl hb) ((H1.out.told_kept hc2).del k) (fun x hx a ha => H1.out.zl x (List.mem_filter.1 hx).1 a ha)
  · exact ((HC.out.mono (fun _ _ h => h.elim)).trans (hc2.of_drew) (fun b _ hb => Or.inr (Or.inr (Or.inr (Or.inl hb)))))

end Go.Proofs.Ytnnaidladcdbdaa
