/- shard.End (chapter 15). -/
import Derived.Test.YtnnaidladcdbdaaShBegin
namespace Go.Proofs.Ytnnaidladcdbdaa
open Go.RowKit Go.ChangeMaps
open KZ (SV sv ZA KK)

variable {w w' : World} {s : ShB} {room : Int} {d d' : List (PK × Option Int)} {rs rs' : List (Int × Option Int × Int)}

/-- What End lays first: the key's cells, the zone's. -/
def EW (w : World) (k : PK) (v : SV) : World := (w.alloc (.cells #[.int .i64 k.1, .string k.2] 58)).alloc (.cells (za (sv v)) 69)
theorem EW.below (w : World) (k : PK) (v : SV) : Below w.heap.size w (EW w k v) := ((Below.refl _ _).alloc (Nat.le_refl _) _).alloc (by simp) _
theorem EW.zone (w : World) (k : PK) (v : SV) : (EW w k v).rangeAt (w.heap.size + 1) 0 (zc (sv v)) := by
  have := range_alloc (w.alloc (.cells #[.int .i64 k.1, .string k.2] 58)) (za (sv v)) 69
  simpa [EW, za_toList] using this
theorem EW.mine (s : ShB) (w : World) (k : PK) (v : SV) : Mine s w k (EW w k v) := by
  refine ⟨?_, ?_, ?_, Ch.of_none (EW.below w k v) _, by simp [EW]⟩
  · unfold EW; rw [World.cell?_alloc_lt _ _ _ (by simp), World.cell?_alloc_new]; rfl
  · unfold EW; rw [World.cell?_alloc_lt _ _ _ (by simp), World.cell?_alloc_new]; rfl
  · have := there_new (w.alloc (.cells #[.int .i64 k.1, .string k.2] 58)) (za (sv v)) 69
    simpa [EW, za_size] using this

set_option maxRecDepth 100000 in
set_option maxHeartbeats 1000000 in
/-- Nobody leads that key: nothing turns. -/
theorem end_none (h : ShAt w s room d rs) (i : Int) (k : PK) (hk : KP.ok k) (v : SV) (e : Int) (hf : has s.fl k = false) :
    Calls Try.prog 42 #[.pointer (some ⟨s.p, 0, none⟩), .int .i64 i, KK k, ZA v, .int .i64 e] w fun x w' => x = .returned (.int .i64 10) ∧ Below w.heap.size w w' := by
  have hb := EW.below w k v
  have hm := EW.mine s w k v
  have h1 := h.kept (Ch.of_none hb (fun _ => False)) (fun _ _ h => h)
  have hk0 : k ∉ s.ff.map Prod.fst := by rw [← fl_keys]; exact has_false.1 hf
  clear h
  go_enter Try.func42, Try.ntmps42
  go_upto_region 1 with fail
  change Code.wp _ _ _ _ (EW w k v)
  revert hb hm h1
  generalize EW w k v = w1
  intro hb hm h1
  have hlook : ∀ n, (Instr.lookup 128 (.map (some s.mf)) (KK k) false).run Try.prog (w1.drewN n) = .ok (.pointer none) (w1.drewN n) := fun n => h1.lookF_none hk hk0 n
  have c1 := h1.c1
  have k0 := hm.k0
  have k1 := hm.k1
  clear h1 hm
  go_quiet (fail)
  go_wp2
  go_ret
  exact ⟨rfl, below_drewN hb nq⟩

set_option maxRecDepth 100000 in
set_option maxHeartbeats 1000000 in
/-- Another one leads that key: nothing turns. -/
theorem end_other (h : ShAt w s room d rs) (i : Int) (k : PK) (hk : KP.ok k) (v : SV) (e : Int) {y : PK × Fl} (hy : y ∈ s.ff) (hyk : y.1 = k) (hl : y.2.lead ≠ i) :
    Calls Try.prog 42 #[.pointer (some ⟨s.p, 0, none⟩), .int .i64 i, KK k, ZA v, .int .i64 e] w fun x w' => x = .returned (.int .i64 10) ∧ Below w.heap.size w w' := by
  have hb := EW.below w k v
  have hm := EW.mine s w k v
  have h1 := h.kept (Ch.of_none hb (fun _ => False)) (fun _ _ h => h)
  clear h
  go_enter Try.func42, Try.ntmps42
  go_upto_region 1 with fail
  change Code.wp _ _ _ _ (EW w k v)
  revert hb hm h1
  generalize EW w k v = w1
  intro hb hm h1
  have hlook : ∀ n, (Instr.lookup 128 (.map (some s.mf)) (KK k) false).run Try.prog (w1.drewN n) = .ok (.pointer (some ⟨y.2.bf, 0, none⟩)) (w1.drewN n) := fun n => by
    have := h1.lookF hy (by rw [hyk]; exact hk) n
    rw [← hyk]; exact this
  have c1 := h1.c1
  have k0 := hm.k0
  have k1 := hm.k1
  have cl := (h1.each y hy).lead
  have hne : (y.2.lead != i) = true := by simpa using hl
  clear h1 hm hy hyk hl
  go_quiet (fail)
  go_wp2
  go_ret
  exact ⟨rfl, below_drewN hb nq⟩

end Go.Proofs.Ytnnaidladcdbdaa
