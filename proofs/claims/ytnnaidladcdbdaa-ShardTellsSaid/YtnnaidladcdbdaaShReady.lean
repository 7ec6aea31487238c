/- shard.Ready, Drop (chapter 15). -/
import Derived.Test.YtnnaidladcdbdaaShNew
namespace Go.Proofs.Ytnnaidladcdbdaa
open Go.RowKit Go.ChangeMaps
open KZ (SV sv ZA)

theorem valOf_eq {κ ν : Type} [DecidableEq κ] {l : List (κ × ν)} {k : κ} {v z : ν} (hn : (l.map Prod.fst).Nodup) (h : (k, v) ∈ l) : valOf l k z = v := by
  unfold valOf
  induction l with
  | nil => cases h
  | cons a l ih =>
    simp only [List.map_cons, List.nodup_cons] at hn
    rcases List.mem_cons.1 h with rfl | h
    · rw [List.find?_cons_of_pos (by simp)]; rfl
    · rw [List.find?_cons_of_neg (by simp only [decide_eq_true_eq]; intro e; exact hn.1 (by rw [e]; exact List.mem_map_of_mem (f := Prod.fst) h))]
      exact ih hn.2 h

theorem valOf_none {κ ν : Type} [DecidableEq κ] {l : List (κ × ν)} {k : κ} {z : ν} (h : k ∉ l.map Prod.fst) : valOf l k z = z := by
  unfold valOf
  rw [List.find?_eq_none.2 (fun x hx => by simp only [decide_eq_true_eq]; intro e; exact h (by rw [← e]; exact List.mem_map_of_mem (f := Prod.fst) hx))]
  rfl

theorem zero140 (w : World) : (zeroValue 140).run Try.prog w = .ok (RA ((none, 0, 0), 0)) w := by kernel_rfl
theorem info140 : (Try.prog.info? 140).map (fun i => (i.zero, i.size, i.bytes)) = some (some (RA ((none, 0, 0), 0)), 22, 240) := by kernel_rfl
theorem size140 (v : SV) (e : Int) : (Try.prog.info? 140).map (·.size) = some (rc v e).toArray.size := by
  obtain ⟨i, h1, h2⟩ := Option.map_eq_some_iff.1 info140
  rw [h1]; simp at h2; simp [h2]; rfl
theorem rc_one (v : SV) (e : Int) : (rc v e).toArray.all (·.oneCell') = true := by simp [rc, zc, Value.oneCell']

variable {w : World} {s : ShB} {room : Int} {d : List (PK × Option Int)} {rs : List (Int × Option Int × Int)}

/-- What a worker's result is. -/
theorem ShAt.look (h : ShAt w s room d rs) (i : Int) (hi : KI.ok i) :
    ∃ y, (∀ n, (Instr.lookup 129 (.map (some s.mr)) (.int .i64 i) true).run Try.prog (w.drewN n) = .ok (.tuple #[RA y, .bool (has rs i)]) (w.drewN n)) ∧ Zn w y.1 (valOf rs i (none, 0)).1 ∧ y.2 = (valOf rs i (none, 0)).2 ∧ ∀ a, y.1.1 = some a → s.Z a.block := by
  have hn := h.results.nodup KI
  rw [List.map_map] at hn
  have hn' : (s.rr.map Prod.fst).Nodup := hn
  refine ⟨valOf s.rr i ((none, 0, 0), 0), fun n => ?_, (h.tolds.valOf i (z := ((none, 0, 0), 0)) (y := (none, 0)) ⟨rfl, rfl⟩).1, (h.tolds.valOf i (z := ((none, 0, 0), 0)) (y := (none, 0)) ⟨rfl, rfl⟩).2, fun a ha => ?_⟩
  · have hm : MapIs KI.val KI.ok (w.drewN n) s.mr (s.rr.map fun x => (x.1, RA x.2)) := h.results
    rcases hm.look_ok KI Try.underlying129 (zero140 _) i hi with ⟨h1, h2⟩ | ⟨v, h1, h2⟩
    · have hk : i ∉ s.rr.map Prod.fst := fun hx => by
        obtain ⟨x, hx, hxe⟩ := List.mem_map.1 hx
        exact h1 (x.1, RA x.2) (List.mem_map.2 ⟨x, hx, rfl⟩) hxe
      have : has rs i = false := by rw [← h.tolds.has]; exact has_false.2 hk
      rw [this, valOf_none hk]; exact h2
    · obtain ⟨x, hx, hxe⟩ := List.mem_map.1 h1
      simp only [Prod.mk.injEq] at hxe
      obtain ⟨rfl, rfl⟩ := hxe
      have : has rs x.1 = true := by rw [← h.tolds.has]; exact has_iff.2 (List.mem_map_of_mem (f := Prod.fst) hx)
      rw [this, valOf_eq hn' (v := x.2) hx]; exact h2
  · by_cases hk : i ∈ s.rr.map Prod.fst
    · exact h.zr _ (valOf_mem hk _) a ha
    · rw [valOf_none hk] at ha; cases ha

set_option maxRecDepth 100000 in
set_option maxHeartbeats 1000000 in
theorem ready39 (h : ShAt w s room d rs) (i : Int) (hi : KI.ok i) : Calls Try.prog 39 #[.pointer (some ⟨s.p, 0, none⟩), .int .i64 i] w fun e w' => e = .returned (.bool (has rs i)) ∧ Below w.heap.size w w' := by
  obtain ⟨y, hy, -, -, -⟩ := h.look i hi
  have hlook : (Instr.lookup 129 (.map (some s.mr)) (.int .i64 i) true).run Try.prog w = .ok (.tuple #[RA y, .bool (has rs i)]) w := hy 0
  have c2 := h.c2
  have ht := there_new w (rc (none, 0, 0) 0).toArray 140
  have hb : ∀ A : Array Value, Below w.heap.size w ((w.alloc (.cells A 140)).setCells w.heap.size 0 (rc y.1 y.2)) := fun A => by
    refine (Ch.setCells (F := fun b => w.heap.size ≤ b) (fun _ => Nat.le_refl _) (rc y.1 y.2) 0 ((Ch.refl _ w).alloc _)).below (Nat.le_refl _) (fun b hb h => by omega)
  have hL : (rc y.1 y.2).toArray.size = (rc (none, 0, 0) 0).toArray.size := rfl
  have ht' : (w.alloc (.cells (rc (none, 0, 0) 0).toArray 140)).there w.heap.size 0 (rc y.1 y.2).toArray.size := by rw [hL]; exact ht
  clear h hy ht hL
  go_enter Try.func39, Try.ntmps39
  go_wp2_with (refine wpList_store_mid (by rfl) 140 (.tmp 5) (.tmp 14) (by rfl) w.heap.size 0 (rc y.1 y.2).toArray (by rfl) (by rfl) ht' (size140 _ _) (rc_one _ _) ?_)
  go_ret
  exact ⟨rfl, hb _⟩

end Go.Proofs.Ytnnaidladcdbdaa
