/- shard.New, Len, Flying, Ready, Keys (chapter 15). -/
import Derived.Test.YtnnaidladcdbdaaSh
namespace Go.Proofs.Ytnnaidladcdbdaa
open Go.RowKit Go.ChangeMaps
open KZ (SV sv ZA)

/-- What New lays behind the list. -/
def SW (w1 : World) (pd : Nat) : World := ((w1.alloc (.map #[] 0)).alloc (.map #[] 0)).alloc (.cells #[.pointer (some ⟨pd, 0, none⟩), .map (some w1.heap.size), .map (some (w1.heap.size + 1))] 131)

set_option maxRecDepth 100000 in
set_option maxHeartbeats 1000000 in
theorem new36 (room : Int) (w : World) :
    Calls Try.prog 36 #[.int .i64 room] w fun e w' => ∃ s, e = .returned (.pointer (some ⟨s.p, 0, none⟩)) ∧ ShAt w' s (max 1 room) [] [] ∧ s.ff = [] ∧ (∀ b, s.all b → w.heap.size ≤ b) ∧ Below w.heap.size w w' := by
  have hmm := @run_makeMap Try.prog
  go_enter Try.func36, Try.ntmps36
  go_wp2_with fail
  refine (KZ.new_c room w).mono ?_
  rintro e w1 ⟨rfl, h1, hb1⟩
  go_wp2_with fail
  go_ret
  have hs1 := hb1.size
  have hlt := h1.lt
  have hp : w.heap.size + 1 < w1.heap.size := hlt _ (Or.inr rfl)
  have e2 : ((w1.alloc (.map #[] 0)).alloc (.map #[] 0)).heap.size = w1.heap.size + 2 := by simp
  have hbA : Below w1.heap.size w1 (((w1.alloc (.map #[] 0)).alloc (.map #[] 0)).alloc (.cells #[.pointer (some ⟨w.heap.size + 1, 0, none⟩), .map (some w1.heap.size), .map (some (w1.heap.size + 1))] 131)) :=
    (((Below.refl _ _).alloc (Nat.le_refl _) _).alloc (by simp) _).alloc (by simp; omega) _
  have hcell : ∀ i, (((w1.alloc (.map #[] 0)).alloc (.map #[] 0)).alloc (.cells #[.pointer (some ⟨w.heap.size + 1, 0, none⟩), .map (some w1.heap.size), .map (some (w1.heap.size + 1))] 131)).cell? ⟨w1.heap.size + 2, i, none⟩ = #[Value.pointer (some ⟨w.heap.size + 1, 0, none⟩), .map (some w1.heap.size), .map (some (w1.heap.size + 1))][i]? := fun i => by
    have := World.cell?_alloc_new ((w1.alloc (.map #[] 0)).alloc (.map #[] 0)) #[.pointer (some ⟨w.heap.size + 1, 0, none⟩), .map (some w1.heap.size), .map (some (w1.heap.size + 1))] 131 i
    rwa [e2] at this
  have mfm : MapIs KP.val KP.ok (((w1.alloc (.map #[] 0)).alloc (.map #[] 0)).alloc (.cells #[.pointer (some ⟨w.heap.size + 1, 0, none⟩), .map (some w1.heap.size), .map (some (w1.heap.size + 1))] 131)) w1.heap.size [] := by
    refine (MapIs.made KP w1).of_block KP ?_
    rw [Below.heap_alloc _ _ _ (by simp; omega), Below.heap_alloc _ _ _ (by simp)]
  have mrm : MapIs KI.val KI.ok (((w1.alloc (.map #[] 0)).alloc (.map #[] 0)).alloc (.cells #[.pointer (some ⟨w.heap.size + 1, 0, none⟩), .map (some w1.heap.size), .map (some (w1.heap.size + 1))] 131)) (w1.heap.size + 1) [] := by
    have := (MapIs.made KI (w1.alloc (.map #[] 0)))
    rw [World.size_alloc] at this
    refine this.of_block KI ?_
    rw [Below.heap_alloc _ _ _ (by simp)]
  refine ⟨{ p := w1.heap.size + 2, pd := w.heap.size + 1, mf := w1.heap.size, mr := w1.heap.size + 1, F := fun b => b = w.heap.size ∨ b = w.heap.size + 1, Z := fun _ => False, l := [], ff := [], rr := [] }, rfl, ?_, rfl, ?_, hb1.trans (hbA.mono hs1)⟩
  · exact {
      c0 := by rw [hcell]; rfl
      c1 := by rw [hcell]; rfl
      c2 := by rw [hcell]; rfl
      done := h1.below hbA
      told := Rel.nil
      flies := mfm
      each := fun x hx => by cases hx
      results := mrm
      tolds := Rel.nil
      zl := fun x hx => by cases hx
      zr := fun x hx => by cases hx
      fp := fun h => by simp only at h; omega
      fm := fun h => by simp only at h; omega
      fr := fun h => by simp only at h; omega
      ff := fun x hx => by cases hx
      fz := fun b hb => hb.elim
      zp := fun h => h
      zm := fun h => h
      zs := fun h => h
      zf := fun x hx => by cases hx
      pm := by simp only; omega
      pr := by simp only; omega
      mm := by simp only; omega
      pf := fun x hx => by cases hx
      mf := fun x hx => by cases hx
      mr := fun x hx => by cases hx
      bw := List.nodup_nil
      bb := fun x hx => by cases hx
      lz := fun b hb => hb.elim }
  · intro b hb
    rcases hb with hb | hb | hb | hb | hb | ⟨x, hx, _⟩
    · simp only at hb; omega
    · simp only at hb; omega
    · simp only at hb; omega
    · simp only at hb; omega
    · exact hb.elim
    · cases hx

/-- The state of flights, as it is told. -/
def ShB.fl (s : ShB) : List (PK × Int × List Int) := s.ff.map fun x => (x.1, x.2.lead, x.2.waits)

variable {w : World} {s : ShB} {room : Int} {d : List (PK × Option Int)} {rs : List (Int × Option Int × Int)}

set_option maxHeartbeats 400000 in
theorem len41 (h : ShAt w s room d rs) : Calls Try.prog 41 #[.pointer (some ⟨s.p, 0, none⟩)] w fun e w' => e = .returned (.int .i64 d.length) ∧ w = w' := by
  have c0 := h.c0
  have hl := KZ.len_c h.done
  rw [h.told.length] at hl
  clear h
  go_enter Try.func41, Try.ntmps41
  go_wp2_with fail
  refine hl.mono ?_
  rintro e w1 ⟨rfl, rfl⟩
  go_wp2
  go_ret
  exact ⟨rfl, rfl⟩

set_option maxHeartbeats 400000 in
theorem flying40 (h : ShAt w s room d rs) : Calls Try.prog 40 #[.pointer (some ⟨s.p, 0, none⟩)] w fun e w' => e = .returned (.int .i64 s.fl.length) ∧ w = w' := by
  have c1 := h.c1
  have hlen := h.flies.len KP Try.underlying128 3
  simp only [List.length_map] at hlen
  have e0 : s.fl.length = s.ff.length := by simp [ShB.fl]
  rw [e0]
  clear h e0
  go_enter Try.func40, Try.ntmps40
  go_wp2
  go_ret
  exact ⟨rfl, rfl⟩

set_option maxHeartbeats 400000 in
theorem keys45 (h : ShAt w s room d rs) (hn : d.length ≤ 1000) : Calls Try.prog 45 #[.pointer (some ⟨s.p, 0, none⟩)] w fun e w' => e = .returned (.slice (some ⟨w.heap.size, 0, none⟩) d.length d.length) ∧
    w'.ownsRow w.heap.size 58 2 (.slice (some ⟨w.heap.size, 0, none⟩) d.length d.length) d.length (KZ.krow (d.map Prod.fst)) ∧ Below w.heap.size w w' := by
  have c0 := h.c0
  have hl := KZ.keys_c h.done (by rw [h.told.length]; exact hn)
  rw [h.told.length, h.told.keys] at hl
  clear h hn
  go_enter Try.func45, Try.ntmps45
  go_wp2_with fail
  refine hl.mono ?_
  rintro e w1 ⟨rfl, h1, h2⟩
  go_wp2
  go_ret
  exact ⟨rfl, h1, h2⟩

end Go.Proofs.Ytnnaidladcdbdaa
