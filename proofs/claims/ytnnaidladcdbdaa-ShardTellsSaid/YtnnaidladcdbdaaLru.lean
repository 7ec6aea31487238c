/- Plain lemmas, without a program in sight: a list of keys and values in memory as a ring of nodes and a map to them, and what out, last, and a new node make of it. -/
import Derived.Test.YtnnaidladcdbdaaHeap
import Derived.LaidEqlPtr
namespace Go.Proofs.Ytnnaidladcdbdaa
open Go.RowKit Go.ChangeMaps Go.MapKept
open Go.Maps (Keyed)

/-- Maps stay. -/
def KeepMaps (w w' : World) : Prop := ∀ (b : Nat) (es : Array MapEntry) (c : Nat), w.heap[b]? = some (.map es c) → w'.heap[b]? = some (.map es c)

theorem KeepMaps.refl (w : World) : KeepMaps w w := fun _ _ _ h => h
theorem KeepMaps.trans {a b c : World} (h : KeepMaps a b) (k : KeepMaps b c) : KeepMaps a c := fun x es cl hx => k x es cl (h x es cl hx)
theorem KeepMaps.drew {a w : World} (h : KeepMaps a w) : KeepMaps a w.drew := h
theorem KeepMaps.setCell {a w : World} (h : KeepMaps a w) (p : Addr) (v : Value) : KeepMaps a (w.setCell p v) := fun x es c hx => by
  have hx' := h x es c hx
  simp only [World.setCell, Array.getElem?_modify]
  by_cases e : p.block = x
  · subst e; rw [hx']; simp
  · rw [if_neg e]; exact hx'
theorem KeepMaps.alloc {a w : World} (h : KeepMaps a w) (o : Obj) : KeepMaps a (w.alloc o) := fun x es c hx => by
  have hx' := h x es c hx
  rw [Below.heap_alloc _ _ _ (Array.getElem?_eq_some_iff.1 hx').1]; exact hx'

theorem MapIs.keep {κ : Type} {P : Program} {k : TypeId} (K : KeyK P k κ) {w w' : World} {b : Nat} {l : List (κ × Value)} (h : MapIs K.val K.ok w b l) (hk : KeepMaps w w') : MapIs K.val K.ok w' b l := by
  obtain ⟨es, clock, h1, h2⟩ := h
  exact ⟨es, clock, hk _ _ _ h1, h2⟩

section
variable {κ ν : Type}

/-- The room, the map, and the ring of nodes (block, key, value) of the list at block p. -/
structure RingAt (cs : κ → ν → List Value) (d : Nat) (w : World) (F : Nat → Prop) (p m : Nat) (room : Int) (ns : List (Nat × κ × ν)) : Prop where
  c0 : w.cell? ⟨p, 0, none⟩ = some (.int .i64 room)
  c1 : w.cell? ⟨p, 1, none⟩ = some (.map (some m))
  ring : Chain w d ((p, 2) :: ns.map (fun x => (x.1, 0)) ++ [(p, 2)])
  dist : (p :: ns.map (·.1)).Nodup
  own : ∀ b ∈ p :: m :: ns.map (·.1), F b
  frz : ∀ b ∈ p :: ns.map (·.1), ∀ o, w.frozen? ⟨b, o, none⟩ = false
  cells : ∀ x ∈ ns, ∀ i, i < d → w.cell? ⟨x.1, i, none⟩ = (cs x.2.1 x.2.2)[i]?
  ex : ∀ x ∈ ns, (w.cell? ⟨x.1, d, none⟩).isSome = true ∧ (w.cell? ⟨x.1, d + 1, none⟩).isSome = true

/-- A node that no ring holds. -/
structure NodeAt (cs : κ → ν → List Value) (d : Nat) (w : World) (F : Nat → Prop) (x : Nat × κ × ν) : Prop where
  own : F x.1
  frz : ∀ o, w.frozen? ⟨x.1, o, none⟩ = false
  cells : ∀ i, i < d → w.cell? ⟨x.1, i, none⟩ = (cs x.2.1 x.2.2)[i]?
  prev : ∃ v, w.cell? ⟨x.1, d, none⟩ = some v
  next : ∃ v, w.cell? ⟨x.1, d + 1, none⟩ = some v

variable {cs : κ → ν → List Value} {d : Nat} {w : World} {F : Nat → Prop} {p m : Nat} {room : Int}

theorem map_blocks (p : Nat) (ns : List (Nat × κ × ν)) : (((p, 2) :: ns.map (fun x => (x.1, 0))).map Prod.fst : List Nat) = p :: ns.map (·.1) := by
  simp [List.map_map, Function.comp_def]

theorem chain_drew {w : World} {d : Nat} {l : List (Nat × Nat)} (h : Chain w d l) : Chain w.drew d l := chain_same (w := w) (w' := w.drew) (fun _ _ _ => World.cell?_drew _ _) h

theorem cell?_isSome_setCell {w : World} {a q : Addr} {v : Value} (h : (w.cell? q).isSome = true) : ((w.setCell a v).cell? q).isSome = true := by
  obtain ⟨x, hx⟩ := Option.isSome_iff_exists.1 h
  obtain ⟨y, hy⟩ := cell?_setCell_some (p := a) (x := v) hx
  rw [hy]; rfl

/-- What 'out' needs, and what it leaves. -/
theorem RingAt.out {a c : List (Nat × κ × ν)} {x : Nat × κ × ν} (h : RingAt cs d w F p m room (a ++ x :: c)) :
    ∃ u v : Nat × Nat, w.cell? ⟨x.1, d, none⟩ = some (pt u) ∧ w.cell? ⟨x.1, d + 1, none⟩ = some (pt v) ∧
      w.cell? (fld u (d + 1)) = some (pt (x.1, 0)) ∧ w.cell? (fld v d) = some (pt (x.1, 0)) ∧ fld u (d + 1) ≠ fld v d ∧
      w.frozen? (fld u (d + 1)) = false ∧ w.frozen? (fld v d) = false ∧
      ∀ w', w' = ((w.setCell (fld u (d + 1)) (pt v)).setCell (fld v d) (pt u)).drew →
        RingAt cs d w' F p m room (a ++ c) ∧ NodeAt cs d w' F x ∧ x.1 ∉ p :: (a ++ c).map (·.1) ∧ KeepMaps w w' ∧ Ch F w w' := by
  have hr := h.ring
  have e0 : (p, 2) :: (a ++ x :: c).map (fun x => (x.1, 0)) ++ [(p, 2)] = (p, 2) :: (a.map (fun x => (x.1, 0)) ++ (x.1, 0) :: c.map (fun x => (x.1, 0))) ++ [(p, 2)] := by simp
  rw [e0] at hr
  have hd := h.dist
  have hd' : (((p, 2) :: (a.map (fun x => (x.1, 0)) ++ (x.1, 0) :: c.map (fun x => (x.1, 0)))).map Prod.fst : List Nat).Nodup := by
    simpa [List.map_map, Function.comp_def] using hd
  obtain ⟨u, v, hu, hv, k1, k2, k3, k4, hne, hux, hvx, hch⟩ := ring_out hr hd'
  have memb : ∀ q : Nat × Nat, q ∈ (p, 2) :: (a.map (fun x => (x.1, 0)) ++ c.map (fun x => (x.1, 0))) → q.1 ∈ p :: (a ++ x :: c).map (·.1) ∧ ((q.2 = 2 ∧ q.1 = p) ∨ (q.2 = 0 ∧ q.1 ≠ p)) := by
    intro q hq
    have hp : ∀ y ∈ a ++ x :: c, y.1 ≠ p := fun y hy e => (List.nodup_cons.1 hd).1 (by rw [← e]; exact List.mem_map_of_mem hy)
    rcases List.mem_cons.1 hq with rfl | hq
    · exact ⟨by simp, Or.inl ⟨rfl, rfl⟩⟩
    · rcases List.mem_append.1 hq with hq | hq
      · obtain ⟨y, hy, rfl⟩ := List.mem_map.1 hq
        exact ⟨List.mem_cons_of_mem _ (List.mem_map_of_mem (by simp [hy])), Or.inr ⟨rfl, hp y (by simp [hy])⟩⟩
      · obtain ⟨y, hy, rfl⟩ := List.mem_map.1 hq
        exact ⟨List.mem_cons_of_mem _ (List.mem_map_of_mem (by simp [hy])), Or.inr ⟨rfl, hp y (by simp [hy])⟩⟩
  obtain ⟨mu, ou⟩ := memb u hu
  obtain ⟨mv, ov⟩ := memb v hv
  refine ⟨u, v, by simpa [fld] using k1, by simpa [fld] using k2, k3, k4, hne, h.frz _ mu _, h.frz _ mv _, ?_⟩
  rintro w' rfl
  have hxn : x.1 ∉ p :: (a ++ c).map (·.1) := by
    intro hx
    simp only [List.map_append, List.map_cons, List.nodup_cons, List.mem_append, List.mem_cons, not_or] at hd hx
    rcases hx with e | hx
    · exact hd.1.2.1 e.symm
    · have := List.nodup_append.1 hd.2
      rcases hx with hx | hx
      · exact this.2.2 _ hx _ (by simp) rfl
      · exact (List.nodup_cons.1 this.2.1).1 hx
  -- the two written cells lie at offset d or d + 1 of a node, or behind 2 in p's block
  have keep : ∀ (b o : Nat), (b = p → o < 2) → (b ≠ p → o < d) → w.cell? ⟨b, o, none⟩ = ((w.setCell (fld u (d + 1)) (pt v)).setCell (fld v d) (pt u)).drew.cell? ⟨b, o, none⟩ := by
    intro b o h1 h2
    rw [World.cell?_drew, World.cell?_setCell_other, World.cell?_setCell_other]
    · intro e; simp only [fld, Addr.mk.injEq, and_true] at e
      rcases ou with ⟨o2, ob⟩ | ⟨o2, ob⟩
      · have := h1 (by rw [← e.1, ob]); omega
      · have := h2 (by rw [← e.1]; exact ob); omega
    · intro e; simp only [fld, Addr.mk.injEq, and_true] at e
      rcases ov with ⟨o2, ob⟩ | ⟨o2, ob⟩
      · have := h1 (by rw [← e.1, ob]); omega
      · have := h2 (by rw [← e.1]; exact ob); omega
  have hsome : ∀ q : Addr, (w.cell? q).isSome = true → (((w.setCell (fld u (d + 1)) (pt v)).setCell (fld v d) (pt u)).drew.cell? q).isSome = true := fun q hq => by
    rw [World.cell?_drew]; exact cell?_isSome_setCell (cell?_isSome_setCell hq)
  have np : ∀ y ∈ a ++ x :: c, y.1 ≠ p := fun y hy e => (List.nodup_cons.1 hd).1 (by rw [← e]; exact List.mem_map_of_mem hy)
  have sub : ∀ y ∈ a ++ c, y ∈ a ++ x :: c := fun y hy => by
    rcases List.mem_append.1 hy with h | h <;> simp [h]
  refine ⟨⟨?_, ?_, ?_, ?_, ?_, ?_, ?_, ?_⟩, ⟨h.own _ (by simp), ?_, ?_, ?_, ?_⟩, hxn, ?_, ?_⟩
  · rw [← keep _ _ (fun _ => by omega) (fun h => absurd rfl h)]; exact h.c0
  · rw [← keep _ _ (fun _ => by omega) (fun h => absurd rfl h)]; exact h.c1
  · have e1 : (p, 2) :: (a ++ c).map (fun x => (x.1, 0)) ++ [(p, 2)] = (p, 2) :: (a.map (fun x => (x.1, 0)) ++ c.map (fun x => (x.1, 0))) ++ [(p, 2)] := by simp
    rw [e1]; exact chain_drew hch
  · simp only [List.map_append, List.map_cons, List.nodup_cons, List.mem_append, List.mem_cons, not_or] at hd ⊢
    have hn := List.nodup_append.1 hd.2
    exact ⟨⟨hd.1.1, hd.1.2.2⟩, List.nodup_append.2 ⟨hn.1, (List.nodup_cons.1 hn.2.1).2, fun y hy z hz => hn.2.2 y hy z (List.mem_cons_of_mem _ hz)⟩⟩
  · intro b hb
    refine h.own b ?_
    simp only [List.map_append, List.map_cons, List.mem_append, List.mem_cons] at hb ⊢
    rcases hb with h | h | h | h <;> simp [h]
  · intro b hb o
    rw [World.frozen?_drew, World.frozen?_setCell, World.frozen?_setCell]
    refine h.frz b ?_ o
    simp only [List.map_append, List.map_cons, List.mem_append, List.mem_cons] at hb ⊢
    rcases hb with h | h | h <;> simp [h]
  · intro y hy i hi
    rw [← keep _ _ (fun e => absurd e (np y (sub y hy))) (fun _ => hi)]
    exact h.cells y (sub y hy) i hi
  · intro y hy
    exact ⟨hsome _ (h.ex y (sub y hy)).1, hsome _ (h.ex y (sub y hy)).2⟩
  · intro o
    rw [World.frozen?_drew, World.frozen?_setCell, World.frozen?_setCell]
    exact h.frz _ (by simp) o
  · intro i hi
    rw [← keep _ _ (fun e => absurd e (np x (by simp))) (fun _ => hi)]
    exact h.cells x (by simp) i hi
  · exact Option.isSome_iff_exists.1 (hsome _ (h.ex x (by simp)).1)
  · exact Option.isSome_iff_exists.1 (hsome _ (h.ex x (by simp)).2)
  · exact (((KeepMaps.refl w).setCell _ _).setCell _ _).drew
  · have fo : ∀ q : Nat × Nat, q.1 ∈ p :: (a ++ x :: c).map (·.1) → F q.1 := fun q hq => h.own _ (by
      rcases List.mem_cons.1 hq with h | h
      · rw [h]; simp
      · exact List.mem_cons_of_mem _ (List.mem_cons_of_mem _ h))
    exact (((Ch.refl F w).setCell (fun _ => fo u mu) _).setCell (fun _ => fo v mv) _).drew

/-- What 'last' needs, and what it leaves. -/
theorem RingAt.last {ns : List (Nat × κ × ν)} {x : Nat × κ × ν} (h : RingAt cs d w F p m room ns) (hx : NodeAt cs d w F x) (hb : x.1 ∉ p :: ns.map (·.1)) :
    ∃ u : Nat × Nat, w.cell? (fld (p, 2) d) = some (pt u) ∧ w.cell? (fld u (d + 1)) = some (pt (p, 2)) ∧ u.1 ≠ x.1 ∧ p ≠ x.1 ∧ fld u (d + 1) ≠ fld (p, 2) d ∧
      w.frozen? (fld u (d + 1)) = false ∧ w.frozen? (fld (p, 2) d) = false ∧
      ∀ w', w' = ((((w.setCell (fld (x.1, 0) d) (pt u)).setCell (fld (x.1, 0) (d + 1)) (pt (p, 2))).setCell (fld u (d + 1)) (pt (x.1, 0))).setCell (fld (p, 2) d) (pt (x.1, 0))).drew.drew →
        RingAt cs d w' F p m room (ns ++ [x]) ∧ KeepMaps w w' ∧ Ch F w w' := by
  obtain ⟨v2, n2⟩ := hx.prev
  obtain ⟨v3, n3⟩ := hx.next
  have hd := h.dist
  obtain ⟨u, hu, k1, k2, hun, hpn, hur, hch⟩ := ring_in (n := (x.1, 0)) h.ring (by simpa [List.map_map, Function.comp_def] using hd) (by simpa [List.map_map, Function.comp_def] using hb) (by simpa [fld] using n2) (by simpa [fld] using n3)
  have memb : u.1 ∈ p :: ns.map (·.1) ∧ ((u.2 = 2 ∧ u.1 = p) ∨ (u.2 = 0 ∧ u.1 ≠ p)) := by
    have hp : ∀ y ∈ ns, y.1 ≠ p := fun y hy e => (List.nodup_cons.1 hd).1 (by rw [← e]; exact List.mem_map_of_mem hy)
    rcases List.mem_cons.1 hu with rfl | hq
    · exact ⟨by simp, Or.inl ⟨rfl, rfl⟩⟩
    · obtain ⟨y, hy, rfl⟩ := List.mem_map.1 hq
      exact ⟨List.mem_cons_of_mem _ (List.mem_map_of_mem hy), Or.inr ⟨rfl, hp y hy⟩⟩
  obtain ⟨mu, ou⟩ := memb
  have hpx : p ≠ x.1 := fun e => hb (by rw [e]; simp)
  refine ⟨u, k1, k2, hun, hpx, hur, h.frz _ mu _, h.frz p (by simp) _, ?_⟩
  rintro w' rfl
  have keep : ∀ (b o : Nat), (b = p → o < 2) → (b ≠ p → o < d) → w.cell? ⟨b, o, none⟩ = ((((w.setCell (fld (x.1, 0) d) (pt u)).setCell (fld (x.1, 0) (d + 1)) (pt (p, 2))).setCell (fld u (d + 1)) (pt (x.1, 0))).setCell (fld (p, 2) d) (pt (x.1, 0))).drew.drew.cell? ⟨b, o, none⟩ := by
    intro b o h1 h2
    rw [World.cell?_drew, World.cell?_drew, World.cell?_setCell_other, World.cell?_setCell_other, World.cell?_setCell_other, World.cell?_setCell_other]
    · intro e; simp only [fld, Addr.mk.injEq, and_true] at e
      have := h2 (by rw [← e.1]; exact hpx.symm); omega
    · intro e; simp only [fld, Addr.mk.injEq, and_true] at e
      have := h2 (by rw [← e.1]; exact hpx.symm); omega
    · intro e; simp only [fld, Addr.mk.injEq, and_true] at e
      rcases ou with ⟨o2, ob⟩ | ⟨o2, ob⟩
      · have := h1 (by rw [← e.1, ob]); omega
      · have := h2 (by rw [← e.1]; exact ob); omega
    · intro e; simp only [fld, Addr.mk.injEq, and_true] at e
      have := h1 e.1.symm; omega
  have hsome : ∀ q : Addr, (w.cell? q).isSome = true → (((((w.setCell (fld (x.1, 0) d) (pt u)).setCell (fld (x.1, 0) (d + 1)) (pt (p, 2))).setCell (fld u (d + 1)) (pt (x.1, 0))).setCell (fld (p, 2) d) (pt (x.1, 0))).drew.drew.cell? q).isSome = true := fun q hq => by
    rw [World.cell?_drew, World.cell?_drew]; exact cell?_isSome_setCell (cell?_isSome_setCell (cell?_isSome_setCell (cell?_isSome_setCell hq)))
  have np : ∀ y ∈ ns, y.1 ≠ p := fun y hy e => (List.nodup_cons.1 hd).1 (by rw [← e]; exact List.mem_map_of_mem hy)
  have fo : F u.1 := h.own _ (by
      rcases List.mem_cons.1 mu with h | h
      · rw [h]; simp
      · exact List.mem_cons_of_mem _ (List.mem_cons_of_mem _ h))
  have mcase : ∀ y ∈ ns ++ [x], y ∈ ns ∨ y = x := fun y hy => by simpa using hy
  refine ⟨⟨?_, ?_, ?_, ?_, ?_, ?_, ?_, ?_⟩, ?_, ?_⟩
  · rw [← keep _ _ (fun _ => by omega) (fun h => absurd rfl h)]; exact h.c0
  · rw [← keep _ _ (fun _ => by omega) (fun h => absurd rfl h)]; exact h.c1
  · have e1 : (p, 2) :: (ns ++ [x]).map (fun x => (x.1, 0)) ++ [(p, 2)] = (p, 2) :: (ns.map (fun x => (x.1, 0)) ++ [(x.1, 0)]) ++ [(p, 2)] := by simp
    rw [e1]; exact chain_drew (chain_drew hch)
  · have e2 : p :: (ns ++ [x]).map (·.1) = (p :: ns.map (·.1)) ++ [x.1] := by simp
    rw [e2]
    exact List.nodup_append.2 ⟨hd, by simp, fun a ha b hb' => by simp only [List.mem_singleton] at hb'; subst hb'; exact fun e => hb (by rw [← e]; exact ha)⟩
  · intro b hb'
    simp only [List.map_append, List.map_cons, List.map_nil, List.mem_append, List.mem_cons, List.not_mem_nil, or_false] at hb'
    rcases hb' with e | e | e | e
    · exact h.own b (by simp [e])
    · exact h.own b (by simp [e])
    · exact h.own b (List.mem_cons_of_mem _ (List.mem_cons_of_mem _ e))
    · rw [e]; exact hx.own
  · intro b hb' o
    rw [World.frozen?_drew, World.frozen?_drew, World.frozen?_setCell, World.frozen?_setCell, World.frozen?_setCell, World.frozen?_setCell]
    simp only [List.map_append, List.map_cons, List.map_nil, List.mem_append, List.mem_cons, List.not_mem_nil, or_false] at hb'
    rcases hb' with e | e | e
    · exact h.frz b (by simp [e]) o
    · exact h.frz b (List.mem_cons_of_mem _ e) o
    · rw [e]; exact hx.frz o
  · intro y hy i hi
    rcases mcase y hy with hy | rfl
    · rw [← keep _ _ (fun e => absurd e (np y hy)) (fun _ => hi)]
      exact h.cells y hy i hi
    · rw [← keep _ _ (fun e => absurd e hpx.symm) (fun _ => hi)]
      exact hx.cells i hi
  · intro y hy
    rcases mcase y hy with hy | rfl
    · exact ⟨hsome _ (h.ex y hy).1, hsome _ (h.ex y hy).2⟩
    · exact ⟨hsome _ (by rw [n2]; rfl), hsome _ (by rw [n3]; rfl)⟩
  · exact (((((KeepMaps.refl w).setCell _ _).setCell _ _).setCell _ _).setCell _ _).drew.drew
  · exact (((((Ch.refl F w).setCell (fun _ => hx.own) _).setCell (fun _ => hx.own) _).setCell (fun _ => fo) _).setCell (fun _ => h.own _ (by simp)) _).drew.drew

/-- Carried over a change outside F. -/
theorem RingAt.kept {ns : List (Nat × κ × ν)} {G F' : Nat → Prop} {w' : World} (h : RingAt cs d w F p m room ns) (hc : Ch G w w') (hlt : ∀ b ∈ p :: ns.map (·.1), b < w.heap.size) (hG : ∀ b ∈ p :: ns.map (·.1), ¬ G b) (hF : ∀ b, F b → F' b) :
    RingAt cs d w' F' p m room ns := by
  have hcell : ∀ b ∈ p :: ns.map (·.1), ∀ o, w'.cell? ⟨b, o, none⟩ = w.cell? ⟨b, o, none⟩ := fun b hb o => hc.cell (p := ⟨b, o, none⟩) (hlt b hb) (hG b hb)
  refine ⟨by rw [hcell p (by simp)]; exact h.c0, by rw [hcell p (by simp)]; exact h.c1, ?_, h.dist, fun b hb => hF b (h.own b hb), ?_, ?_, ?_⟩
  · refine chain_same (fun x hx i => hcell _ ?_ _) h.ring
    rcases List.mem_append.1 hx with hx | hx
    · rcases List.mem_cons.1 hx with rfl | hx
      · simp
      · obtain ⟨y, hy, rfl⟩ := List.mem_map.1 hx
        exact List.mem_cons_of_mem _ (List.mem_map_of_mem hy)
    · simp only [List.mem_singleton] at hx; rw [hx]; simp
  · intro b hb o
    rw [hc.frozen (p := ⟨b, o, none⟩) (hlt b hb) (hG b hb)]; exact h.frz b hb o
  · intro x hx i hi
    rw [hcell _ (List.mem_cons_of_mem _ (List.mem_map_of_mem hx))]; exact h.cells x hx i hi
  · intro x hx
    rw [hcell _ (List.mem_cons_of_mem _ (List.mem_map_of_mem hx)), hcell _ (List.mem_cons_of_mem _ (List.mem_map_of_mem hx))]; exact h.ex x hx

theorem RingAt.lt {ns : List (Nat × κ × ν)} (h : RingAt cs d w F p m room ns) : ∀ b ∈ p :: ns.map (·.1), b < w.heap.size := by
  intro b hb
  rcases List.mem_cons.1 hb with rfl | hb
  · exact World.block_lt_of_cell? (a := ⟨b, 0, none⟩) _ h.c0
  · obtain ⟨x, hx, rfl⟩ := List.mem_map.1 hb
    obtain ⟨v, hv⟩ := Option.isSome_iff_exists.1 (h.ex x hx).1
    exact World.block_lt_of_cell? (a := ⟨x.1, d, none⟩) _ hv

theorem RingAt.below {w1 : World} {ns : List (Nat × κ × ν)} (h : RingAt cs d w F p m room ns) (hb : Below w.heap.size w w1) : RingAt cs d w1 F p m room ns :=
  h.kept (Ch.of_below hb) h.lt (fun b hb' hge => by have := h.lt b hb'; omega) (fun _ h => h)

/-- Where the walk along the ring stands: the head of what is left, or the ring. -/
def cur (p : Nat) : List (Nat × κ × ν) → Value
  | [] => .pointer (some ⟨p, 2, none⟩)
  | x :: _ => .pointer (some ⟨x.1, 0, none⟩)

theorem RingAt.next {ns a c : List (Nat × κ × ν)} {x : Nat × κ × ν} (h : RingAt cs d w F p m room ns) (e : ns = a ++ x :: c) : w.cell? ⟨x.1, d + 1, none⟩ = some (cur p c) := by
  have := h.ring
  rw [e] at this
  have e1 : (p, 2) :: (a ++ x :: c).map (fun x => (x.1, 0)) ++ [(p, 2)] = ((p, 2) :: a.map (fun x => (x.1, 0))) ++ (x.1, 0) :: (c.map (fun x => (x.1, 0)) ++ [(p, 2)]) := by simp
  rw [e1] at this
  have h2 := ((chain_mid _ _ _).1 this).2
  cases c with
  | nil => simp only [List.map_nil, List.nil_append, Chain] at h2; simpa [fld, cur] using h2.1.next
  | cons y t => simp only [List.map_cons, List.cons_append, Chain] at h2; simpa [fld, cur] using h2.1.next

theorem RingAt.first {ns : List (Nat × κ × ν)} (h : RingAt cs d w F p m room ns) : w.cell? ⟨p, 2 + (d + 1), none⟩ = some (cur p ns) := by
  have := h.ring
  cases ns with
  | nil => simp only [List.map_nil, Chain, List.cons_append, List.nil_append] at this; exact this.1.next
  | cons y t => simp only [List.map_cons, List.cons_append, Chain] at this; exact this.1.next

/-! ### Two pointers -/
theorem run_neq_ptr_same {P : Program} (w : World) {tp te : TypeId} {j : TypeInfo} (a : Addr) (hp : P.underlying tp = some (.pointer te)) (hte : P.info? te = some j) :
    (binOp .neq tp (.pointer (some a)) (.pointer (some a))).run P w = .ok (.bool false) w := by
  have h : ∀ d : Nat, (Op.equalIn (d + 1) tp (.pointer (some a)) (.pointer (some a))).run P w = .ok true w := fun d => by
    simp [Op.equalIn, run_underlying hp, sizeOf, typeInfo, hte, run_sameAddr_same]
  simp only [binOp]
  simp [Op.equal, Op.maxDepth, h 9999]

theorem run_neq_ptr_far {P : Program} (w : World) {tp te : TypeId} {j : TypeInfo} {a b : Addr} (hp : P.underlying tp = some (.pointer te)) (hte : P.info? te = some j) (hsz : j.size ≠ 0)
    (hne : a.block ≠ b.block) {oa ob : Nat} {va vb : Value} (ha : w.cell? ⟨a.block, oa, none⟩ = some va) (hb : w.cell? ⟨b.block, ob, none⟩ = some vb) (fa : ∀ o, w.frozen? ⟨a.block, o, none⟩ = false) (fb : ∀ o, w.frozen? ⟨b.block, o, none⟩ = false) :
    (binOp .neq tp (.pointer (some a)) (.pointer (some b))).run P w = .ok (.bool true) w := by
  have hs : ∀ {r o : Nat} {v : Value}, w.cell? ⟨r, o, none⟩ = some v → ∃ e n, w.shape? r = some (e, n) := by
    intro r o v h
    unfold World.cell? at h
    unfold World.shape?
    split at h
    · rename_i c e f hb
      simp only at hb
      rw [hb]
      exact ⟨_, _, rfl⟩
    · simp at h
  obtain ⟨ea, na, sa⟩ := hs ha
  obtain ⟨eb, nb, sb⟩ := hs hb
  have fr : ∀ (x : Addr), w.frozen? x = w.frozen? ⟨x.block, x.off, none⟩ := fun x => rfl
  have hsame : (sameAddr a b).run P w = .ok false w := by
    simp [sameAddr, hne, Sem.run, frozen, fr a, fr b, fa, fb, noView, viewAt, shape, sa, sb, mayBeOne, stringish]
  have h : ∀ d : Nat, (Op.equalIn (d + 1) tp (.pointer (some a)) (.pointer (some b))).run P w = .ok false w := fun d => by
    simp [Op.equalIn, run_underlying hp, sizeOf, typeInfo, hte, hsz, hsame]
  simp only [binOp]
  simp [Op.equal, Op.maxDepth, h 9999]

/-- 'n != &l.ring' at a node. -/
theorem RingAt.neq {P : Program} {ns a c : List (Nat × κ × ν)} {x : Nat × κ × ν} (h : RingAt cs d w F p m room ns) (e : ns = a ++ x :: c) {tp te : TypeId} {j : TypeInfo} (hp : P.underlying tp = some (.pointer te)) (hte : P.info? te = some j) (hsz : j.size ≠ 0) :
    (binOp .neq tp (.pointer (some ⟨x.1, 0, none⟩)) (.pointer (some ⟨p, 2, none⟩))).run P w = .ok (.bool true) w := by
  subst e
  have hne : x.1 ≠ p := fun e => (List.nodup_cons.1 h.dist).1 (by rw [← e]; exact List.mem_map_of_mem (by simp))
  obtain ⟨v, hv⟩ := Option.isSome_iff_exists.1 (h.ex x (by simp)).1
  exact run_neq_ptr_far w hp hte hsz (a := ⟨x.1, 0, none⟩) (b := ⟨p, 2, none⟩) hne hv h.c0 (h.frz x.1 (by simp)) (h.frz p (by simp))

/-- Where maps are written and blocks are made, cells stay. -/
theorem cell?_setBlock {w : World} {b : Nat} {es : Array MapEntry} {c : Nat} (hb : w.heap[b]? = some (.map es c)) (es' : Array MapEntry) (c' : Nat) (a : Addr) : (setBlock w b (.map es' c')).cell? a = w.cell? a := by
  by_cases e : a.block = b
  · have h1 : (setBlock w b (.map es' c')).heap[a.block]? = some (.map es' c') := by rw [e]; exact heap_setBlock_same hb _
    have h2 : w.heap[a.block]? = some (.map es c) := by rw [e]; exact hb
    simp [World.cell?, h1, h2]
  · exact World.cell?_of_block (w := w) (heap_setBlock_other hb _ e)

/-! ### The list whole -/
section
variable {P : Program} {kt : TypeId} (K : KeyK P kt κ) {l : List (κ × ν)}

/-- The list at block p: what it holds, the one that was used longest ago first. -/
def LIs (cs : κ → ν → List Value) (d : Nat) (w : World) (F : Nat → Prop) (p : Nat) (room : Int) (l : List (κ × ν)) : Prop :=
  ∃ m ns, ns.map Prod.snd = l ∧ RingAt cs d w F p m room ns ∧ MapIs K.val K.ok w m (ns.map fun x => (x.2.1, pt (x.1, 0))) ∧ (∀ b, F b → b < w.heap.size) ∧ 1 ≤ room

variable {K}

theorem LIs.nodup (h : LIs K cs d w F p room l) : (l.map Prod.fst).Nodup := by
  obtain ⟨m, ns, rfl, hr, hm, hF, hroom⟩ := h
  have hn := hm.nodup K
  rwa [List.map_map] at hn ⊢

theorem LIs.keys_ok (h : LIs K cs d w F p room l) : ∀ x ∈ l, K.ok x.1 := by
  obtain ⟨m, ns, rfl, hr, ⟨_, _, _, _, _, hok⟩, hF, hroom⟩ := h
  intro x hx
  obtain ⟨y, hy, rfl⟩ := List.mem_map.1 hx
  exact hok (y.2.1, pt (y.1, 0)) (List.mem_map.2 ⟨y, hy, rfl⟩)

theorem RingAt.drewN {ns : List (Nat × κ × ν)} (h : RingAt cs d w F p m room ns) (n : Nat) : RingAt cs d (w.drewN n) F p m room ns :=
  ⟨h.c0, h.c1, chain_same (w := w) (w' := w.drewN n) (fun _ _ _ => rfl) h.ring, h.dist, h.own, h.frz, h.cells, h.ex⟩

theorem LIs.drewN (h : LIs K cs d w F p room l) (n : Nat) : LIs K cs d (w.drewN n) F p room l := by
  obtain ⟨m, ns, hl, hr, hm, hF, hroom⟩ := h
  exact ⟨m, ns, hl, hr.drewN n, hm, hF, hroom⟩

theorem LIs.drew (h : LIs K cs d w F p room l) : LIs K cs d w.drew F p room l := h.drewN 1

/-- A key that is there: its node. -/
theorem LIs.split {k : κ} {v : ν} (h : LIs K cs d w F p room l) (hk : (k, v) ∈ l) :
    ∃ m b a c, (a ++ (b, k, v) :: c).map Prod.snd = l ∧ (∀ y ∈ a ++ c, y.2.1 ≠ k) ∧ RingAt cs d w F p m room (a ++ (b, k, v) :: c) ∧
      MapIs K.val K.ok w m ((a ++ (b, k, v) :: c).map fun x => (x.2.1, pt (x.1, 0))) ∧ (∀ b, F b → b < w.heap.size) ∧ 1 ≤ room := by
  obtain ⟨m, ns, rfl, hr, hm, hF, hroom⟩ := h
  obtain ⟨⟨b, k', v'⟩, hx, e⟩ := List.mem_map.1 hk
  simp only [Prod.mk.injEq] at e
  obtain ⟨rfl, rfl⟩ := e
  obtain ⟨a, c, rfl⟩ := List.append_of_mem hx
  have hn := hm.nodup K
  refine ⟨m, b, a, c, rfl, fun y hy e => ?_, hr, hm, hF, hroom⟩
  rw [List.map_map, List.map_append, List.map_cons] at hn
  obtain ⟨_, n2, n3⟩ := List.nodup_append.1 hn
  rcases List.mem_append.1 hy with hy | hy
  · exact n3 _ (List.mem_map_of_mem hy) _ (by simp) e
  · exact (List.nodup_cons.1 n2).1 (List.mem_map.2 ⟨y, hy, e⟩)

theorem LIs.lt (h : LIs K cs d w F p room l) : ∀ b, F b → b < w.heap.size := by
  obtain ⟨m, ns, hl, hr, hm, hF, hroom⟩ := h
  exact hF

theorem LIs.room_pos (h : LIs K cs d w F p room l) : 1 ≤ room := by
  obtain ⟨m, ns, hl, hr, hm, hF, hroom⟩ := h
  exact hroom

/-- Carried over a change outside F. -/
theorem LIs.kept {w' : World} {G : Nat → Prop} (h : LIs K cs d w F p room l) (hc : Ch G w w') (hG : ∀ b, F b → ¬ G b) : LIs K cs d w' F p room l := by
  obtain ⟨m, ns, hl, hr, hm, hF, hroom⟩ := h
  refine ⟨m, ns, hl, hr.kept hc hr.lt (fun b hb => hG b (hr.own b ?_)) (fun _ h => h), hm.of_block K (hc.block m (hm.lt K) (hG m (hr.own m (by simp)))), fun b hb => Nat.lt_of_lt_of_le (hF b hb) hc.size, hroom⟩
  rcases List.mem_cons.1 hb with h | h
  · rw [h]; simp
  · exact List.mem_cons_of_mem _ (List.mem_cons_of_mem _ h)

theorem LIs.below {w' : World} (h : LIs K cs d w F p room l) (hb : Below w.heap.size w w') : LIs K cs d w' F p room l :=
  h.kept (Ch.of_below hb) (fun b hb' hge => by have := h.lt b hb'; omega)

variable {T E : TypeId}

theorem look_hit {m b : Nat} {k : κ} {v : ν} {a c : List (Nat × κ × ν)} (hm : MapIs K.val K.ok w m ((a ++ (b, k, v) :: c).map fun x => (x.2.1, pt (x.1, 0)))) (hn : ∀ y ∈ a ++ c, y.2.1 ≠ k)
    (ht : P.underlying T = some (.map kt E)) (hz : (zeroValue E).run P w = .ok (.pointer none) w) :
    (Instr.lookup T (.map (some m)) (K.val k) false).run P w = .ok (.pointer (some ⟨b, 0, none⟩)) w := by
  have hok : K.ok k := by obtain ⟨_, _, _, _, _, h⟩ := hm; exact h (k, pt (b, 0)) (by simp)
  rcases hm.look K ht hz k hok with ⟨h1, _⟩ | ⟨v, h1, h2⟩
  · exact absurd rfl (h1 (k, pt (b, 0)) (by simp))
  · obtain ⟨y, hy, e⟩ := List.mem_map.1 h1
    simp only [Prod.mk.injEq] at e
    have hb : y.1 = b := by
      rcases List.mem_append.1 hy with h | h
      · exact absurd e.1 (hn y (by simp [h]))
      · rcases List.mem_cons.1 h with h | h
        · rw [h]
        · exact absurd e.1 (hn y (by simp [h]))
    rw [← e.2, hb] at h2
    exact h2

theorem look_miss {m : Nat} {k : κ} {ns : List (Nat × κ × ν)} (hl : ns.map Prod.snd = l) (hk : k ∉ l.map Prod.fst) (hok : K.ok k)
    (hm : MapIs K.val K.ok w m (ns.map fun x => (x.2.1, pt (x.1, 0)))) (ht : P.underlying T = some (.map kt E)) (hz : (zeroValue E).run P w = .ok (.pointer none) w) :
    (Instr.lookup T (.map (some m)) (K.val k) false).run P w = .ok (.pointer none) w := by
  rcases hm.look K ht hz k hok with ⟨_, h2⟩ | ⟨v, h1, _⟩
  · exact h2
  · obtain ⟨y, hy, e⟩ := List.mem_map.1 h1
    simp only [Prod.mk.injEq] at e
    exact absurd (by rw [← hl, ← e.1, List.map_map]; exact List.mem_map_of_mem (f := Prod.fst ∘ Prod.snd) hy) hk

/-- The one that was used longest ago: the ring's next. -/
theorem LIs.head {k : κ} {v : ν} {r : List (κ × ν)} (h : LIs K cs d w F p room ((k, v) :: r)) :
    ∃ b, w.cell? ⟨p, 2 + (d + 1), none⟩ = some (.pointer (some ⟨b, 0, none⟩)) ∧ ∀ i, i < d → w.cell? ⟨b, i, none⟩ = (cs k v)[i]? := by
  obtain ⟨m, ns, hl, hr, hm, hF, hroom⟩ := h
  cases ns with
  | nil => simp at hl
  | cons x t =>
    simp only [List.map_cons, List.cons.injEq] at hl
    obtain ⟨hx, _⟩ := hl
    refine ⟨x.1, ?_, fun i hi => ?_⟩
    · have := hr.ring
      simp only [List.map_cons, List.cons_append, Chain] at this
      exact this.1.next
    · have := hr.cells x (by simp) i hi
      rw [hx] at this; exact this

variable [DecidableEq κ]

/-- All but a key. -/
def del (l : List (κ × ν)) (k : κ) : List (κ × ν) := l.filter (fun x => x.1 ≠ k)
/-- A key is the last one, with this value. -/
def use (l : List (κ × ν)) (k : κ) (v : ν) : List (κ × ν) := del l k ++ [(k, v)]

theorem del_split {b : Nat} {k : κ} {v : ν} {a c : List (Nat × κ × ν)} (hn : ∀ y ∈ a ++ c, y.2.1 ≠ k) : del ((a ++ (b, k, v) :: c).map Prod.snd) k = (a ++ c).map Prod.snd := by
  unfold del
  rw [List.filter_map, List.filter_append, List.filter_cons_of_neg (by simp)]
  rw [List.filter_eq_self.2 (fun y hy => by simpa using hn y (by simp [hy])), List.filter_eq_self.2 (fun y hy => by simpa using hn y (by simp [hy])), List.map_append]

theorem del_none {k : κ} (h : k ∉ l.map Prod.fst) : del l k = l :=
  List.filter_eq_self.2 (fun x hx => by simp only [ne_eq, decide_eq_true_eq]; exact fun e => h (by rw [← e]; exact List.mem_map_of_mem hx))

theorem not_mem_del (l : List (κ × ν)) (k : κ) : k ∉ (del l k).map Prod.fst := by
  intro h
  obtain ⟨x, hx, e⟩ := List.mem_map.1 h
  have := (List.mem_filter.1 hx).2
  simp only [ne_eq, decide_eq_true_eq] at this
  exact this e

/-! What the methods answer, of lists of pairs. -/
def has (l : List (κ × ν)) (k : κ) : Bool := decide (k ∈ l.map Prod.fst)
def valOf (l : List (κ × ν)) (k : κ) (z : ν) : ν := ((l.find? fun x => decide (x.1 = k)).map Prod.snd).getD z
def getS (l : List (κ × ν)) (k : κ) (z : ν) : List (κ × ν) := if has l k then use l k (valOf l k z) else l
def goes (room : Int) (l : List (κ × ν)) (k : κ) : Bool := !has l k && decide (room ≤ (l.length : Int))
def goneK (room : Int) (l : List (κ × ν)) (k z : κ) : κ := if goes room l k then (l.head?.map Prod.fst).getD z else z
def putS (room : Int) (l : List (κ × ν)) (k : κ) (v : ν) : List (κ × ν) := if has l k then use l k v else if goes room l k then l.tail ++ [(k, v)] else l ++ [(k, v)]

theorem has_iff {l : List (κ × ν)} {k : κ} : has l k = true ↔ k ∈ l.map Prod.fst := by simp [has]
theorem has_false {l : List (κ × ν)} {k : κ} : has l k = false ↔ k ∉ l.map Prod.fst := by simp [has]

theorem valOf_mem {l : List (κ × ν)} {k : κ} (h : k ∈ l.map Prod.fst) (z : ν) : (k, valOf l k z) ∈ l := by
  unfold valOf
  cases hf : l.find? fun x => decide (x.1 = k) with
  | none =>
    obtain ⟨x, hx, e⟩ := List.mem_map.1 h
    have := List.find?_eq_none.1 hf x hx
    simp [e] at this
  | some x =>
    have h1 := List.mem_of_find?_eq_some hf
    have h2 := List.find?_some hf
    simp only [decide_eq_true_eq] at h2
    simp only [Option.map_some, Option.getD_some]
    rw [← h2]; exact h1

/-- Behind out and last: the key was used. -/
theorem LIs.used {m b : Nat} {k : κ} {v : ν} {a c : List (Nat × κ × ν)} {w w1 w2 : World} (hn : ∀ y ∈ a ++ c, y.2.1 ≠ k) (hm : MapIs K.val K.ok w m ((a ++ (b, k, v) :: c).map fun x => (x.2.1, pt (x.1, 0))))
    (hF : ∀ b, F b → b < w.heap.size) (hroom : 1 ≤ room) (hk1 : KeepMaps w w1) (hk2 : KeepMaps w1 w2) (hc1 : Ch F w w1) (hc2 : Ch F w1 w2) (hr2 : RingAt cs d w2 F p m room ((a ++ c) ++ [(b, k, v)])) :
    LIs K cs d w2 F p room (use ((a ++ (b, k, v) :: c).map Prod.snd) k v) ∧ Ch F w w2 := by
  refine ⟨⟨m, _, ?_, hr2, ((hm.keep K hk1).keep K hk2).perm K ?_, fun b hb => Nat.lt_of_lt_of_le (hF b hb) (Nat.le_trans hc1.size hc2.size), hroom⟩, hc1.trans hc2 (fun _ _ h => h)⟩
  · rw [use, del_split hn]; simp
  · refine List.Perm.map _ ?_
    rw [List.append_assoc]
    exact List.Perm.append_left _ (List.perm_append_singleton _ _).symm

/-- Behind out and delete: the key is gone. -/
theorem LIs.dropped {m b : Nat} {k : κ} {v : ν} {a c : List (Nat × κ × ν)} {w w1 : World} (hn : ∀ y ∈ a ++ c, y.2.1 ≠ k) (hm : MapIs K.val K.ok w m ((a ++ (b, k, v) :: c).map fun x => (x.2.1, pt (x.1, 0))))
    (hF : ∀ b, F b → b < w.heap.size) (hroom : 1 ≤ room) (hk1 : KeepMaps w w1) (hc1 : Ch F w w1) (hr1 : RingAt cs d w1 F p m room (a ++ c)) (ht : P.underlying T = some (.map kt E)) (ty : TypeId) :
    ∃ o, (Builtin.delete_ #[T, kt] ty #[.map (some m), K.val k]).run P w1 = .ok (.tuple #[]) (setBlock w1 m o) ∧ LIs K cs d (setBlock w1 m o) F p room (del ((a ++ (b, k, v) :: c).map Prod.snd) k) ∧ Ch F w (setBlock w1 m o) := by
  have hok : K.ok k := by obtain ⟨_, _, _, _, _, h⟩ := hm; exact h (k, pt (b, 0)) (by simp)
  obtain ⟨o, hrun, hmo⟩ := (hm.keep K hk1).del K ht k hok ty
  have fm : F m := hr1.own m (by simp)
  have hc2 : Ch (fun x => x = m) w1 (setBlock w1 m o) := (Ch.refl (fun x => x = m) w1).setBlock (fun _ => rfl) o
  have hcF : Ch F w1 (setBlock w1 m o) := hc2.mono (fun x _ e => by rw [e]; exact fm)
  have hne : ∀ x ∈ p :: (a ++ c).map (·.1), x ≠ m := by
    intro x hx e
    obtain ⟨es, cl, hb, _⟩ := hm.keep K hk1
    subst e
    rcases List.mem_cons.1 hx with rfl | hx
    · have := hr1.c0; simp [World.cell?, hb] at this
    · obtain ⟨y, hy, rfl⟩ := List.mem_map.1 hx
      have := (hr1.ex y hy).1; simp [World.cell?, hb] at this
  refine ⟨o, hrun, ⟨m, a ++ c, (del_split hn).symm, hr1.kept hc2 hr1.lt hne (fun _ h => h), hmo.perm K ?_, fun b hb => Nat.lt_of_lt_of_le (hF b hb) (Nat.le_trans hc1.size hcF.size), hroom⟩, hc1.trans hcF (fun _ _ h => h)⟩
  rw [List.filter_map, List.filter_append, List.filter_cons_of_neg (by simp)]
  rw [List.filter_eq_self.2 (fun y hy => by simpa using hn y (by simp [hy])), List.filter_eq_self.2 (fun y hy => by simpa using hn y (by simp [hy]))]

omit [DecidableEq κ] in
/-- A list that was just made. -/
theorem LIs.made {w : World} {ob : Array Value} {lt : TypeId} {zs : List Value} (hroom : 1 ≤ room) (hz : zs.length = d)
    (hob : ob.toList = [.int .i64 room, .map (some w.heap.size)] ++ (zs ++ [.pointer (some ⟨w.heap.size + 1, 2, none⟩), .pointer (some ⟨w.heap.size + 1, 2, none⟩)])) :
    LIs K cs d ((w.alloc (.map #[] 0)).alloc (.cells ob lt)).drew (fun b => b = w.heap.size ∨ b = w.heap.size + 1) (w.heap.size + 1) room [] ∧ Below w.heap.size w ((w.alloc (.map #[] 0)).alloc (.cells ob lt)).drew := by
  have hcell : ∀ i, ((w.alloc (.map #[] 0)).alloc (.cells ob lt)).drew.cell? ⟨w.heap.size + 1, i, none⟩ = ob.toList[i]? := fun i => by
    have := World.cell?_alloc_new (w.alloc (.map #[] 0)) ob lt i
    rw [World.size_alloc] at this
    rw [World.cell?_drew, this, Array.getElem?_toList]
  have hfz : ∀ i, ((w.alloc (.map #[] 0)).alloc (.cells ob lt)).drew.frozen? ⟨w.heap.size + 1, i, none⟩ = false := fun i => by
    have := World.frozen?_alloc_new (w.alloc (.map #[] 0)) ob lt i
    rw [World.size_alloc] at this
    rw [World.frozen?_drew, this]
  refine ⟨⟨w.heap.size, [], rfl, ⟨by rw [hcell, hob]; rfl, by rw [hcell, hob]; rfl, ⟨⟨?_, ?_⟩, trivial⟩, by simp, ?_, ?_, by simp, by simp⟩, ?_, ?_, hroom⟩, (((Below.refl _ _).alloc (Nat.le_refl _) _).alloc (by simp) _).drew⟩
  · have e : 2 + (d + 1) = d + 3 := by omega
    simp only [fld, e]
    rw [hcell, hob, List.getElem?_append_right (by simp), List.getElem?_append_right (by simp; omega)]
    simp [hz, Nat.add_sub_cancel_left]
  · simp only [fld]
    rw [hcell, hob, List.getElem?_append_right (by simp), List.getElem?_append_right (by simp; omega)]
    simp [hz]
  · intro b hb; simp only [List.map_nil, List.mem_cons, List.not_mem_nil, or_false] at hb; rcases hb with h | h <;> simp [h]
  · intro b hb o; simp only [List.map_nil, List.mem_cons, List.not_mem_nil, or_false] at hb; rw [hb]; exact hfz o
  · exact (MapIs.made K w).keep K (((KeepMaps.refl _).alloc _).drew)
  · intro b hb
    rw [World.size_drew, World.size_alloc, World.size_alloc]
    rcases hb with h | h <;> omega

/-- A key that is not there: its node is laid, the map leads to it, 'last' puts it into the ring. -/
theorem LIs.fresh {k : κ} {v : ν} (h : LIs K cs d w F p room l) (hk : k ∉ l.map Prod.fst) (hok : K.ok k) (ht : P.underlying T = some (.map kt E)) {ob : Array Value} {nt : TypeId}
    (hob : ob.toList = cs k v ++ [.pointer none, .pointer none]) (hd : (cs k v).length = d) :
    ∃ m ns o, (w.alloc (.cells ob nt)).cell? ⟨p, 1, none⟩ = some (.map (some m)) ∧
      (Instr.mapUpdate T (.map (some m)) (K.val k) (.pointer (some ⟨w.heap.size, 0, none⟩))).run P (w.alloc (.cells ob nt)) = .ok () (setBlock (w.alloc (.cells ob nt)) m o) ∧
      RingAt cs d (setBlock (w.alloc (.cells ob nt)) m o) (fun b => F b ∨ b = w.heap.size) p m room ns ∧ NodeAt cs d (setBlock (w.alloc (.cells ob nt)) m o) (fun b => F b ∨ b = w.heap.size) (w.heap.size, k, v) ∧ w.heap.size ∉ p :: ns.map (·.1) ∧
      ∀ w3, RingAt cs d w3 (fun b => F b ∨ b = w.heap.size) p m room (ns ++ [(w.heap.size, k, v)]) → KeepMaps (setBlock (w.alloc (.cells ob nt)) m o) w3 → Ch (fun b => F b ∨ b = w.heap.size) (setBlock (w.alloc (.cells ob nt)) m o) w3 →
        LIs K cs d w3 (fun b => F b ∨ b = w.heap.size) p room (l ++ [(k, v)]) ∧ Ch F w w3 := by
  obtain ⟨m, ns, rfl, hr, hm, hF, hroom⟩ := h
  have hlt := hr.lt
  have ca : Ch (fun _ => False) w (w.alloc (.cells ob nt)) := (Ch.refl _ w).alloc _
  have hm1 : MapIs K.val K.ok (w.alloc (.cells ob nt)) m (ns.map fun x => (x.2.1, pt (x.1, 0))) := hm.keep K ((KeepMaps.refl w).alloc _)
  obtain ⟨o, hrun, hmo⟩ := hm1.put K ht k hok (.pointer (some ⟨w.heap.size, 0, none⟩))
  have hmlt : m < w.heap.size := hm.lt K
  have fm : F m := hr.own m (by simp)
  have hne : ∀ x ∈ p :: ns.map (·.1), x ≠ m := by
    intro x hx e
    obtain ⟨es, cl, hb, _⟩ := hm
    subst e
    rcases List.mem_cons.1 hx with rfl | hx
    · have := hr.c0; simp [World.cell?, hb] at this
    · obtain ⟨y, hy, rfl⟩ := List.mem_map.1 hx
      have := (hr.ex y hy).1; simp [World.cell?, hb] at this
  have hr1 : RingAt cs d (w.alloc (.cells ob nt)) (fun b => F b ∨ b = w.heap.size) p m room ns := hr.kept ca hlt (fun _ _ h => h) (fun _ h => Or.inl h)
  have hc2 : Ch (fun x => x = m) (w.alloc (.cells ob nt)) (setBlock (w.alloc (.cells ob nt)) m o) := (Ch.refl (fun x => x = m) _).setBlock (fun _ => rfl) o
  have hr2 : RingAt cs d (setBlock (w.alloc (.cells ob nt)) m o) (fun b => F b ∨ b = w.heap.size) p m room ns := hr1.kept hc2 hr1.lt hne (fun _ h => h)
  have hnb : w.heap.size ∉ p :: ns.map (·.1) := fun hx => by have := hlt _ hx; omega
  have hmn : w.heap.size ≠ m := by omega
  have hcell : ∀ i, (setBlock (w.alloc (.cells ob nt)) m o).cell? ⟨w.heap.size, i, none⟩ = ob[i]? := fun i => by
    rw [hc2.cell (p := ⟨w.heap.size, i, none⟩) (by simp) hmn]; exact World.cell?_alloc_new _ _ _ _
  have hobi : ∀ i, ob[i]? = (cs k v ++ [.pointer none, .pointer none])[i]? := fun i => by rw [← hob, Array.getElem?_toList]
  have hnode : NodeAt cs d (setBlock (w.alloc (.cells ob nt)) m o) (fun b => F b ∨ b = w.heap.size) (w.heap.size, k, v) := by
    refine ⟨Or.inr rfl, fun i => ?_, fun i hi => ?_, ⟨.pointer none, ?_⟩, ⟨.pointer none, ?_⟩⟩
    · rw [hc2.frozen (p := ⟨w.heap.size, i, none⟩) (by simp) hmn]; exact World.frozen?_alloc_new _ _ _ _
    · rw [hcell, hobi, List.getElem?_append_left (by omega)]
    · rw [hcell, hobi, List.getElem?_append_right (by omega), hd]; simp
    · rw [hcell, hobi, List.getElem?_append_right (by omega), hd]; simp
  refine ⟨m, ns, o, by rw [ca.cell (p := ⟨p, 1, none⟩) (hlt p (by simp)) (fun h => h)]; exact hr.c1, hrun, hr2, hnode, hnb, fun w3 h3 hk3 hc3 => ⟨⟨m, ns ++ [(w.heap.size, k, v)], by simp, h3, (hmo.keep K hk3).perm K ?_, fun b hb => ?_, hroom⟩, ?_⟩⟩
  · rw [List.map_append]
    refine List.Perm.append_right _ ?_
    rw [List.filter_eq_self.2]
    intro x hx
    obtain ⟨y, hy, rfl⟩ := List.mem_map.1 hx
    simp only [ne_eq, decide_eq_true_eq]
    exact fun e => hk (by rw [← e, List.map_map]; exact List.mem_map_of_mem (f := Prod.fst ∘ Prod.snd) hy)
  · have s1 := hc3.size
    have s2 := hc2.size
    rw [World.size_alloc] at s2
    rcases hb with hb | rfl
    · have := hF b hb; omega
    · omega
  · have c1 : Ch F w (w.alloc (.cells ob nt)) := (Ch.refl F w).alloc _
    have c2 : Ch F w (setBlock (w.alloc (.cells ob nt)) m o) := c1.trans hc2 (fun x _ e => by rw [e]; exact fm)
    refine c2.trans hc3 (fun x hx h => ?_)
    rcases h with h | h
    · exact h
    · omega

end

end
end Go.Proofs.Ytnnaidladcdbdaa
