/- The shard and a row of keys that the caller holds beside it (chapter 15: ShardPurge). -/
import Derived.Test.YtnnaidladcdbdaaShPurge
namespace Go.Proofs.Ytnnaidladcdbdaa
open Go.RowKit Go.ChangeMaps
open KZ (SV sv ZA KK)

variable {B : Nat} {w0 w w' : World} {X : Nat → Prop} {p : Nat} {room : Int} {d : List (PK × Option Int)} {fl : List (PK × Int × List Int)} {rs : List (Int × Option Int × Int)} {ks : List (Nat × PK)} {v : Value} {ws : List PK} {vs : List (SV × Option Int)}

/-- Keys in variables, a row of keys, zones at hand. -/
def SiteR (B : Nat) (w0 w : World) (p : Nat) (room : Int) (d : List (PK × Option Int)) (fl : List (PK × Int × List Int)) (rs : List (Int × Option Int × Int)) (ks : List (Nat × PK)) (v : Value) (ws : List PK) (vs : List (SV × Option Int)) : Prop :=
  ∃ X, Own B w0 w X p room d fl rs ∧ (∀ x ∈ ks, HeldK X w x.1 x.2) ∧ (w.ownsRow 0 58 2 v ws.length (KZ.krow ws) ∧ ∀ b, v.ownBlock = some b → X b) ∧ ∀ x ∈ vs, Zn w x.1 x.2 ∧ ∀ b, zb x.1 b → X b

theorem SiteR.below (h : SiteR B w0 w p room d fl rs ks v ws vs) : Below B w0 w := by obtain ⟨X, h, _⟩ := h; exact h.below
theorem SiteR.keyR {b : Nat} {k : PK} (h : SiteR B w0 w p room d fl rs ks v ws vs) (hm : (b, k) ∈ ks) : w.rangeAt b 0 [.int .i64 k.1, .string k.2] := fun j u hu => by
  obtain ⟨X, _, h, _⟩ := h
  match j, hu with
  | 0, hu => simp at hu; subst hu; exact (h _ hm).k0
  | 1, hu => simp at hu; subst hu; exact (h _ hm).k1
theorem SiteR.row (h : SiteR B w0 w p room d fl rs ks v ws vs) : w.ownsRow 0 58 2 v ws.length (KZ.krow ws) := by obtain ⟨X, _, _, h, _⟩ := h; exact h.1

theorem siter_step {X Y : Nat → Prop} {w w' : World} {d' : List (PK × Option Int)} {fl' : List (PK × Int × List Int)} {rs' : List (Int × Option Int × Int)} {vs' : List (SV × Option Int)} (h1 : Own B w0 w X p room d fl rs) (hk : ∀ x ∈ ks, HeldK X w x.1 x.2)
    (hr : w.ownsRow 0 58 2 v ws.length (KZ.krow ws) ∧ ∀ b, v.ownBlock = some b → X b) (hv : ∀ x ∈ vs, Zn w x.1 x.2 ∧ ∀ b, zb x.1 b → X b)
    (ho : Own B w0 w' Y p room d' fl' rs') (hc : Ch (fun b => ¬ X b) w w') (hY : ∀ b, X b → Y b) (hn : ∀ x ∈ vs', Zn w' x.1 x.2 ∧ ∀ b, zb x.1 b → Y b) : SiteR B w0 w' p room d' fl' rs' ks v ws (vs' ++ vs) := by
  have hxl : ∀ b, X b → b < w.heap.size := by obtain ⟨s, _, _, _, _, hx, _⟩ := h1; exact fun b hb => (hx b hb).2
  refine ⟨Y, ho, fun x hx => (hk x hx).step hc hY, ⟨owned_kept hr.1 (fun b hb => hc.block b (hxl b (hr.2 b hb)) (fun hn => hn (hr.2 b hb))), fun b hb => hY b (hr.2 b hb)⟩, fun x hx => ?_⟩
  rcases List.mem_append.1 hx with hx | hx
  · exact hn x hx
  · exact ⟨(hv x hx).1.kept hc (fun a ha hn => hn ((hv x hx).2 _ ⟨a, ha, rfl⟩)), fun b hb => hY b ((hv x hx).2 b hb)⟩

theorem SiteR.later (h : SiteR B w0 w p room d fl rs ks v ws vs) (hb : Below w.heap.size w w') : SiteR B w0 w' p room d fl rs ks v ws vs := by
  obtain ⟨X, ho, hk, hr, hv⟩ := h
  exact siter_step (vs' := []) ho hk hr hv (ho.later hb) (Ch.of_none hb _) (fun _ h => h) (fun _ h => by cases h)

theorem SiteR.of (h : Site B w0 w p room d fl rs [] [] []) : SiteR B w0 w p room d fl rs [] (.slice none 0 0) [] [] := by
  obtain ⟨X, ho, -, -, -⟩ := h
  exact ⟨X, ho, (fun _ h => by cases h), ⟨⟨rfl, Or.inl ⟨rfl, rfl⟩⟩, fun b hb => by cases hb⟩, (fun _ h => by cases h)⟩

theorem SiteR.bare (h : SiteR B w0 w p room d fl rs ks v ws vs) : SiteR B w0 w p room d fl rs [] v ws [] := by
  obtain ⟨X, ho, -, hr, -⟩ := h
  exact ⟨X, ho, (fun _ h => by cases h), hr, (fun _ h => by cases h)⟩
theorem SiteR.noZones (h : SiteR B w0 w p room d fl rs ks v ws vs) : SiteR B w0 w p room d fl rs ks v ws [] := by
  obtain ⟨X, ho, hk, hr, -⟩ := h
  exact ⟨X, ho, hk, hr, (fun _ h => by cases h)⟩

theorem SiteR.addKey {b : Nat} {k : PK} (h : SiteR B w0 w p room d fl rs ks v ws vs) (hb : Below w.heap.size w w') (h1 : w.heap.size ≤ b) (k0 : w'.cell? ⟨b, 0, none⟩ = some (.int .i64 k.1)) (k1 : w'.cell? ⟨b, 1, none⟩ = some (.string k.2)) :
    SiteR B w0 w' p room d fl rs ((b, k) :: ks) v ws vs := by
  obtain ⟨X, ho, hk, hr, hv⟩ := h
  have hlt := cell_lt k0
  obtain ⟨Y, h1', h2', h3', h4'⟩ := siter_step (vs' := []) ho hk hr hv (ho.laid hb) (Ch.of_none hb _) (fun _ h => Or.inl h) (fun _ h => by cases h)
  refine ⟨_, ho.laid hb, fun x hx => ?_, ⟨h3'.1, fun b hb => Or.inl (hr.2 b hb)⟩, fun x hx => ⟨(h4' x hx).1, fun b hb => Or.inl ((hv x hx).2 b hb)⟩⟩
  rcases List.mem_cons.1 hx with rfl | hx
  · exact ⟨Or.inr ⟨h1, hlt⟩, hlt, k0, k1⟩
  · exact (hk x hx).step (Ch.of_none hb _) (fun _ h => Or.inl h)

/-- A key more in the row. -/
theorem SiteR.push {k : PK} {g cap : Nat} (h : SiteR B w0 w p room d fl rs ks v ws vs) (hg : w.grownBy w' v.ownBlock) (ho' : w'.ownsRow 0 58 2 (.slice (some ⟨g, 0, none⟩) (ws.length + 1) cap) (ws.length + 1) (KZ.krow ws ++ [.int .i64 k.1, .string k.2]))
    (hat : v.ownBlock = some g ∨ w.heap.size ≤ g) (hgl : g < w'.heap.size) : SiteR B w0 w' p room d fl rs [] (.slice (some ⟨g, 0, none⟩) (ws.length + 1) cap) (ws ++ [k]) [] := by
  obtain ⟨X, ho, hk, hr, hv⟩ := h
  have hc : Ch X w w' := (Ch.refl X w).grown hg (fun b hb _ => hr.2 b hb)
  obtain ⟨s, hp, h1, hf, ha, hx, hw, hs⟩ := ho
  refine ⟨fun b => X b ∨ (w.heap.size ≤ b ∧ b < w'.heap.size), ⟨s, hp, h1.kept hc (fun b hb => (ha b hb).2), hf, fun b hb => ⟨(ha b hb).1, fun h => h.elim (ha b hb).2 (fun h => by have := h1.lt b hb; omega)⟩, fun b hb => ?_, hw.trans (hc.below hs (fun b hb hX => by have := (hx b hX).1; omega)), Nat.le_trans hs hc.size⟩, (fun _ h => by cases h), ⟨?_, fun b hb => ?_⟩, (fun _ h => by cases h)⟩
  · rcases hb with h | h
    · exact ⟨(hx b h).1, Nat.lt_of_lt_of_le (hx b h).2 hc.size⟩
    · exact ⟨Nat.le_trans hs h.1, h.2⟩
  · rw [KZ.krow_append, List.length_append]; exact ho'
  · cases hb
    rcases hat with h | h
    · exact Or.inl (hr.2 g h)
    · exact Or.inr ⟨h, hgl⟩

theorem siter_begin (h : SiteR B w0 w p room d fl rs ks v ws vs) (i : Int) (hi : KI.ok i) (k : PK) (hk : KP.ok k) :
    Calls Try.prog 37 #[.pointer (some ⟨p, 0, none⟩), .int .i64 i, KK k] w fun e w' => ∃ z, e = .returned (.tuple #[ZA z, .int .i64 (beginHow d fl k)]) ∧ SiteR B w0 w' p room (getS d k none) (beginF d fl k i) (del rs i) ks v ws vs := by
  obtain ⟨X, ho, hk', hr, hv⟩ := h
  exact (own_begin ho i hi k hk).mono fun e w' ⟨z, he, hzn, hf, ho', hc⟩ => ⟨z, he, siter_step (vs' := []) ho hk' hr hv ho' hc (fun _ h => Or.inl h) (fun _ h => by cases h)⟩

theorem siter_end_yes {z : SV} {o : Option Int} (h : SiteR B w0 w p room d fl rs ks v ws vs) (i : Int) (k : PK) (hk : KP.ok k) (e : Int) (us : List Int) (hf : (k, i, us) ∈ fl) (hvo : (z, o) ∈ vs) :
    Calls Try.prog 42 #[.pointer (some ⟨p, 0, none⟩), .int .i64 i, KK k, ZA z, .int .i64 e] w fun x w' => x = .returned (.int .i64 0) ∧
      SiteR B w0 w' p room (if e = 0 then putS room d k o else d) (del fl k) (fillR rs us (if e = 0 then o else none, e)) ks v ws vs := by
  obtain ⟨X, ho, hk', hr, hv⟩ := h
  exact (own_end_yes ho i k hk z o e us hf (hv _ hvo).1 (hv _ hvo).2).mono fun x w' ⟨he, ho', hc⟩ => ⟨he, siter_step (vs' := []) ho hk' hr hv ho' hc (fun _ h => h) (fun _ h => by cases h)⟩

theorem siter_zone (h : SiteR B w0 w p room d fl rs ks v ws vs) (n : Int) : Calls Try.prog 43 #[.int .i64 n] w fun e w' => ∃ z, e = .returned (ZA z) ∧ SiteR B w0 w' p room d fl rs ks v ws ((z, some n) :: vs) := by
  obtain ⟨X, ho, hk', hr, hv⟩ := h
  exact (zone43 w n).mono fun _ _ ⟨z, he, hz, hf, hb⟩ => ⟨z, he, siter_step (vs' := [(z, some n)]) ho hk' hr hv (ho.laid hb) (Ch.of_none hb _) (fun _ h => Or.inl h) (fun x hx => by
    simp only [List.mem_singleton] at hx
    subst hx
    exact ⟨hz, fun b ⟨a, ha, e⟩ => Or.inr ⟨by rw [e]; exact hf a ha, by rw [e]; exact hz.lt a ha⟩⟩)⟩

theorem siter_keys (h : SiteR B w0 w p room d fl rs ks v ws vs) (hn : d.length ≤ 1000) : Calls Try.prog 45 #[.pointer (some ⟨p, 0, none⟩)] w fun e w' => e = .returned (.slice (some ⟨w.heap.size, 0, none⟩) d.length d.length) ∧
    w'.ownsRow w.heap.size 58 2 (.slice (some ⟨w.heap.size, 0, none⟩) d.length d.length) d.length (KZ.krow (d.map Prod.fst)) ∧ SiteR B w0 w' p room d fl rs ks v ws vs := by
  obtain ⟨X, ho, hk', hr, hv⟩ := h
  exact (own_keys ho hn).mono fun x w' ⟨he, hrow, hb⟩ => ⟨he, hrow, SiteR.later ⟨X, ho, hk', hr, hv⟩ hb⟩

theorem drp_all (ks : List PK) (rel : Int) (n : Nat) (h : ks.length ≤ n) : drp ks rel n = ks.filter fun k => decide (k.1 = rel) := by unfold drp; rw [List.take_of_length_le h]

/-- shard.Purge. -/
theorem siter_purge (h : SiteR B w0 w p room d fl rs ks v ws vs) (rel : Int) (hn : d.length ≤ 1000) : Calls Try.prog 46 #[.pointer (some ⟨p, 0, none⟩), .int .i64 rel] w fun e w' =>
    e = .returned (.int .i64 (((d.map Prod.fst).filter fun k => decide (k.1 = rel)).length : Nat)) ∧ SiteR B w0 w' p room (d.filter fun x => decide (x.1.1 ≠ rel)) fl rs ks v ws vs := by
  obtain ⟨X, ho, hk', hr, hv⟩ := h
  obtain ⟨s, rfl, h1, rfl, ha, hx, hw, hs⟩ := id ho
  have hok : ∀ k ∈ d.map Prod.fst, KP.ok k := by
    rw [← h1.told.keys]
    intro k hk
    obtain ⟨x, hx, rfl⟩ := List.mem_map.1 hk
    exact h1.done.keys_ok x hx
  have e0 := drp_all (d.map Prod.fst) rel d.length (by rw [List.length_map]; exact Nat.le_refl _)
  have e1 : dels d ((d.map Prod.fst).filter fun k => decide (k.1 = rel)) = d.filter fun x => decide (x.1.1 ≠ rel) :=
    dels_filter _ d (fun k => decide (k.1 ≠ rel)) (fun x hx => by
      simp only [decide_eq_true_eq, List.mem_filter, not_and]
      exact ⟨fun h _ => h, fun h => h (List.mem_map_of_mem (f := Prod.fst) hx)⟩)
  refine (purge46 h1 rel hn hok).mono fun e w' ⟨he, h2, hc⟩ => ⟨by rw [he, e0], ?_⟩
  rw [e0, e1] at h2
  exact siter_step (vs' := []) ho hk' hr hv (own_of ha hx hw hs h2 rfl rfl (fun b hb => Or.inl hb) hc (fun b hb => Or.inl hb)) (hc.mono (fun b _ hb hX => (ha b hb).2 hX)) (fun _ h => h) (fun _ h => by cases h)

end Go.Proofs.Ytnnaidladcdbdaa
