/- The reference of chapter 15 in memory: an object of a room and four rows, and the rows of those that wait. -/
import Derived.Test.YtnnaidladcdbdaaKZ3
import Derived.Test.YtnnaidladcdbdaaApp
namespace Go.Proofs.Ytnnaidladcdbdaa
open Go.RowKit Go.ChangeMaps

/-- An owned row. -/
structure RowV where
  v : Value
  e : TypeId
  sz : Nat
  n : Nat
  xs : List Value

/-- Owned rows, each in a block of its own, in G, none at q. -/
def RowsAt (w : World) (G : Nat → Prop) (q : Nat) (L : List RowV) : Prop :=
  (∀ r ∈ L, w.ownsRow 0 r.e r.sz r.v r.n r.xs ∧ ∀ b, r.v.ownBlock = some b → G b ∧ b ≠ q) ∧ L.Pairwise (fun r r' => ∀ b, r.v.ownBlock = some b → r'.v.ownBlock ≠ some b)

theorem RowsAt.kept {w w' : World} {G F : Nat → Prop} {q : Nat} {L : List RowV} (h : RowsAt w G q L) (hlt : ∀ b, G b → b < w.heap.size) (hc : Ch F w w') (hGF : ∀ b, G b → b ≠ q → ¬ F b) : RowsAt w' G q L :=
  ⟨fun r hr => ⟨owned_kept (h.1 r hr).1 (fun b hb => hc.block b (hlt b ((h.1 r hr).2 b hb).1) (hGF b ((h.1 r hr).2 b hb).1 ((h.1 r hr).2 b hb).2)), (h.1 r hr).2⟩, h.2⟩

theorem RowsAt.more {w : World} {G G' : Nat → Prop} {q : Nat} {L : List RowV} (h : RowsAt w G q L) (hG : ∀ b, G b → G' b) : RowsAt w G' q L := ⟨fun r hr => ⟨(h.1 r hr).1, fun b hb => ⟨hG b ((h.1 r hr).2 b hb).1, ((h.1 r hr).2 b hb).2⟩⟩, h.2⟩

/-- What a call may have added to a set of blocks. -/
abbrev fresh15 (G : Nat → Prop) (w w' : World) : Nat → Prop := fun b => G b ∨ (w.heap.size ≤ b ∧ b < w'.heap.size)

/-- One row turns: its block is its own one or a new one; only its own block and the object may have changed. -/
theorem RowsAt.set {w w' : World} {G : Nat → Prop} {q : Nat} {A C : List RowV} {r r' : RowV} (h : RowsAt w G q (A ++ r :: C)) (hlt : ∀ b, G b → b < w.heap.size) (hc : Ch (fun b => r.v.ownBlock = some b ∨ b = q) w w') (hq : q < w.heap.size)
    (ho : w'.ownsRow 0 r'.e r'.sz r'.v r'.n r'.xs) (hat : ∀ b, r'.v.ownBlock = some b → r.v.ownBlock = some b ∨ (w.heap.size ≤ b ∧ b < w'.heap.size)) : RowsAt w' (fresh15 G w w') q (A ++ r' :: C) := by
  obtain ⟨h1, h2⟩ := h
  have hp := List.pairwise_append.1 h2
  have hp2 := List.pairwise_cons.1 hp.2.1
  have hA : ∀ s ∈ A, ∀ b, s.v.ownBlock = some b → r.v.ownBlock ≠ some b := fun s hs => hp.2.2 s hs r (by simp)
  have hC : ∀ s ∈ C, ∀ b, r.v.ownBlock = some b → s.v.ownBlock ≠ some b := fun s hs => hp2.1 s hs
  have old : ∀ s ∈ A ++ r :: C, ∀ b, s.v.ownBlock = some b → G b ∧ b ≠ q := fun s hs => (h1 s hs).2
  have keep : ∀ s ∈ A ++ r :: C, (∀ b, s.v.ownBlock = some b → r.v.ownBlock ≠ some b) → w'.ownsRow 0 s.e s.sz s.v s.n s.xs := fun s hs hne =>
    owned_kept (h1 s hs).1 (fun b hb => hc.block b (hlt b (old s hs b hb).1) (fun e => e.elim (fun e => hne b hb e) (fun e => (old s hs b hb).2 e)))
  refine ⟨fun s hs => ?_, ?_⟩
  · rcases List.mem_append.1 hs with hs | hs
    · exact ⟨keep s (by simp [hs]) (hA s hs), fun b hb => ⟨Or.inl (old s (by simp [hs]) b hb).1, (old s (by simp [hs]) b hb).2⟩⟩
    · rcases List.mem_cons.1 hs with rfl | hs
      · refine ⟨ho, fun b hb => ?_⟩
        rcases hat b hb with e | e
        · exact ⟨Or.inl (old r (by simp) b e).1, (old r (by simp) b e).2⟩
        · exact ⟨Or.inr e, by omega⟩
      · exact ⟨keep s (by simp [hs]) (fun b hb e => hC s hs b e hb), fun b hb => ⟨Or.inl (old s (by simp [hs]) b hb).1, (old s (by simp [hs]) b hb).2⟩⟩
  · refine List.pairwise_append.2 ⟨hp.1, List.pairwise_cons.2 ⟨fun s hs b hb e => ?_, hp2.2⟩, fun s hs t ht => ?_⟩
    · rcases hat b hb with e1 | e1
      · exact hC s hs b e1 e
      · have := hlt b (old s (by simp [hs]) b e).1; omega
    · rcases List.mem_cons.1 ht with rfl | ht
      · intro b hb e
        rcases hat b e with e1 | e1
        · exact hA s hs b hb e1
        · have := hlt b (old s (by simp [hs]) b hb).1; omega
      · exact hp.2.2 s hs t (by simp [ht])

/-- A row more, in a new block or in none. -/
theorem RowsAt.add {w w' : World} {G : Nat → Prop} {q : Nat} {L : List RowV} {r' : RowV} (h : RowsAt w G q L) (hlt : ∀ b, G b → b < w.heap.size) (hc : Ch (fun b => b = q) w w') (hq : q < w.heap.size)
    (ho : w'.ownsRow 0 r'.e r'.sz r'.v r'.n r'.xs) (hat : ∀ b, r'.v.ownBlock = some b → w.heap.size ≤ b ∧ b < w'.heap.size) : RowsAt w' (fresh15 G w w') q (L ++ [r']) := by
  obtain ⟨h1, h2⟩ := h
  refine ⟨fun s hs => ?_, List.pairwise_append.2 ⟨h2, by simp, fun s hs t ht b hb e => ?_⟩⟩
  · rcases List.mem_append.1 hs with hs | hs
    · exact ⟨owned_kept (h1 s hs).1 (fun b hb => hc.block b (hlt b ((h1 s hs).2 b hb).1) ((h1 s hs).2 b hb).2), fun b hb => ⟨Or.inl ((h1 s hs).2 b hb).1, ((h1 s hs).2 b hb).2⟩⟩
    · simp only [List.mem_singleton] at hs
      subst hs
      exact ⟨ho, fun b hb => ⟨Or.inr (hat b hb), by have := (hat b hb).1; omega⟩⟩
  · simp only [List.mem_singleton] at ht
    subst ht
    have := (hat b e).1
    have := hlt b ((h1 s hs).2 b hb).1
    omega

/-- A row goes. -/
theorem RowsAt.cut {w : World} {G : Nat → Prop} {q : Nat} {A C : List RowV} {r : RowV} (h : RowsAt w G q (A ++ r :: C)) : RowsAt w G q (A ++ C) :=
  ⟨fun s hs => h.1 s (by simp at hs ⊢; rcases hs with h | h <;> simp [h]), h.2.sublist (List.Sublist.append_left (List.sublist_cons_self _ _) _)⟩

/-- A flight of the reference: its key, who leads, who waits, and the slice of those. -/
structure FR where
  k : PK
  lead : Int
  ws : List Int
  v : Value

/-- The flights' cells. -/
def frow : List FR → List Value
  | [] => []
  | f :: r => .int .i64 f.k.1 :: .string f.k.2 :: .int .i64 f.lead :: f.v :: frow r
theorem frow_length : ∀ l : List FR, (frow l).length = l.length * 4
  | [] => rfl
  | f :: r => by simp only [frow, List.length_cons, frow_length r]; omega
theorem frow_append : ∀ a b : List FR, frow (a ++ b) = frow a ++ frow b
  | [], _ => rfl
  | f :: r, b => by rw [List.cons_append, frow, frow, frow_append r b]; rfl
theorem frow_at : ∀ (l : List FR) (i : Nat) (f : FR), l[i]? = some f → (frow l)[i * 4]? = some (.int .i64 f.k.1) ∧ (frow l)[i * 4 + 1]? = some (.string f.k.2) ∧ (frow l)[i * 4 + 2]? = some (.int .i64 f.lead) ∧ (frow l)[i * 4 + 3]? = some f.v
  | [], i, f, h => by simp at h
  | x :: r, 0, f, h => by simp at h; subst h; exact ⟨rfl, rfl, rfl, rfl⟩
  | x :: r, i + 1, f, h => by
    simp at h
    obtain ⟨h1, h2, h3, h4⟩ := frow_at r i f h
    have e : (i + 1) * 4 = i * 4 + 4 := by omega
    rw [e]
    simp only [frow]
    exact ⟨by simpa using h1, by simpa using h2, by simpa using h3, by simpa using h4⟩

/-- The results' cells. -/
def rrow : List (Int × Int × Int) → List Value
  | [] => []
  | x :: r => .int .i64 x.1 :: .int .i64 x.2.1 :: .int .i64 x.2.2 :: rrow r
theorem rrow_length : ∀ l : List (Int × Int × Int), (rrow l).length = l.length * 3
  | [] => rfl
  | f :: r => by simp only [rrow, List.length_cons, rrow_length r]; omega
theorem rrow_append : ∀ a b : List (Int × Int × Int), rrow (a ++ b) = rrow a ++ rrow b
  | [], _ => rfl
  | f :: r, b => by rw [List.cons_append, rrow, rrow, rrow_append r b]; rfl
theorem rrow_at : ∀ (l : List (Int × Int × Int)) (i : Nat) (x : Int × Int × Int), l[i]? = some x → (rrow l)[i * 3]? = some (.int .i64 x.1) ∧ (rrow l)[i * 3 + 1]? = some (.int .i64 x.2.1) ∧ (rrow l)[i * 3 + 2]? = some (.int .i64 x.2.2)
  | [], i, f, h => by simp at h
  | x :: r, 0, f, h => by simp at h; subst h; exact ⟨rfl, rfl, rfl⟩
  | x :: r, i + 1, f, h => by
    simp at h
    obtain ⟨h1, h2, h3⟩ := rrow_at r i f h
    have e : (i + 1) * 3 = i * 3 + 3 := by omega
    rw [e]
    simp only [rrow]
    exact ⟨by simpa using h1, by simpa using h2, by simpa using h3⟩

abbrev krowV (v : Value) (ks : List PK) : RowV := ⟨v, 89, 2, ks.length, KZ.krow ks⟩
abbrev vrowV (v : Value) (vs : List Int) : RowV := ⟨v, 3, 1, vs.length, vs.map (.int .i64)⟩
abbrev frowV (v : Value) (fs : List FR) : RowV := ⟨v, 146, 4, fs.length, frow fs⟩
abbrev rrowV (v : Value) (rs : List (Int × Int × Int)) : RowV := ⟨v, 148, 3, rs.length, rrow rs⟩
abbrev wrowV (f : FR) : RowV := ⟨f.v, 3, 1, f.ws.length, f.ws.map (.int .i64)⟩

/-- The reference at block q. -/
structure R15 (w : World) (G : Nat → Prop) (q : Nat) (room : Int) (vk vv vf vr : Value) (ks : List PK) (vs : List Int) (fs : List FR) (rs : List (Int × Int × Int)) : Prop where
  c0 : w.cell? ⟨q, 0, none⟩ = some (.int .i64 room)
  c1 : w.cell? ⟨q, 1, none⟩ = some vk
  c2 : w.cell? ⟨q, 2, none⟩ = some vv
  c3 : w.cell? ⟨q, 3, none⟩ = some vf
  c4 : w.cell? ⟨q, 4, none⟩ = some vr
  fz : ∀ o, w.frozen? ⟨q, o, none⟩ = false
  gq : G q
  rows : RowsAt w G q ([krowV vk ks, vrowV vv vs, frowV vf fs, rrowV vr rs] ++ fs.map wrowV)
  lt : ∀ b, G b → b < w.heap.size

theorem R15.kept {w w' : World} {G F : Nat → Prop} {q : Nat} {room : Int} {vk vv vf vr : Value} {ks : List PK} {vs : List Int} {fs : List FR} {rs : List (Int × Int × Int)} (h : R15 w G q room vk vv vf vr ks vs fs rs) (hc : Ch F w w') (hGF : ∀ b, G b → ¬ F b) : R15 w' G q room vk vv vf vr ks vs fs rs := by
  have hcell : ∀ o, w'.cell? ⟨q, o, none⟩ = w.cell? ⟨q, o, none⟩ := fun o => hc.cell (p := ⟨q, o, none⟩) (h.lt q h.gq) (hGF q h.gq)
  exact ⟨by rw [hcell]; exact h.c0, by rw [hcell]; exact h.c1, by rw [hcell]; exact h.c2, by rw [hcell]; exact h.c3, by rw [hcell]; exact h.c4, fun o => (hc.frozen (p := ⟨q, o, none⟩) (h.lt q h.gq) (hGF q h.gq)).trans (h.fz o), h.gq,
    h.rows.kept h.lt hc (fun b hb _ => hGF b hb), fun b hb => Nat.lt_of_lt_of_le (h.lt b hb) hc.size⟩

end Go.Proofs.Ytnnaidladcdbdaa
