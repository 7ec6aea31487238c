/- The shard and what a law's code holds beside it (chapter 15). -/
import Derived.Test.YtnnaidladcdbdaaOwn
namespace Go.Proofs.Ytnnaidladcdbdaa
open Go.RowKit Go.ChangeMaps
open KZ (SV sv ZA KK)

theorem there21 (w : World) (A : Array Value) (hA : A.size = 21) : (w.alloc (.cells A 69)).there w.heap.size 0 21 := by
  have := there_new w A 69
  rwa [hA] at this

/-- A zone's variable, made and filled. -/
theorem lay69 (w : World) (A : Array Value) (hA : A.size = 21) (v : SV) (w3 : World) (h : (w.alloc (.cells A 69)).setCells w.heap.size 0 (za (sv v)).toList = w3) : Below w.heap.size w w3 ∧ w3.rangeAt w.heap.size 0 (zc (sv v)) ∧ w.heap.size < w3.heap.size := by
  subst h
  exact ⟨(Ch.setCells (F := fun b => w.heap.size ≤ b) (fun _ => Nat.le_refl _) _ _ ((Ch.refl _ w).alloc _)).below (Nat.le_refl _) (fun b hb h => by omega), World.rangeAt_setCells_same _ _ _ _ (there21 w A hA), by rw [size_setCells]; simp⟩

/-- A key of the caller's. -/
structure HeldK (X : Nat → Prop) (w : World) (b : Nat) (k : PK) : Prop where
  x : X b
  lt : b < w.heap.size
  k0 : w.cell? ⟨b, 0, none⟩ = some (.int .i64 k.1)
  k1 : w.cell? ⟨b, 1, none⟩ = some (.string k.2)

theorem HeldK.step {X Y : Nat → Prop} {w w' : World} {b : Nat} {k : PK} (h : HeldK X w b k) (hc : Ch (fun b => ¬ X b) w w') (hY : ∀ b, X b → Y b) : HeldK Y w' b k :=
  ⟨hY _ h.x, Nat.lt_of_lt_of_le h.lt hc.size, (hc.cell (p := ⟨b, 0, none⟩) h.lt (fun hn => hn h.x)).trans h.k0, (hc.cell (p := ⟨b, 1, none⟩) h.lt (fun hn => hn h.x)).trans h.k1⟩

/-- A zone of the caller's. -/
structure HeldZ (X : Nat → Prop) (w : World) (b : Nat) (v : SV) (o : Option Int) : Prop where
  x : X b
  lt : b < w.heap.size
  r : w.rangeAt b 0 (zc (sv v))
  z : Zn w v o
  zx : ∀ b, zb v b → X b

theorem HeldZ.step {X Y : Nat → Prop} {w w' : World} {b : Nat} {v : SV} {o : Option Int} (h : HeldZ X w b v o) (hc : Ch (fun b => ¬ X b) w w') (hY : ∀ b, X b → Y b) : HeldZ Y w' b v o :=
  ⟨hY _ h.x, Nat.lt_of_lt_of_le h.lt hc.size, hc.range h.lt (fun hn => hn h.x) h.r, h.z.kept hc (fun a ha hn => hn (h.zx _ ⟨a, ha, rfl⟩)), fun b hb => hY b (h.zx b hb)⟩

theorem ch_of_below {X : Nat → Prop} {w w' : World} (h : Below w.heap.size w w') : Ch (fun b => ¬ X b) w w' := Ch.of_none h _

/-- The shard, and what the caller holds beside it: keys in variables, zones in variables, zones at hand. -/
def Site (B : Nat) (w0 w : World) (p : Nat) (room : Int) (d : List (PK × Option Int)) (fl : List (PK × Int × List Int)) (rs : List (Int × Option Int × Int)) (ks : List (Nat × PK)) (zs : List (Nat × SV × Option Int)) (vs : List (SV × Option Int)) : Prop :=
  ∃ X, Own B w0 w X p room d fl rs ∧ (∀ x ∈ ks, HeldK X w x.1 x.2) ∧ (∀ x ∈ zs, HeldZ X w x.1 x.2.1 x.2.2) ∧ ∀ x ∈ vs, Zn w x.1 x.2 ∧ ∀ b, zb x.1 b → X b

variable {B : Nat} {w0 w w' : World} {p : Nat} {room : Int} {d : List (PK × Option Int)} {fl : List (PK × Int × List Int)} {rs : List (Int × Option Int × Int)} {ks : List (Nat × PK)} {zs : List (Nat × SV × Option Int)} {vs : List (SV × Option Int)}

theorem Site.below (h : Site B w0 w p room d fl rs ks zs vs) : Below B w0 w := by obtain ⟨X, h, _⟩ := h; exact h.below
theorem Site.size (h : Site B w0 w p room d fl rs ks zs vs) : B ≤ w.heap.size := by obtain ⟨X, h, _⟩ := h; exact h.size
theorem Site.key {b : Nat} {k : PK} (h : Site B w0 w p room d fl rs ks zs vs) (hm : (b, k) ∈ ks) : w.cell? ⟨b, 0, none⟩ = some (.int .i64 k.1) ∧ w.cell? ⟨b, 1, none⟩ = some (.string k.2) ∧ b < w.heap.size := by
  obtain ⟨X, _, h, _⟩ := h; exact ⟨(h _ hm).k0, (h _ hm).k1, (h _ hm).lt⟩
theorem Site.keyR {b : Nat} {k : PK} (h : Site B w0 w p room d fl rs ks zs vs) (hm : (b, k) ∈ ks) : w.rangeAt b 0 [.int .i64 k.1, .string k.2] := fun j v hv => by
  obtain ⟨h0, h1, -⟩ := h.key hm
  match j, hv with
  | 0, hv => simp at hv; subst hv; exact h0
  | 1, hv => simp at hv; subst hv; exact h1
theorem Site.zone {b : Nat} {v : SV} {o : Option Int} (h : Site B w0 w p room d fl rs ks zs vs) (hm : (b, v, o) ∈ zs) : w.rangeAt b 0 (zc (sv v)) ∧ Zn w v o := by
  obtain ⟨X, _, _, h, _⟩ := h; exact ⟨(h _ hm).r, (h _ hm).z⟩
theorem Site.at {v : SV} {o : Option Int} (h : Site B w0 w p room d fl rs ks zs vs) (hm : (v, o) ∈ vs) : Zn w v o := by
  obtain ⟨X, _, _, _, h⟩ := h; exact (h _ hm).1

theorem site_step {X Y : Nat → Prop} {w w' : World} {d' : List (PK × Option Int)} {fl' : List (PK × Int × List Int)} {rs' : List (Int × Option Int × Int)} {vs' : List (SV × Option Int)} (hk : ∀ x ∈ ks, HeldK X w x.1 x.2) (hz : ∀ x ∈ zs, HeldZ X w x.1 x.2.1 x.2.2) (hv : ∀ x ∈ vs, Zn w x.1 x.2 ∧ ∀ b, zb x.1 b → X b)
    (ho : Own B w0 w' Y p room d' fl' rs') (hc : Ch (fun b => ¬ X b) w w') (hY : ∀ b, X b → Y b) (hn : ∀ x ∈ vs', Zn w' x.1 x.2 ∧ ∀ b, zb x.1 b → Y b) : Site B w0 w' p room d' fl' rs' ks zs (vs' ++ vs) :=
  ⟨Y, ho, fun x hx => (hk x hx).step hc hY, fun x hx => (hz x hx).step hc hY, fun x hx => by
    rcases List.mem_append.1 hx with hx | hx
    · exact hn x hx
    · exact ⟨(hv x hx).1.kept hc (fun a ha hn => hn ((hv x hx).2 _ ⟨a, ha, rfl⟩)), fun b hb => hY b ((hv x hx).2 b hb)⟩⟩

theorem Site.later (h : Site B w0 w p room d fl rs ks zs vs) (hb : Below w.heap.size w w') : Site B w0 w' p room d fl rs ks zs vs := by
  obtain ⟨X, ho, hk, hz, hv⟩ := h
  exact site_step (vs' := []) hk hz hv (ho.later hb) (Ch.of_none hb _) (fun _ h => h) (fun _ h => by cases h)

theorem site_new (room : Int) (w0 w : World) (hb : Below w0.heap.size w0 w) : Calls Try.prog 36 #[.int .i64 room] w fun e w' => ∃ p, e = .returned (.pointer (some ⟨p, 0, none⟩)) ∧ Site w0.heap.size w0 w' p (max 1 room) [] [] [] [] [] [] :=
  (own_new room w0 w hb).mono fun _ _ ⟨p, he, ho⟩ => ⟨p, he, _, ho, (fun _ h => by cases h), (fun _ h => by cases h), (fun _ h => by cases h)⟩

/-- A key more in a variable that was made just now. -/
theorem Site.addKey {b : Nat} {k : PK} (h : Site B w0 w p room d fl rs ks zs vs) (hb : Below w.heap.size w w') (h1 : w.heap.size ≤ b) (k0 : w'.cell? ⟨b, 0, none⟩ = some (.int .i64 k.1)) (k1 : w'.cell? ⟨b, 1, none⟩ = some (.string k.2)) :
    Site B w0 w' p room d fl rs ((b, k) :: ks) zs vs := by
  obtain ⟨X, ho, hk, hz, hv⟩ := h
  have hc : Ch (fun b => ¬ X b) w w' := Ch.of_none hb _
  have hlt := cell_lt k0
  refine ⟨_, ho.laid hb, fun x hx => ?_, fun x hx => (hz x hx).step hc (fun _ h => Or.inl h), fun x hx => ⟨(hv x hx).1.kept hc (fun a ha hn => hn ((hv x hx).2 _ ⟨a, ha, rfl⟩)), fun b hb => Or.inl ((hv x hx).2 b hb)⟩⟩
  rcases List.mem_cons.1 hx with rfl | hx
  · exact ⟨Or.inr ⟨h1, hlt⟩, hlt, k0, k1⟩
  · exact (hk x hx).step hc (fun _ h => Or.inl h)

/-- A zone at hand is laid into a variable. -/
theorem Site.addZone {b : Nat} {v : SV} {o : Option Int} (h : Site B w0 w p room d fl rs ks zs vs) (hm : (v, o) ∈ vs) (hb : Below w.heap.size w w') (h1 : w.heap.size ≤ b) (hr : w'.rangeAt b 0 (zc (sv v))) : Site B w0 w' p room d fl rs ks ((b, v, o) :: zs) vs := by
  obtain ⟨X, ho, hk, hz, hv⟩ := h
  have hc : Ch (fun b => ¬ X b) w w' := Ch.of_none hb _
  have hlt : b < w'.heap.size := World.block_lt_of_cell? (a := ⟨b, 0 + 0, none⟩) _ (hr 0 _ rfl)
  have hvv : ∀ x ∈ vs, Zn w' x.1 x.2 ∧ ∀ b, zb x.1 b → (X b ∨ (w.heap.size ≤ b ∧ b < w'.heap.size)) := fun x hx => ⟨(hv x hx).1.kept hc (fun a ha hn => hn ((hv x hx).2 _ ⟨a, ha, rfl⟩)), fun b hb => Or.inl ((hv x hx).2 b hb)⟩
  refine ⟨_, ho.laid hb, fun x hx => (hk x hx).step hc (fun _ h => Or.inl h), fun x hx => ?_, hvv⟩
  rcases List.mem_cons.1 hx with rfl | hx
  · exact ⟨Or.inr ⟨h1, hlt⟩, hlt, hr, (hvv _ hm).1, (hvv _ hm).2⟩
  · exact (hz x hx).step hc (fun _ h => Or.inl h)

/-- A zone made just now is at hand. -/
theorem Site.addAt {v : SV} {o : Option Int} (h : Site B w0 w p room d fl rs ks zs vs) (hb : Below w.heap.size w w') (hz' : Zn w' v o) (hf : Zfrom w.heap.size v) : Site B w0 w' p room d fl rs ks zs ((v, o) :: vs) := by
  obtain ⟨X, ho, hk, hz, hv⟩ := h
  exact site_step (vs' := [(v, o)]) hk hz hv (ho.laid hb) (Ch.of_none hb _) (fun _ h => Or.inl h) (fun x hx => by
    simp only [List.mem_singleton] at hx
    subst hx
    exact ⟨hz', fun b ⟨a, ha, e⟩ => Or.inr ⟨by rw [e]; exact hf a ha, by rw [e]; exact hz'.lt a ha⟩⟩)

/-- Zones at hand are let go. -/
theorem Site.only {vs' : List (SV × Option Int)} (h : Site B w0 w p room d fl rs ks zs vs) (hs : ∀ x ∈ vs', x ∈ vs) : Site B w0 w p room d fl rs ks zs vs' := by
  obtain ⟨X, ho, hk, hz, hv⟩ := h
  exact ⟨X, ho, hk, hz, fun x hx => hv x (hs x hx)⟩

/-- The caller writes into a zone of its own. -/
theorem Site.write {v : SV} {vb cap : Nat} {n : Int} {u : Value} (h : Site B w0 w p room d fl rs ks zs vs) (hX : ∀ X, (∀ x ∈ zs, HeldZ X w x.1 x.2.1 x.2.2) → ∀ b, zb v b → X b) (hv : v = (some ⟨vb, 0, none⟩, 1, cap)) (hz : Zn w v (some n)) :
    Site B w0 (w.setCell ⟨vb, 0, none⟩ u) p room d fl rs ks [] [] := by
  obtain ⟨X, ho, hk, hzz, -⟩ := h
  have hx : X vb := hX X hzz vb ⟨_, by rw [hv], rfl⟩
  have hc : Ch (fun b => b = vb) w (w.setCell ⟨vb, 0, none⟩ u) := (Ch.refl (fun b => b = vb) w).setCell (p := ⟨vb, 0, none⟩) (fun _ => rfl) u
  refine ⟨X, ho.wrote (hc.mono (fun b _ e => by rw [e]; exact hx)), fun x hxk => ?_, (fun _ h => by cases h), (fun _ h => by cases h)⟩
  have hh := hk x hxk
  have hne : x.1 ≠ vb := fun e => by
    obtain ⟨b, cap', e1, hr, -⟩ := hz
    rw [hv] at e1
    simp only [Prod.mk.injEq, Option.some.injEq, Addr.mk.injEq] at e1
    have h1 := hh.k1
    have h2 := hr 1 (.bool false) rfl
    rw [e, e1.1.1] at h1
    rw [Nat.zero_add, h1] at h2
    cases h2
  exact ⟨hh.x, Nat.lt_of_lt_of_le hh.lt hc.size, (hc.cell (p := ⟨x.1, 0, none⟩) hh.lt hne).trans hh.k0, (hc.cell (p := ⟨x.1, 1, none⟩) hh.lt hne).trans hh.k1⟩

theorem site_begin (h : Site B w0 w p room d fl rs ks zs vs) (i : Int) (hi : KI.ok i) (k : PK) (hk : KP.ok k) :
    Calls Try.prog 37 #[.pointer (some ⟨p, 0, none⟩), .int .i64 i, KK k] w fun e w' => ∃ v, e = .returned (.tuple #[ZA v, .int .i64 (beginHow d fl k)]) ∧
      Site B w0 w' p room (getS d k none) (beginF d fl k i) (del rs i) ks zs ((v, beginZ d k) :: vs) := by
  obtain ⟨X, ho, hk', hz, hv⟩ := h
  exact (own_begin ho i hi k hk).mono fun e w' ⟨v, he, hzn, hf, ho', hc⟩ => ⟨v, he, site_step (vs' := [(v, beginZ d k)]) hk' hz hv ho' hc (fun _ h => Or.inl h) (fun x hx => by
    simp only [List.mem_singleton] at hx
    subst hx
    exact ⟨hzn, fun b hb => Or.inr hb⟩)⟩

theorem site_end_no (h : Site B w0 w p room d fl rs ks zs vs) (i : Int) (k : PK) (hk : KP.ok k) (v : SV) (e : Int) (hn : ∀ x ∈ fl, x.1 = k → x.2.1 ≠ i) :
    Calls Try.prog 42 #[.pointer (some ⟨p, 0, none⟩), .int .i64 i, KK k, ZA v, .int .i64 e] w fun x w' => x = .returned (.int .i64 10) ∧ Site B w0 w' p room d fl rs ks zs vs := by
  obtain ⟨X, ho, hk', hz, hv⟩ := h
  exact (own_end_no ho i k hk v e hn).mono fun x w' ⟨he, hb⟩ => ⟨he, Site.later ⟨X, ho, hk', hz, hv⟩ hb⟩

theorem site_end_yes {v : SV} {o : Option Int} (h : Site B w0 w p room d fl rs ks zs vs) (i : Int) (k : PK) (hk : KP.ok k) (e : Int) (ws : List Int) (hf : (k, i, ws) ∈ fl) (hvo : (v, o) ∈ vs ∨ ∃ b, (b, v, o) ∈ zs) :
    Calls Try.prog 42 #[.pointer (some ⟨p, 0, none⟩), .int .i64 i, KK k, ZA v, .int .i64 e] w fun x w' => x = .returned (.int .i64 0) ∧
      Site B w0 w' p room (if e = 0 then putS room d k o else d) (del fl k) (fillR rs ws (if e = 0 then o else none, e)) ks zs vs := by
  obtain ⟨X, ho, hk', hz, hv⟩ := h
  have hzv : Zn w v o ∧ ∀ b, zb v b → X b := by
    rcases hvo with h | ⟨b, h⟩
    · exact hv _ h
    · exact ⟨(hz _ h).z, (hz _ h).zx⟩
  exact (own_end_yes ho i k hk v o e ws hf hzv.1 hzv.2).mono fun x w' ⟨he, ho', hc⟩ => ⟨he, site_step (vs' := []) hk' hz hv ho' hc (fun _ h => h) (fun _ h => by cases h)⟩

theorem site_result (h : Site B w0 w p room d fl rs ks zs vs) (i : Int) (hi : KI.ok i) :
    Calls Try.prog 44 #[.pointer (some ⟨p, 0, none⟩), .int .i64 i] w fun e w' => ∃ v, e = .returned (.tuple #[ZA v, .int .i64 (valOf rs i (none, 0)).2, .bool (has rs i)]) ∧
      Site B w0 w' p room d fl (del rs i) ks zs ((v, (valOf rs i (none, 0)).1) :: vs) := by
  obtain ⟨X, ho, hk', hz, hv⟩ := h
  exact (own_result ho i hi).mono fun e w' ⟨v, he, hzn, hf, ho', hc⟩ => ⟨v, he, site_step (vs' := [(v, (valOf rs i (none, 0)).1)]) hk' hz hv ho' hc (fun _ h => Or.inl h) (fun x hx => by
    simp only [List.mem_singleton] at hx
    subst hx
    exact ⟨hzn, fun b hb => Or.inr hb⟩)⟩

theorem site_ready (h : Site B w0 w p room d fl rs ks zs vs) (i : Int) (hi : KI.ok i) : Calls Try.prog 39 #[.pointer (some ⟨p, 0, none⟩), .int .i64 i] w fun e w' => e = .returned (.bool (has rs i)) ∧ Site B w0 w' p room d fl rs ks zs vs := by
  obtain ⟨X, ho, hk', hz, hv⟩ := h
  exact (own_ready ho i hi).mono fun x w' ⟨he, hb⟩ => ⟨he, Site.later ⟨X, ho, hk', hz, hv⟩ hb⟩
theorem site_len (h : Site B w0 w p room d fl rs ks zs vs) : Calls Try.prog 41 #[.pointer (some ⟨p, 0, none⟩)] w fun e w' => e = .returned (.int .i64 d.length) ∧ w = w' := by
  obtain ⟨X, ho, _⟩ := h; exact own_len ho
theorem site_flying (h : Site B w0 w p room d fl rs ks zs vs) : Calls Try.prog 40 #[.pointer (some ⟨p, 0, none⟩)] w fun e w' => e = .returned (.int .i64 fl.length) ∧ w = w' := by
  obtain ⟨X, ho, _⟩ := h; exact own_flying ho
theorem site_keys (h : Site B w0 w p room d fl rs ks zs vs) (hn : d.length ≤ 1000) : Calls Try.prog 45 #[.pointer (some ⟨p, 0, none⟩)] w fun e w' => e = .returned (.slice (some ⟨w.heap.size, 0, none⟩) d.length d.length) ∧
    w'.ownsRow w.heap.size 58 2 (.slice (some ⟨w.heap.size, 0, none⟩) d.length d.length) d.length (KZ.krow (d.map Prod.fst)) ∧ Site B w0 w' p room d fl rs ks zs vs := by
  obtain ⟨X, ho, hk', hz, hv⟩ := h
  exact (own_keys ho hn).mono fun x w' ⟨he, hr, hb⟩ => ⟨he, hr, Site.later ⟨X, ho, hk', hz, hv⟩ hb⟩
theorem site_drop (h : Site B w0 w p room d fl rs ks zs vs) (k : PK) (hk : KP.ok k) : Calls Try.prog 51 #[.pointer (some ⟨p, 0, none⟩), KK k] w fun e w' => e = .returned (.bool (has d k)) ∧ Site B w0 w' p room (del d k) fl rs ks zs vs := by
  obtain ⟨X, ho, hk', hz, hv⟩ := h
  exact (own_drop ho k hk).mono fun x w' ⟨he, ho', hc⟩ => ⟨he, site_step (vs' := []) hk' hz hv ho' hc (fun _ h => h) (fun _ h => by cases h)⟩
theorem site_zone (h : Site B w0 w p room d fl rs ks zs vs) (n : Int) : Calls Try.prog 43 #[.int .i64 n] w fun e w' => ∃ v, e = .returned (ZA v) ∧ Site B w0 w' p room d fl rs ks zs ((v, some n) :: vs) :=
  (zone43 w n).mono fun _ _ ⟨v, he, hz, hf, hb⟩ => ⟨v, he, h.addAt hb hz hf⟩
theorem site_number {v : SV} {o : Option Int} (h : Site B w0 w p room d fl rs ks zs vs) (hz : Zn w v o) : Calls Try.prog 38 #[ZA v] w fun e w' => e = .returned (.int .i64 (o.getD 0)) ∧ Site B w0 w' p room d fl rs ks zs vs :=
  (number38 hz).mono fun _ _ ⟨he, hb⟩ => ⟨he, h.later hb⟩

/-- A zone's literal laid into a variable. -/
theorem lit_there (w : World) (n : Int) (A : Array Value) (hA : A.size = 21) : ((w.alloc (.cells #[.int .i64 n, .bool false, .string ⟨#[]⟩] 63)).alloc (.cells A 69)).there (w.heap.size + 1) 0 21 := by
  have := there21 (w.alloc (.cells #[.int .i64 n, .bool false, .string ⟨#[]⟩] 63)) A hA
  rwa [World.size_alloc] at this
theorem zone_lay (w : World) (n : Int) (A : Array Value) (hA : A.size = 21) (w3 : World)
    (h : ((w.alloc (.cells #[.int .i64 n, .bool false, .string ⟨#[]⟩] 63)).alloc (.cells A 69)).setCells (w.heap.size + 1) 0 (za (sv (some ⟨w.heap.size, 0, none⟩, 1, 1))).toList = w3) :
    Below w.heap.size w w3 ∧ w3.rangeAt (w.heap.size + 1) 0 (zc (sv (some ⟨w.heap.size, 0, none⟩, 1, 1))) ∧ Zn w3 (some ⟨w.heap.size, 0, none⟩, 1, 1) (some n) := by
  subst h
  have ht := lit_there w n A hA
  have hc : Ch (fun b => b = w.heap.size + 1) ((w.alloc (.cells #[.int .i64 n, .bool false, .string ⟨#[]⟩] 63)).alloc (.cells A 69)) (((w.alloc (.cells #[.int .i64 n, .bool false, .string ⟨#[]⟩] 63)).alloc (.cells A 69)).setCells (w.heap.size + 1) 0 (za (sv (some ⟨w.heap.size, 0, none⟩, 1, 1))).toList) :=
    Ch.setCells (F := fun b => b = w.heap.size + 1) (fun _ => rfl) _ _ (Ch.refl _ _)
  have hr : ((w.alloc (.cells #[.int .i64 n, .bool false, .string ⟨#[]⟩] 63)).alloc (.cells A 69)).rangeAt w.heap.size 0 (kind n) := World.rangeAt_alloc (range_alloc w #[.int .i64 n, .bool false, .string ⟨#[]⟩] 63) _
  have hkt : ((w.alloc (.cells #[.int .i64 n, .bool false, .string ⟨#[]⟩] 63)).alloc (.cells A 69)).there w.heap.size 0 3 := World.there_alloc (there_new w #[.int .i64 n, .bool false, .string ⟨#[]⟩] 63) _
  exact ⟨(Ch.setCells (F := fun b => w.heap.size ≤ b) (fun _ => by omega) _ _ (((Ch.refl _ w).alloc _).alloc _)).below (Nat.le_refl _) (fun b hb h => by omega), World.rangeAt_setCells_same _ _ _ _ ht, ⟨_, _, rfl, hc.range (by simp; omega) (by omega) hr, hc.there (by simp; omega) (by omega) hkt⟩⟩

/-- A zone made and laid into a variable just now. -/
theorem Site.addBoth {b : Nat} {v : SV} {o : Option Int} (h : Site B w0 w p room d fl rs ks zs vs) (hb : Below w.heap.size w w') (hz : Zn w' v o) (hf : Zfrom w.heap.size v) (h1 : w.heap.size ≤ b) (hr : w'.rangeAt b 0 (zc (sv v))) : Site B w0 w' p room d fl rs ks ((b, v, o) :: zs) vs := by
  obtain ⟨X, ho, hk, hzz, hv⟩ := h
  have hc : Ch (fun b => ¬ X b) w w' := Ch.of_none hb _
  have hlt : b < w'.heap.size := World.block_lt_of_cell? (a := ⟨b, 0 + 0, none⟩) _ (hr 0 _ rfl)
  refine ⟨_, ho.laid hb, fun x hx => (hk x hx).step hc (fun _ h => Or.inl h), fun x hx => ?_, fun x hx => ⟨(hv x hx).1.kept hc (fun a ha hn => hn ((hv x hx).2 _ ⟨a, ha, rfl⟩)), fun b hb => Or.inl ((hv x hx).2 b hb)⟩⟩
  rcases List.mem_cons.1 hx with rfl | hx
  · exact ⟨Or.inr ⟨h1, hlt⟩, hlt, hr, hz, fun c ⟨a, ha, e⟩ => Or.inr ⟨by rw [e]; exact hf a ha, by rw [e]; exact hz.lt a ha⟩⟩
  · exact (hzz x hx).step hc (fun _ h => Or.inl h)

end Go.Proofs.Ytnnaidladcdbdaa
