/- The shard of chapter 15, its reference, and what a law holds beside both; one step of both, told alike. -/
import Derived.Test.YtnnaidladcdbdaaTl15
import Derived.Test.YtnnaidladcdbdaaShPurge
namespace Go.Proofs.Ytnnaidladcdbdaa
open Go.RowKit Go.ChangeMaps
open KZ (SV sv ZA KK)

theorem Own.grew {B : Nat} {w0 w w' : World} {X : Nat → Prop} {p : Nat} {room : Int} {d : List (PK × Option Int)} {fl : List TFl} {rs : List (Int × Option Int × Int)} (h : Own B w0 w X p room d fl rs) (hc : Ch X w w') :
    Own B w0 w' (fun b => X b ∨ (w.heap.size ≤ b ∧ b < w'.heap.size)) p room d fl rs := by
  obtain ⟨s, hp, h1, hf, ha, hx, hw, hs⟩ := h
  refine ⟨s, hp, h1.kept hc (fun b hb => (ha b hb).2), hf, fun b hb => ⟨(ha b hb).1, fun h => h.elim (ha b hb).2 (fun h => by have := h1.lt b hb; omega)⟩, fun b hb => ?_, hw.trans (hc.below hs (fun b hb hX => by have := (hx b hX).1; omega)), Nat.le_trans hs hc.size⟩
  rcases hb with h | h
  · exact ⟨(hx b h).1, Nat.lt_of_lt_of_le (hx b h).2 hc.size⟩
  · exact ⟨Nat.le_trans hs h.1, h.2⟩

theorem Own.nodup {B : Nat} {w0 w : World} {X : Nat → Prop} {p : Nat} {room : Int} {d : List (PK × Option Int)} {fl : List TFl} {rs : List (Int × Option Int × Int)} (h : Own B w0 w X p room d fl rs) : ∀ k ∈ d.map Prod.fst, KP.ok k := by
  obtain ⟨s, hp, h1, hf, ha, hx, hw, hs⟩ := h
  rw [← h1.told.keys]
  intro k hk
  obtain ⟨x, hx, rfl⟩ := List.mem_map.1 hk
  exact h1.done.keys_ok x hx

theorem own_purge {B : Nat} {w0 w : World} {X : Nat → Prop} {p : Nat} {room : Int} {d : List (PK × Option Int)} {fl : List TFl} {rs : List (Int × Option Int × Int)} (h : Own B w0 w X p room d fl rs) (rel : Int) (hn : d.length ≤ 1000) : Calls Try.prog 46 #[.pointer (some ⟨p, 0, none⟩), .int .i64 rel] w fun e w' =>
    e = .returned (.int .i64 (((d.map Prod.fst).filter fun k => decide (k.1 = rel)).length : Nat)) ∧ Own B w0 w' X p room (d.filter fun x => decide (x.1.1 ≠ rel)) fl rs ∧ Ch (fun b => ¬ X b) w w' := by
  have hok := h.nodup
  obtain ⟨s, rfl, h1, rfl, ha, hx, hw, hs⟩ := h
  have e0 : drp (d.map Prod.fst) rel d.length = (d.map Prod.fst).filter fun k => decide (k.1 = rel) := by unfold drp; rw [List.take_of_length_le (by rw [List.length_map]; exact Nat.le_refl _)]
  have e1 : dels d ((d.map Prod.fst).filter fun k => decide (k.1 = rel)) = d.filter fun x => decide (x.1.1 ≠ rel) :=
    dels_filter _ d (fun k => decide (k.1 ≠ rel)) (fun x hx => by
      simp only [decide_eq_true_eq, List.mem_filter, not_and]
      exact ⟨fun h _ => h, fun h => h (List.mem_map_of_mem (f := Prod.fst) hx)⟩)
  refine (purge46 h1 rel hn hok).mono fun e w' ⟨he, h2, hc⟩ => ⟨by rw [he, e0], ?_, hc.mono (fun b _ hb hX => (ha b hb).2 hX)⟩
  rw [e0, e1] at h2
  exact own_of ha hx hw hs h2 rfl rfl (fun b hb => Or.inl hb) hc (fun b hb => Or.inl hb)

/-- A row of cells of the caller's. -/
structure Row15 (K : Nat → Prop) (w : World) (b : Nat) (xs : List Value) : Prop where
  x : K b
  lt : b < w.heap.size
  r : w.rangeAt b 0 xs

theorem Row15.step {K K' F : Nat → Prop} {w w' : World} {b : Nat} {xs : List Value} (h : Row15 K w b xs) (hc : Ch F w w') (hF : ∀ b, K b → ¬ F b) (hK : ∀ b, K b → K' b) : Row15 K' w' b xs :=
  ⟨hK b h.x, Nat.lt_of_lt_of_le h.lt hc.size, hc.range h.lt (hF b h.x) h.r⟩

/-- The shard, its reference, rows of cells, zones at hand. -/
def Duo (B : Nat) (w0 w : World) (p q : Nat) (room : Int) (d : List (PK × Option Int)) (fl : List TFl) (rs : List (Int × Option Int × Int)) (l : List (PK × Int)) (tl : List TFl) (ss : List (Int × Int × Int)) (ks : List (Nat × List Value)) (vs : List (SV × Option Int)) : Prop :=
  ∃ G K, Own B w0 w (fun b => G b ∨ K b) p room d fl rs ∧ TL w G q room l tl ss ∧ (∀ b, K b → ¬ G b) ∧ (∀ x ∈ ks, Row15 K w x.1 x.2) ∧ ∀ x ∈ vs, Zn w x.1 x.2 ∧ ∀ b, zb x.1 b → K b

variable {B : Nat} {w0 w w' : World} {p q : Nat} {room : Int} {d d' : List (PK × Option Int)} {fl fl' : List TFl} {rs rs' : List (Int × Option Int × Int)} {l l' : List (PK × Int)} {tl tl' : List TFl} {ss ss' : List (Int × Int × Int)} {ks : List (Nat × List Value)} {vs : List (SV × Option Int)}

theorem Duo.below (h : Duo B w0 w p q room d fl rs l tl ss ks vs) : Below B w0 w := by obtain ⟨_, _, h, _⟩ := h; exact h.below
theorem Duo.size (h : Duo B w0 w p q room d fl rs l tl ss ks vs) : B ≤ w.heap.size := by obtain ⟨_, _, h, _⟩ := h; exact h.size
theorem Duo.row {b : Nat} {xs : List Value} (h : Duo B w0 w p q room d fl rs l tl ss ks vs) (hm : (b, xs) ∈ ks) : w.rangeAt b 0 xs := by obtain ⟨_, _, _, _, _, h, _⟩ := h; exact (h _ hm).r
theorem Duo.cell {b : Nat} {xs : List Value} (h : Duo B w0 w p q room d fl rs l tl ss ks vs) (hm : (b, xs) ∈ ks) (j : Nat) (u : Value) (hu : xs[j]? = some u) : w.cell? ⟨b, j, none⟩ = some u := by
  have := h.row hm j u hu
  rwa [Nat.zero_add] at this
theorem Duo.at {v : SV} {o : Option Int} (h : Duo B w0 w p q room d fl rs l tl ss ks vs) (hm : (v, o) ∈ vs) : Zn w v o := by obtain ⟨_, _, _, _, _, _, h⟩ := h; exact (h _ hm).1
theorem Duo.ref (h : Duo B w0 w p q room d fl rs l tl ss ks vs) : ∃ G, TL w G q room l tl ss := by obtain ⟨G, _, _, h, _⟩ := h; exact ⟨G, h⟩
theorem Duo.only {ks' : List (Nat × List Value)} {vs' : List (SV × Option Int)} (h : Duo B w0 w p q room d fl rs l tl ss ks vs) (hk : ∀ x ∈ ks', x ∈ ks) (hv : ∀ x ∈ vs', x ∈ vs) : Duo B w0 w p q room d fl rs l tl ss ks' vs' := by
  obtain ⟨G, K, ho, ht, hd, h1, h2⟩ := h
  exact ⟨G, K, ho, ht, hd, fun x hx => h1 x (hk x hx), fun x hx => h2 x (hv x hx)⟩

theorem znk {K F : Nat → Prop} {v : SV} {o : Option Int} (h : Zn w v o) (hz : ∀ b, zb v b → K b) (hc : Ch F w w') (hF : ∀ b, K b → ¬ F b) : Zn w' v o := h.kept hc (fun a ha => hF _ (hz _ ⟨a, ha, rfl⟩))

/-- What a call leaves that lays blocks of its own and touches none. -/
theorem Duo.later (h : Duo B w0 w p q room d fl rs l tl ss ks vs) (hb : Below w.heap.size w w') : Duo B w0 w' p q room d fl rs l tl ss ks vs := by
  obtain ⟨G, K, ho, ht, hd, h1, h2⟩ := h
  have hc : Ch (fun _ => False) w w' := Ch.of_none hb _
  exact ⟨G, K, ho.later hb, ht.kept hc (fun _ _ h => h), hd, fun x hx => (h1 x hx).step hc (fun _ _ h => h) (fun _ h => h), fun x hx => ⟨znk (h2 x hx).1 (h2 x hx).2 hc (fun _ _ h => h), (h2 x hx).2⟩⟩

/-- A row of cells more, and what it leaves. -/
theorem Duo.add {b : Nat} {xs : List Value} (h : Duo B w0 w p q room d fl rs l tl ss ks vs) (hb : Below w.heap.size w w') (h1 : w.heap.size ≤ b) (h2 : b < w'.heap.size) (hr : w'.rangeAt b 0 xs) : Duo B w0 w' p q room d fl rs l tl ss ((b, xs) :: ks) vs := by
  obtain ⟨G, K, ho, ht, hd, hk, hv⟩ := h
  have hc : Ch (fun _ => False) w w' := Ch.of_none hb _
  refine ⟨G, fun b => K b ∨ (w.heap.size ≤ b ∧ b < w'.heap.size), (ho.laid hb).less (fun b hb => ?_), ht.kept hc (fun _ _ h => h), fun b hb hg => ?_, fun x hx => ?_, fun x hx => ⟨znk (hv x hx).1 (hv x hx).2 hc (fun _ _ h => h), fun b hb => Or.inl ((hv x hx).2 b hb)⟩⟩
  · rcases hb with hb | hb | hb
    · exact Or.inl (Or.inl hb)
    · exact Or.inl (Or.inr hb)
    · exact Or.inr hb
  · rcases hb with hb | hb
    · exact hd b hb hg
    · have := ht.lt b hg; omega
  · rcases List.mem_cons.1 hx with rfl | hx
    · exact ⟨Or.inr ⟨h1, h2⟩, h2, hr⟩
    · exact (hk x hx).step hc (fun _ _ h => h) (fun _ h => Or.inl h)

/-- A zone that was made just now. -/
theorem Duo.addAt {v : SV} {o : Option Int} (h : Duo B w0 w p q room d fl rs l tl ss ks vs) (hb : Below w.heap.size w w') (hz : Zn w' v o) (hf : Zfrom w.heap.size v) : Duo B w0 w' p q room d fl rs l tl ss ks ((v, o) :: vs) := by
  obtain ⟨G, K, ho, ht, hd, hk, hv⟩ := h
  have hc : Ch (fun _ => False) w w' := Ch.of_none hb _
  refine ⟨G, fun b => K b ∨ (w.heap.size ≤ b ∧ b < w'.heap.size), (ho.laid hb).less (fun b hb => ?_), ht.kept hc (fun _ _ h => h), fun b hb hg => ?_, fun x hx => (hk x hx).step hc (fun _ _ h => h) (fun _ h => Or.inl h), fun x hx => ?_⟩
  · rcases hb with hb | hb | hb
    · exact Or.inl (Or.inl hb)
    · exact Or.inl (Or.inr hb)
    · exact Or.inr hb
  · rcases hb with hb | hb
    · exact hd b hb hg
    · have := ht.lt b hg; omega
  · rcases List.mem_cons.1 hx with rfl | hx
    · exact ⟨hz, fun b ⟨a, ha, e⟩ => Or.inr ⟨by rw [e]; exact hf a ha, by rw [e]; exact hz.lt a ha⟩⟩
    · exact ⟨znk (hv x hx).1 (hv x hx).2 hc (fun _ _ h => h), fun b hb => Or.inl ((hv x hx).2 b hb)⟩

/-- What a method of the shard leaves. -/
theorem duo_left {G K : Nat → Prop} (ht : TL w G q room l tl ss) (hd : ∀ b, K b → ¬ G b) (hk : ∀ x ∈ ks, Row15 K w x.1 x.2) (hv : ∀ x ∈ vs, Zn w x.1 x.2 ∧ ∀ b, zb x.1 b → K b)
    (ho : Own B w0 w' (fun b => G b ∨ K b) p room d' fl' rs') (hc : Ch (fun b => ¬ (G b ∨ K b)) w w') : Duo B w0 w' p q room d' fl' rs' l tl ss ks vs :=
  ⟨G, K, ho, ht.kept hc (fun _ hg hn => hn (Or.inl hg)), hd, fun x hx => (hk x hx).step hc (fun _ h hn => hn (Or.inr h)) (fun _ h => h), fun x hx => ⟨znk (hv x hx).1 (hv x hx).2 hc (fun _ h hn => hn (Or.inr h)), (hv x hx).2⟩⟩
theorem duo_leftZ {G K : Nat → Prop} {v : SV} {o : Option Int} (ht : TL w G q room l tl ss) (hd : ∀ b, K b → ¬ G b) (hk : ∀ x ∈ ks, Row15 K w x.1 x.2) (hv : ∀ x ∈ vs, Zn w x.1 x.2 ∧ ∀ b, zb x.1 b → K b)
    (ho : Own B w0 w' (fun b => (G b ∨ K b) ∨ zb v b) p room d' fl' rs') (hc : Ch (fun b => ¬ (G b ∨ K b)) w w') (hz : Zn w' v o) (hf : Zfrom w.heap.size v) : Duo B w0 w' p q room d' fl' rs' l tl ss ks ((v, o) :: vs) := by
  refine ⟨G, fun b => K b ∨ zb v b, ho.less (fun b hb => ?_), ht.kept hc (fun _ hg hn => hn (Or.inl hg)), fun b hb hg => ?_, fun x hx => (hk x hx).step hc (fun _ h hn => hn (Or.inr h)) (fun _ h => Or.inl h), fun x hx => ?_⟩
  · rcases hb with hb | hb | hb
    · exact Or.inl (Or.inl hb)
    · exact Or.inl (Or.inr hb)
    · exact Or.inr hb
  · rcases hb with hb | ⟨a, ha, e⟩
    · exact hd b hb hg
    · have := ht.lt b hg
      have := hf a ha
      omega
  · rcases List.mem_cons.1 hx with rfl | hx
    · exact ⟨hz, fun b hb => Or.inr hb⟩
    · exact ⟨znk (hv x hx).1 (hv x hx).2 hc (fun _ h hn => hn (Or.inr h)), fun b hb => Or.inl ((hv x hx).2 b hb)⟩
/-- What a method of the reference leaves. -/
theorem duo_right {G K : Nat → Prop} (ho : Own B w0 w (fun b => G b ∨ K b) p room d fl rs) (hd : ∀ b, K b → ¬ G b) (hk : ∀ x ∈ ks, Row15 K w x.1 x.2) (hv : ∀ x ∈ vs, Zn w x.1 x.2 ∧ ∀ b, zb x.1 b → K b)
    (h : TLs w G q room l' tl' ss' w') : Duo B w0 w' p q room d fl rs l' tl' ss' ks vs := by
  obtain ⟨ht, hc⟩ := h
  have hx : ∀ b, K b → b < w.heap.size := by obtain ⟨s, _, _, _, _, hx, _⟩ := ho; exact fun b hb => (hx b (Or.inr hb)).2
  refine ⟨fresh15 G w w', K, (ho.grew (hc.mono (fun _ _ h => Or.inl h))).less (fun b hb => ?_), ht, fun b hb hg => ?_, fun x hx => (hk x hx).step hc hd (fun _ h => h), fun x hx => ⟨znk (hv x hx).1 (hv x hx).2 hc hd, (hv x hx).2⟩⟩
  · rcases hb with (hb | hb) | hb
    · exact Or.inl (Or.inl hb)
    · exact Or.inr hb
    · exact Or.inl (Or.inr hb)
  · rcases hg with hg | hg
    · exact hd b hb hg
    · have := hx b hb; omega

variable {R m : Nat}

theorem duo_begin (h : Duo B w0 w p q R d fl rs l tl ss ks vs) (i : Int) (hi : KI.ok i) (k : PK) (hk : KP.ok k) :
    Calls Try.prog 37 #[.pointer (some ⟨p, 0, none⟩), .int .i64 i, KK k] w fun e w' => ∃ v, e = .returned (.tuple #[ZA v, .int .i64 (beginHow d fl k)]) ∧ Duo B w0 w' p q R (getS d k none) (beginF d fl k i) (del rs i) l tl ss ks ((v, beginZ d k) :: vs) := by
  obtain ⟨G, K, ho, ht, hd, h1, h2⟩ := h
  exact (own_begin ho i hi k hk).mono fun e w' ⟨v, he, hz, hf, ho', hc⟩ => ⟨v, he, duo_leftZ ht hd h1 h2 ho' hc hz hf⟩
theorem duo_begin' (h : Duo B w0 w p q R d fl' rs' l fl (rr rs) ks vs) (inv : Inv15 R m l fl rs) (hm : m ≤ 1000) (hR : R ≤ 1000) (i : Int) (k : PK) :
    Calls Try.prog 48 #[.pointer (some ⟨q, 0, none⟩), .int .i64 i, KK k] w fun e w' => e = .returned (.tuple #[.int .i64 ((beginZ (dd l) k).getD 0), .int .i64 (beginHow (dd l) fl k)]) ∧ Duo B w0 w' p q R d fl' rs' (getS l k 0) (beginF (dd l) fl k i) (rr (del rs i)) ks vs := by
  obtain ⟨G, K, ho, ht, hd, h1, h2⟩ := h
  exact (tl_begin ht inv hm hR i k).mono fun e w' ⟨he, h⟩ => ⟨he, duo_right ho hd h1 h2 h⟩

theorem duo_end_no (h : Duo B w0 w p q R d fl rs l tl ss ks vs) (i : Int) (k : PK) (hk : KP.ok k) (v : SV) (e : Int) (hn : ∀ x ∈ fl, x.1 = k → x.2.1 ≠ i) :
    Calls Try.prog 42 #[.pointer (some ⟨p, 0, none⟩), .int .i64 i, KK k, ZA v, .int .i64 e] w fun x w' => x = .returned (.int .i64 10) ∧ Duo B w0 w' p q R d fl rs l tl ss ks vs := by
  obtain ⟨G, K, ho, ht, hd, h1, h2⟩ := h
  exact (own_end_no ho i k hk v e hn).mono fun x w' ⟨he, hb⟩ => ⟨he, Duo.later ⟨G, K, ho, ht, hd, h1, h2⟩ hb⟩
theorem duo_end_no' (h : Duo B w0 w p q R d fl' rs' l fl (rr rs) ks vs) (inv : Inv15 R m l fl rs) (hm : m ≤ 1000) (i : Int) (k : PK) (z e : Int) (hn : ∀ x ∈ fl, x.1 = k → x.2.1 ≠ i) :
    Calls Try.prog 49 #[.pointer (some ⟨q, 0, none⟩), .int .i64 i, KK k, .int .i64 z, .int .i64 e] w fun x w' => x = .returned (.int .i64 10) ∧ Duo B w0 w' p q R d fl' rs' l fl (rr rs) ks vs := by
  obtain ⟨G, K, ho, ht, hd, h1, h2⟩ := h
  exact (tl_end_no ht inv hm i k z e hn).mono fun e w' ⟨he, h⟩ => ⟨he, duo_right ho hd h1 h2 h⟩
theorem duo_end_yes {v : SV} {o : Option Int} (h : Duo B w0 w p q R d fl rs l tl ss ks vs) (i : Int) (k : PK) (hk : KP.ok k) (e : Int) (ws : List Int) (hf : (k, i, ws) ∈ fl) (hvo : (v, o) ∈ vs) :
    Calls Try.prog 42 #[.pointer (some ⟨p, 0, none⟩), .int .i64 i, KK k, ZA v, .int .i64 e] w fun x w' => x = .returned (.int .i64 0) ∧
      Duo B w0 w' p q R (if e = 0 then putS R d k o else d) (del fl k) (fillR rs ws (if e = 0 then o else none, e)) l tl ss ks vs := by
  obtain ⟨G, K, ho, ht, hd, h1, h2⟩ := h
  exact (own_end_yes ho i k hk v o e ws hf (h2 _ hvo).1 (fun b hb => Or.inr ((h2 _ hvo).2 b hb))).mono fun x w' ⟨he, ho', hc⟩ => ⟨he, duo_left ht hd h1 h2 ho' hc⟩
theorem duo_end_yes' (h : Duo B w0 w p q R d fl' rs' l fl (rr rs) ks vs) (inv : Inv15 R m l fl rs) (hm : m ≤ 1000) (hR : R ≤ 1000) (hR1 : 1 ≤ R) (i : Int) (k : PK) (z e : Int) (ws : List Int) (hf : (k, i, ws) ∈ fl) :
    Calls Try.prog 49 #[.pointer (some ⟨q, 0, none⟩), .int .i64 i, KK k, .int .i64 z, .int .i64 e] w fun x w' => x = .returned (.int .i64 0) ∧
      Duo B w0 w' p q R d fl' rs' (if e = 0 then putS R l k z else l) (del fl k) (rr (fillR rs ws (if e = 0 then some z else none, e))) ks vs := by
  obtain ⟨G, K, ho, ht, hd, h1, h2⟩ := h
  exact (tl_end_yes ht inv hm hR hR1 i k z e ws hf).mono fun e w' ⟨he, h⟩ => ⟨he, duo_right ho hd h1 h2 h⟩

theorem duo_result (h : Duo B w0 w p q R d fl rs l tl ss ks vs) (i : Int) (hi : KI.ok i) :
    Calls Try.prog 44 #[.pointer (some ⟨p, 0, none⟩), .int .i64 i] w fun e w' => ∃ v, e = .returned (.tuple #[ZA v, .int .i64 (valOf rs i (none, 0)).2, .bool (has rs i)]) ∧ Duo B w0 w' p q R d fl (del rs i) l tl ss ks ((v, (valOf rs i (none, 0)).1) :: vs) := by
  obtain ⟨G, K, ho, ht, hd, h1, h2⟩ := h
  exact (own_result ho i hi).mono fun e w' ⟨v, he, hz, hf, ho', hc⟩ => ⟨v, he, duo_leftZ ht hd h1 h2 ho' hc hz hf⟩
theorem duo_result' (h : Duo B w0 w p q R d fl' rs' l fl (rr rs) ks vs) (inv : Inv15 R m l fl rs) (hm : m ≤ 1000) (i : Int) :
    Calls Try.prog 50 #[.pointer (some ⟨q, 0, none⟩), .int .i64 i] w fun e w' => e = .returned (.tuple #[.int .i64 ((valOf rs i (none, 0)).1.getD 0), .int .i64 (valOf rs i (none, 0)).2, .bool (has rs i)]) ∧ Duo B w0 w' p q R d fl' rs' l fl (rr (del rs i)) ks vs := by
  obtain ⟨G, K, ho, ht, hd, h1, h2⟩ := h
  exact (tl_result ht inv hm i).mono fun e w' ⟨he, h⟩ => ⟨he, duo_right ho hd h1 h2 h⟩

theorem duo_drop (h : Duo B w0 w p q R d fl rs l tl ss ks vs) (k : PK) (hk : KP.ok k) : Calls Try.prog 51 #[.pointer (some ⟨p, 0, none⟩), KK k] w fun e w' => e = .returned (.bool (has d k)) ∧ Duo B w0 w' p q R (del d k) fl rs l tl ss ks vs := by
  obtain ⟨G, K, ho, ht, hd, h1, h2⟩ := h
  exact (own_drop ho k hk).mono fun x w' ⟨he, ho', hc⟩ => ⟨he, duo_left ht hd h1 h2 ho' hc⟩
theorem duo_drop' (h : Duo B w0 w p q R d fl' rs' l fl (rr rs) ks vs) (inv : Inv15 R m l fl rs) (hR : R ≤ 1000) (k : PK) :
    Calls Try.prog 52 #[.pointer (some ⟨q, 0, none⟩), KK k] w fun e w' => e = .returned (.bool (has l k)) ∧ Duo B w0 w' p q R d fl' rs' (del l k) fl (rr rs) ks vs := by
  obtain ⟨G, K, ho, ht, hd, h1, h2⟩ := h
  exact (tl_drop ht inv hR k).mono fun e w' ⟨he, h⟩ => ⟨he, duo_right ho hd h1 h2 h⟩

theorem duo_purge (h : Duo B w0 w p q R d fl rs l tl ss ks vs) (rel : Int) (hn : d.length ≤ 1000) : Calls Try.prog 46 #[.pointer (some ⟨p, 0, none⟩), .int .i64 rel] w fun e w' =>
    e = .returned (.int .i64 (((d.map Prod.fst).filter fun k => decide (k.1 = rel)).length : Nat)) ∧ Duo B w0 w' p q R (d.filter fun x => decide (x.1.1 ≠ rel)) fl rs l tl ss ks vs := by
  obtain ⟨G, K, ho, ht, hd, h1, h2⟩ := h
  exact (own_purge ho rel hn).mono fun x w' ⟨he, ho', hc⟩ => ⟨he, duo_left ht hd h1 h2 ho' hc⟩
theorem duo_purge' (h : Duo B w0 w p q R d fl' rs' l fl (rr rs) ks vs) (inv : Inv15 R m l fl rs) (hR : R ≤ 1000) (rel : Int) :
    Calls Try.prog 53 #[.pointer (some ⟨q, 0, none⟩), .int .i64 rel] w fun e w' => e = .returned (.int .i64 ((l.filter fun x => decide (x.1.1 = rel)).length : Nat)) ∧ Duo B w0 w' p q R d fl' rs' (l.filter fun x => decide (x.1.1 ≠ rel)) fl (rr rs) ks vs := by
  obtain ⟨G, K, ho, ht, hd, h1, h2⟩ := h
  exact (tl_purge ht inv hR rel).mono fun e w' ⟨he, h⟩ => ⟨he, duo_right ho hd h1 h2 h⟩
theorem dd_purge (l : List (PK × Int)) (rel : Int) : (((dd l).map Prod.fst).filter fun k => decide (k.1 = rel)).length = (l.filter fun x => decide (x.1.1 = rel)).length ∧ ((dd l).filter fun x => decide (x.1.1 ≠ rel)) = dd (l.filter fun x => decide (x.1.1 ≠ rel)) := by
  constructor
  · rw [dd_keys, List.filter_map, List.length_map]; rfl
  · unfold dd; rw [List.filter_map]; rfl

theorem duo_ready (h : Duo B w0 w p q R d fl rs l tl ss ks vs) (i : Int) (hi : KI.ok i) : Calls Try.prog 39 #[.pointer (some ⟨p, 0, none⟩), .int .i64 i] w fun e w' => e = .returned (.bool (has rs i)) ∧ Below w.heap.size w w' := by
  obtain ⟨G, K, ho, _⟩ := h
  exact own_ready ho i hi
theorem duo_ready' (h : Duo B w0 w p q R d fl' rs' l fl (rr rs) ks vs) (inv : Inv15 R m l fl rs) (hm : m ≤ 1000) (i : Int) : Calls Try.prog 54 #[.pointer (some ⟨q, 0, none⟩), .int .i64 i] w fun e w' => e = .returned (.bool (has rs i)) ∧ w = w' := by
  obtain ⟨G, K, ho, ht, _⟩ := h
  exact tl_ready ht inv hm i
theorem duo_len (h : Duo B w0 w p q R d fl rs l tl ss ks vs) : Calls Try.prog 41 #[.pointer (some ⟨p, 0, none⟩)] w fun e w' => e = .returned (.int .i64 d.length) ∧ w = w' := by
  obtain ⟨G, K, ho, _⟩ := h
  exact own_len ho
theorem duo_flying (h : Duo B w0 w p q R d fl rs l tl ss ks vs) : Calls Try.prog 40 #[.pointer (some ⟨p, 0, none⟩)] w fun e w' => e = .returned (.int .i64 fl.length) ∧ w = w' := by
  obtain ⟨G, K, ho, _⟩ := h
  exact own_flying ho
theorem duo_keys (h : Duo B w0 w p q R d fl rs l tl ss ks vs) (hn : d.length ≤ 1000) : Calls Try.prog 45 #[.pointer (some ⟨p, 0, none⟩)] w fun e w' => e = .returned (.slice (some ⟨w.heap.size, 0, none⟩) d.length d.length) ∧
    w'.ownsRow w.heap.size 58 2 (.slice (some ⟨w.heap.size, 0, none⟩) d.length d.length) d.length (KZ.krow (d.map Prod.fst)) ∧ Duo B w0 w' p q R d fl rs l tl ss ks vs := by
  obtain ⟨G, K, ho, ht, hd, h1, h2⟩ := h
  exact (own_keys ho hn).mono fun x w' ⟨he, hr, hb⟩ => ⟨he, hr, Duo.later ⟨G, K, ho, ht, hd, h1, h2⟩ hb⟩
theorem duo_zone (h : Duo B w0 w p q R d fl rs l tl ss ks vs) (n : Int) : Calls Try.prog 43 #[.int .i64 n] w fun e w' => ∃ v, e = .returned (ZA v) ∧ Duo B w0 w' p q R d fl rs l tl ss ks ((v, some n) :: vs) :=
  (zone43 w n).mono fun _ _ ⟨v, he, hz, hf, hb⟩ => ⟨v, he, h.addAt hb hz hf⟩
theorem duo_number {v : SV} {o : Option Int} (h : Duo B w0 w p q R d fl rs l tl ss ks vs) (hz : Zn w v o) : Calls Try.prog 38 #[ZA v] w fun e w' => e = .returned (.int .i64 (o.getD 0)) ∧ Duo B w0 w' p q R d fl rs l tl ss ks vs :=
  (number38 hz).mono fun _ _ ⟨he, hb⟩ => ⟨he, h.later hb⟩

/-- Both made. -/
theorem duo_new (room : Int) (w0 w : World) (hb : Below w0.heap.size w0 w) : Calls Try.prog 36 #[.int .i64 room] w fun e w1 => ∃ p, e = .returned (.pointer (some ⟨p, 0, none⟩)) ∧
    Calls Try.prog 47 #[.int .i64 room] w1 fun e w' => ∃ q, e = .returned (.pointer (some ⟨q, 0, none⟩)) ∧ Duo w0.heap.size w0 w' p q (max 1 room) [] [] [] [] [] [] [] [] := by
  refine (own_new room w0 w hb).mono fun e w1 ⟨p, he, ho⟩ => ⟨p, he, ?_⟩
  refine (r15_new room w1).mono fun e w' ⟨he, h, hb'⟩ => ⟨w1.heap.size, he, ?_⟩
  have hlt := h.lt _ h.gq
  refine ⟨fun b => b = w1.heap.size, fun _ => False, (ho.laid hb').less (fun b hb => ?_), ⟨[], rfl, _, _, _, _, h⟩, (fun _ h => h.elim), (fun _ h => by cases h), (fun _ h => by cases h)⟩
  rcases hb with hb | hb
  · exact Or.inr ⟨by omega, by omega⟩
  · exact hb.elim

/-- All worlds behind a call that touches nothing that was there. -/
theorem below_fam (w : World) : ∃ (T : Type) (gw : T → World), (∀ w', Below w.heap.size w w' → ∃ n, w' = gw n) ∧ ∀ n, Below w.heap.size w (gw n) :=
  ⟨{w' // Below w.heap.size w w'}, Subtype.val, fun w' h => ⟨⟨w', h⟩, rfl⟩, fun n => n.2⟩

theorem wp_region_quiet_fam {T : Type} (gw : T → World) {P : Program} {id : Nat} {Q : Exit → Act → World → Prop} {a : Act} {w : World} {l : List Oper} (hm : P.follows .mixedOrders = true) (hB : Region.lexB .any l.toArray = true) (h1 : ∃ n, w.drew = gw n)
    (h : wpQuiet P l.toArray (fun w' => ∃ n, w' = gw n) (fun a' => ∀ w', (∃ n, w' = gw n) → Q .normal a' w') l a) : (Code.region id l.toArray true).wp P Q a w :=
  wp_region_quiet (C := fun w' => ∃ n, w' = gw n) hm hB h1 (by simpa using h)

end Go.Proofs.Ytnnaidladcdbdaa

namespace Go.Proofs.Ytnnaidladcdbdaa
open Go.RowKit Go.ChangeMaps
open KZ (SV sv ZA KK)

/-- Both, in one state. -/
abbrev Both (B : Nat) (w0 w : World) (p q R : Nat) (l : List (PK × Int)) (fl : List TFl) (rs : List (Int × Option Int × Int)) (ks : List (Nat × List Value)) (vs : List (SV × Option Int)) : Prop :=
  Duo B w0 w p q R (dd l) fl rs l fl (rr rs) ks vs
/-- The shard a step ahead. -/
abbrev Ahead (B : Nat) (w0 w : World) (p q R : Nat) (l2 : List (PK × Int)) (fl2 : List TFl) (rs2 : List (Int × Option Int × Int)) (l : List (PK × Int)) (fl : List TFl) (rs : List (Int × Option Int × Int)) (ks : List (Nat × List Value)) (vs : List (SV × Option Int)) : Prop :=
  Duo B w0 w p q R (dd l2) fl2 rs2 l fl (rr rs) ks vs

variable {B : Nat} {w0 : World} {p q R m : Nat} {l : List (PK × Int)} {fl : List TFl} {rs : List (Int × Option Int × Int)}

theorem step_begin (B : Nat) (w0 : World) (p q : Nat) (inv : Inv15 R m l fl rs) (hm : m ≤ 1000) (hR : R ≤ 1000) (i : Int) (hi : KI.ok i) (k : PK) (hk : KP.ok k) :
    ∃ (H n : Int) (o : Option Int) (l2 : List (PK × Int)) (fl2 : List TFl) (rs2 : List (Int × Option Int × Int)), Inv15 R (m + 1) l2 fl2 rs2 ∧ o.getD 0 = n ∧
      (∀ w ks vs, Both B w0 w p q R l fl rs ks vs → Calls Try.prog 37 #[.pointer (some ⟨p, 0, none⟩), .int .i64 i, KK k] w fun e w' => ∃ v, e = .returned (.tuple #[ZA v, .int .i64 H]) ∧ Ahead B w0 w' p q R l2 fl2 rs2 l fl rs ks ((v, o) :: vs)) ∧
      (∀ w ks vs, Ahead B w0 w p q R l2 fl2 rs2 l fl rs ks vs → Calls Try.prog 48 #[.pointer (some ⟨q, 0, none⟩), .int .i64 i, KK k] w fun e w' => e = .returned (.tuple #[.int .i64 n, .int .i64 H]) ∧ Both B w0 w' p q R l2 fl2 rs2 ks vs) := by
  refine ⟨beginHow (dd l) fl k, _, beginZ (dd l) k, getS l k 0, beginF (dd l) fl k i, del rs i, inv.begin k i, rfl, fun w ks vs h => ?_, fun w ks vs h => duo_begin' h inv hm hR i k⟩
  have := duo_begin h i hi k hk
  rw [getS_dd inv.keys] at this
  exact this

theorem step_end (B : Nat) (w0 : World) (p q : Nat) (inv : Inv15 R m l fl rs) (hm : m ≤ 1000) (hR : R ≤ 1000) (hR1 : 1 ≤ R) (i : Int) (k : PK) (hk : KP.ok k) (z e : Int) :
    ∃ (r : Int) (l2 : List (PK × Int)) (fl2 : List TFl) (rs2 : List (Int × Option Int × Int)), Inv15 R (m + 1) l2 fl2 rs2 ∧
      (∀ w ks vs v, Both B w0 w p q R l fl rs ks vs → (v, some z) ∈ vs → Calls Try.prog 42 #[.pointer (some ⟨p, 0, none⟩), .int .i64 i, KK k, ZA v, .int .i64 e] w fun x w' => x = .returned (.int .i64 r) ∧ Ahead B w0 w' p q R l2 fl2 rs2 l fl rs ks vs) ∧
      (∀ w ks vs, Ahead B w0 w p q R l2 fl2 rs2 l fl rs ks vs → Calls Try.prog 49 #[.pointer (some ⟨q, 0, none⟩), .int .i64 i, KK k, .int .i64 z, .int .i64 e] w fun x w' => x = .returned (.int .i64 r) ∧ Both B w0 w' p q R l2 fl2 rs2 ks vs) := by
  by_cases hin : ∃ ws, (k, i, ws) ∈ fl
  · obtain ⟨ws, hin⟩ := hin
    have hf := inv.finish hR1 hin z (decide (e = 0)) (if e = 0 then some z else none, e)
    have e1 : (if decide (e = 0) = true then putS R l k z else l) = if e = 0 then putS R l k z else l := by by_cases h : e = 0 <;> simp [h]
    rw [e1] at hf
    refine ⟨0, _, _, _, hf.later (Nat.le_succ m), fun w ks vs v h hv => ?_, fun w ks vs h => duo_end_yes' h inv hm hR hR1 i k z e ws hin⟩
    have := duo_end_yes h i k hk e ws hin hv
    have e2 : (if e = 0 then putS R (dd l) k (some z) else dd l) = dd (if e = 0 then putS R l k z else l) := by
      split
      · exact putS_dd R l k z
      · rfl
    rw [e2] at this
    exact this
  · have hno : ∀ x ∈ fl, x.1 = k → x.2.1 ≠ i := fun x hx h1 h2 => hin ⟨x.2.2, by rw [← h1, ← h2]; exact hx⟩
    exact ⟨10, l, fl, rs, inv.later (Nat.le_succ m), fun w ks vs v h hv => duo_end_no h i k hk v e hno, fun w ks vs h => duo_end_no' h inv hm i k z e hno⟩

theorem step_result (B : Nat) (w0 : World) (p q : Nat) (inv : Inv15 R m l fl rs) (hm : m ≤ 1000) (i : Int) (hi : KI.ok i) :
    ∃ (n e : Int) (b : Bool) (o : Option Int) (l2 : List (PK × Int)) (fl2 : List TFl) (rs2 : List (Int × Option Int × Int)), Inv15 R (m + 1) l2 fl2 rs2 ∧ o.getD 0 = n ∧
      (∀ w ks vs, Both B w0 w p q R l fl rs ks vs → Calls Try.prog 44 #[.pointer (some ⟨p, 0, none⟩), .int .i64 i] w fun x w' => ∃ v, x = .returned (.tuple #[ZA v, .int .i64 e, .bool b]) ∧ Ahead B w0 w' p q R l2 fl2 rs2 l fl rs ks ((v, o) :: vs)) ∧
      (∀ w ks vs, Ahead B w0 w p q R l2 fl2 rs2 l fl rs ks vs → Calls Try.prog 50 #[.pointer (some ⟨q, 0, none⟩), .int .i64 i] w fun x w' => x = .returned (.tuple #[.int .i64 n, .int .i64 e, .bool b]) ∧ Both B w0 w' p q R l2 fl2 rs2 ks vs) :=
  ⟨_, (valOf rs i (none, 0)).2, has rs i, (valOf rs i (none, 0)).1, l, fl, del rs i, (inv.result i).later (Nat.le_succ m), rfl, fun _ _ _ h => duo_result h i hi, fun _ _ _ h => duo_result' h inv hm i⟩

theorem step_drop (B : Nat) (w0 : World) (p q : Nat) (inv : Inv15 R m l fl rs) (hR : R ≤ 1000) (k : PK) (hk : KP.ok k) :
    ∃ (b : Bool) (l2 : List (PK × Int)) (fl2 : List TFl) (rs2 : List (Int × Option Int × Int)), Inv15 R (m + 1) l2 fl2 rs2 ∧
      (∀ w ks vs, Both B w0 w p q R l fl rs ks vs → Calls Try.prog 51 #[.pointer (some ⟨p, 0, none⟩), KK k] w fun x w' => x = .returned (.bool b) ∧ Ahead B w0 w' p q R l2 fl2 rs2 l fl rs ks vs) ∧
      (∀ w ks vs, Ahead B w0 w p q R l2 fl2 rs2 l fl rs ks vs → Calls Try.prog 52 #[.pointer (some ⟨q, 0, none⟩), KK k] w fun x w' => x = .returned (.bool b) ∧ Both B w0 w' p q R l2 fl2 rs2 ks vs) := by
  refine ⟨has l k, del l k, fl, rs, (inv.cut List.filter_sublist).later (Nat.le_succ m), fun w ks vs h => ?_, fun w ks vs h => duo_drop' h inv hR k⟩
  have := duo_drop h k hk
  rw [has_dd, del_dd] at this
  exact this

theorem step_purge (B : Nat) (w0 : World) (p q : Nat) (inv : Inv15 R m l fl rs) (hR : R ≤ 1000) (rel : Int) :
    ∃ (n : Nat) (l2 : List (PK × Int)) (fl2 : List TFl) (rs2 : List (Int × Option Int × Int)), Inv15 R (m + 1) l2 fl2 rs2 ∧
      (∀ w ks vs, Both B w0 w p q R l fl rs ks vs → Calls Try.prog 46 #[.pointer (some ⟨p, 0, none⟩), .int .i64 rel] w fun x w' => x = .returned (.int .i64 n) ∧ Ahead B w0 w' p q R l2 fl2 rs2 l fl rs ks vs) ∧
      (∀ w ks vs, Ahead B w0 w p q R l2 fl2 rs2 l fl rs ks vs → Calls Try.prog 53 #[.pointer (some ⟨q, 0, none⟩), .int .i64 rel] w fun x w' => x = .returned (.int .i64 n) ∧ Both B w0 w' p q R l2 fl2 rs2 ks vs) := by
  refine ⟨(l.filter fun x => decide (x.1.1 = rel)).length, _, fl, rs, (inv.cut List.filter_sublist).later (Nat.le_succ m), fun w ks vs h => ?_, fun w ks vs h => duo_purge' h inv hR rel⟩
  have hl := inv.len
  have := duo_purge h rel (by rw [dd_length]; omega)
  rw [(dd_purge l rel).1, (dd_purge l rel).2] at this
  exact this

theorem step_none (inv : Inv15 R m l fl rs) : Inv15 R (m + 1) l fl rs := inv.later (Nat.le_succ m)

/-- What is seen of both behind each step. -/
theorem both_keys {w : World} {ks : List (Nat × List Value)} {vs : List (SV × Option Int)} (h : Both B w0 w p q R l fl rs ks vs) (hn : l.length ≤ 1000) :
    Calls Try.prog 45 #[.pointer (some ⟨p, 0, none⟩)] w fun e w' => e = .returned (.slice (some ⟨w.heap.size, 0, none⟩) l.length l.length) ∧ w.heap.size < w'.heap.size ∧
      (∀ j x, l[j]? = some x → w'.cell? ⟨w.heap.size, j * 2, none⟩ = some (.int .i64 x.1.1) ∧ w'.cell? ⟨w.heap.size, j * 2 + 1, none⟩ = some (.string x.1.2)) ∧ Both B w0 w' p q R l fl rs ks vs := by
  have := duo_keys h (by rw [dd_length]; exact hn)
  rw [dd_length, dd_keys] at this
  refine this.mono fun e w' ⟨he, hr, hd⟩ => ⟨he, (hr.lt w.heap.size rfl).2, fun j x hx => ?_, hd⟩
  have hj := (List.getElem?_eq_some_iff.1 hx).1
  obtain ⟨h1, h2⟩ := KZ.krow_at (l.map Prod.fst) j x.1 (by rw [List.getElem?_map, hx]; rfl)
  exact ⟨(hr.cellAt (j * 2) (by omega)).trans h1, (hr.cellAt (j * 2 + 1) (by omega)).trans h2⟩

/-- What answers alike in all worlds behind this one. -/
theorem both_fam {w : World} {ks : List (Nat × List Value)} {vs : List (SV × Option Int)} (h : Both B w0 w p q R l fl rs ks vs) (inv : Inv15 R m l fl rs) (hm : m ≤ 1000) (i : Int) (hi : KI.ok i) {T : Type} {gw : T → World}
    (hT : ∀ w', Below w.heap.size w w' → ∃ n, w' = gw n) (hg : ∀ n, Below w.heap.size w (gw n)) :
    (∀ n, Calls Try.prog 41 #[.pointer (some ⟨p, 0, none⟩)] (gw n) fun e w' => e = .returned (.int .i64 l.length) ∧ ∃ n, w' = gw n) ∧
    (∀ n, Calls Try.prog 40 #[.pointer (some ⟨p, 0, none⟩)] (gw n) fun e w' => e = .returned (.int .i64 fl.length) ∧ ∃ n, w' = gw n) ∧
    (∀ n, Calls Try.prog 39 #[.pointer (some ⟨p, 0, none⟩), .int .i64 i] (gw n) fun e w' => e = .returned (.bool (has rs i)) ∧ ∃ n, w' = gw n) ∧
    (∀ n, Calls Try.prog 54 #[.pointer (some ⟨q, 0, none⟩), .int .i64 i] (gw n) fun e w' => e = .returned (.bool (has rs i)) ∧ ∃ n, w' = gw n) := by
  refine ⟨fun n => (duo_len (h.later (hg n))).mono fun e w' ⟨he, hw⟩ => ⟨by rw [he, dd_length], n, hw.symm⟩, fun n => (duo_flying (h.later (hg n))).mono fun e w' ⟨he, hw⟩ => ⟨he, n, hw.symm⟩,
    fun n => (duo_ready (h.later (hg n)) i hi).mono fun e w' ⟨he, hw⟩ => ⟨he, hT w' ((hg n).trans (hw.mono (hg n).size))⟩, fun n => (duo_ready' (h.later (hg n)) inv hm i).mono fun e w' ⟨he, hw⟩ => ⟨he, n, hw.symm⟩⟩

end Go.Proofs.Ytnnaidladcdbdaa
