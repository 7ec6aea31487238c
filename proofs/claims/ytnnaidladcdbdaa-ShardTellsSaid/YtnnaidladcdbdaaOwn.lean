/- A shard as a caller has it (chapter 15): its told state; each method's contract in these words. -/
import Derived.Test.YtnnaidladcdbdaaShEnd2
namespace Go.Proofs.Ytnnaidladcdbdaa
open Go.RowKit Go.ChangeMaps
open KZ (SV sv ZA KK)

/-- A shard at block p, all its blocks from B on and none of X: what is complete, what flies, what is to be fetched. -/
def Own (B : Nat) (w0 w : World) (X : Nat → Prop) (p : Nat) (room : Int) (d : List (PK × Option Int)) (fl : List (PK × Int × List Int)) (rs : List (Int × Option Int × Int)) : Prop :=
  ∃ s : ShB, s.p = p ∧ ShAt w s room d rs ∧ s.fl = fl ∧ (∀ b, s.all b → B ≤ b ∧ ¬ X b) ∧ (∀ b, X b → B ≤ b ∧ b < w.heap.size) ∧ Below B w0 w ∧ B ≤ w.heap.size

variable {B : Nat} {w0 w w' : World} {X : Nat → Prop} {p : Nat} {room : Int} {d : List (PK × Option Int)} {fl : List (PK × Int × List Int)} {rs : List (Int × Option Int × Int)}

theorem Own.size (h : Own B w0 w X p room d fl rs) : B ≤ w.heap.size := by obtain ⟨_, _, _, _, _, _, _, h⟩ := h; exact h
theorem Own.below (h : Own B w0 w X p room d fl rs) : Below B w0 w := by obtain ⟨_, _, _, _, _, _, h, _⟩ := h; exact h

/-- All that was there is as it was. -/
theorem Own.later (h : Own B w0 w X p room d fl rs) (hb : Below w.heap.size w w') : Own B w0 w' X p room d fl rs := by
  obtain ⟨s, hp, h1, hf, ha, hx, hw, hs⟩ := h
  exact ⟨s, hp, h1.kept (Ch.of_none hb (fun _ => False)) (fun _ _ h => h), hf, ha, fun b hb' => ⟨(hx b hb').1, Nat.lt_of_lt_of_le (hx b hb').2 hb.size⟩, hw.trans (hb.mono hs), Nat.le_trans hs hb.size⟩

/-- A zone of the caller's more. -/
theorem Own.more {v : SV} {o : Option Int} (h : Own B w0 w X p room d fl rs) (hb : Below w.heap.size w w') (hz : Zn w' v o) (hv : Zfrom w.heap.size v) : Own B w0 w' (fun b => X b ∨ zb v b) p room d fl rs := by
  have hlt := hz.lt
  obtain ⟨s, hp, h1, hf, ha, hx, hw, hs⟩ := h
  refine ⟨s, hp, h1.kept (Ch.of_none hb (fun _ => False)) (fun _ _ h => h), hf, fun b hb' => ⟨(ha b hb').1, fun h => h.elim (ha b hb').2 (fun ⟨a, e1, e2⟩ => by have := h1.lt b hb'; have := hv a e1; omega)⟩, fun b hb' => ?_, hw.trans (hb.mono hs), Nat.le_trans hs hb.size⟩
  rcases hb' with h | ⟨a, e1, e2⟩
  · exact ⟨(hx b h).1, Nat.lt_of_lt_of_le (hx b h).2 hb.size⟩
  · rw [e2]; exact ⟨Nat.le_trans hs (hv a e1), hlt a e1⟩

/-- All that the caller has laid since is its own. -/
theorem Own.laid (h : Own B w0 w X p room d fl rs) (hb : Below w.heap.size w w') : Own B w0 w' (fun b => X b ∨ (w.heap.size ≤ b ∧ b < w'.heap.size)) p room d fl rs := by
  obtain ⟨s, hp, h1, hf, ha, hx, hw, hs⟩ := h
  refine ⟨s, hp, h1.kept (Ch.of_none hb (fun _ => False)) (fun _ _ h => h), hf, fun b hb' => ⟨(ha b hb').1, fun h => h.elim (ha b hb').2 (fun h => by have := h1.lt b hb'; omega)⟩, fun b hb' => ?_, hw.trans (hb.mono hs), Nat.le_trans hs hb.size⟩
  rcases hb' with h | h
  · exact ⟨(hx b h).1, Nat.lt_of_lt_of_le (hx b h).2 hb.size⟩
  · exact ⟨Nat.le_trans hs h.1, h.2⟩

theorem Own.less {Y : Nat → Prop} (h : Own B w0 w X p room d fl rs) (hY : ∀ b, Y b → X b) : Own B w0 w Y p room d fl rs := by
  obtain ⟨s, hp, h1, hf, ha, hx, hw, hs⟩ := h
  exact ⟨s, hp, h1, hf, fun b hb => ⟨(ha b hb).1, fun h => (ha b hb).2 (hY b h)⟩, fun b hb => hx b (hY b hb), hw, hs⟩

/-- The caller writes into what is its own. -/
theorem Own.wrote (h : Own B w0 w X p room d fl rs) (hc : Ch X w w') : Own B w0 w' X p room d fl rs := by
  obtain ⟨s, hp, h1, hf, ha, hx, hw, hs⟩ := h
  exact ⟨s, hp, h1.kept hc (fun b hb => (ha b hb).2), hf, ha, fun b hb => ⟨(hx b hb).1, Nat.lt_of_lt_of_le (hx b hb).2 hc.size⟩, hw.trans (hc.below hs (fun b hb hX => by have := (hx b hX).1; omega)), Nat.le_trans hs hc.size⟩

/-- What a method leaves. -/
theorem own_of {s s' : ShB} {room' : Int} {d' : List (PK × Option Int)} {rs' : List (Int × Option Int × Int)} {Y : Nat → Prop} (ha : ∀ b, s.all b → B ≤ b ∧ ¬ X b) (hx : ∀ b, X b → B ≤ b ∧ b < w.heap.size) (hw : Below B w0 w) (hs : B ≤ w.heap.size)
    (h : ShAt w' s' room' d' rs') (hp : s'.p = p) (hf : s'.fl = fl) (hall : ∀ b, s'.all b → s.all b ∨ w.heap.size ≤ b) (hc : Ch s.all w w') (hY : ∀ b, Y b → X b ∨ (¬ s'.all b ∧ w.heap.size ≤ b ∧ b < w'.heap.size)) : Own B w0 w' Y p room' d' fl rs' := by
  refine ⟨s', hp, h, hf, fun b hb => ⟨?_, fun h => ?_⟩, fun b hb => ?_, hw.trans (hc.below hs (fun b hb h => by have := (ha b h).1; omega)), Nat.le_trans hs hc.size⟩
  · rcases hall b hb with h | h
    · exact (ha b h).1
    · omega
  · rcases hY b h with h | h
    · rcases hall b hb with h1 | h1
      · exact (ha b h1).2 h
      · have := (hx b h).2; omega
    · exact h.1 hb
  · rcases hY b hb with h | h
    · exact ⟨(hx b h).1, Nat.lt_of_lt_of_le (hx b h).2 hc.size⟩
    · exact ⟨Nat.le_trans hs h.2.1, h.2.2⟩

theorem own_new (room : Int) (w0 w : World) (hb : Below w0.heap.size w0 w) : Calls Try.prog 36 #[.int .i64 room] w fun e w' => ∃ p, e = .returned (.pointer (some ⟨p, 0, none⟩)) ∧ Own w0.heap.size w0 w' (fun _ => False) p (max 1 room) [] [] [] := by
  refine (new36 room w).mono fun e w' ⟨s, he, h, hff, hlt, hb'⟩ => ⟨s.p, he, s, rfl, h, by unfold ShB.fl; rw [hff]; rfl, fun b hb1 => ⟨Nat.le_trans hb.size (hlt b hb1), fun h => h⟩, fun _ h => h.elim, hb.trans (hb'.mono hb.size), Nat.le_trans hb.size hb'.size⟩

theorem own_begin (h : Own B w0 w X p room d fl rs) (i : Int) (hi : KI.ok i) (k : PK) (hk : KP.ok k) :
    Calls Try.prog 37 #[.pointer (some ⟨p, 0, none⟩), .int .i64 i, KK k] w fun e w' => ∃ v, e = .returned (.tuple #[ZA v, .int .i64 (beginHow d fl k)]) ∧ Zn w' v (beginZ d k) ∧ Zfrom w.heap.size v ∧
      Own B w0 w' (fun b => X b ∨ zb v b) p room (getS d k none) (beginF d fl k i) (del rs i) ∧ Ch (fun b => ¬ X b) w w' := by
  obtain ⟨s, rfl, h1, rfl, ha, hx, hw, hs⟩ := h
  refine (begin37 h1 i hi k hk).mono fun e w' ⟨v, he, hz, hv, s', hn, h2, hp, hf, hall, hc⟩ => ⟨v, he, hz, hv, own_of ha hx hw hs h2 hp hf hall hc (fun b hb => hb.imp id (fun ⟨a, e1, e2⟩ => by rw [e2]; exact ⟨hn a e1, hv a e1, hz.lt a e1⟩)), hc.mono (fun b _ hb hX => (ha b hb).2 hX)⟩

theorem fl_mem {s : ShB} {k : PK} {i : Int} {ws : List Int} (h : (k, i, ws) ∈ s.fl) : ∃ y ∈ s.ff, y.1 = k ∧ y.2.lead = i ∧ y.2.waits = ws := by
  obtain ⟨y, hy, e⟩ := List.mem_map.1 h
  simp only [Prod.mk.injEq] at e
  exact ⟨y, hy, e.1, e.2.1, e.2.2⟩

theorem own_end_no (h : Own B w0 w X p room d fl rs) (i : Int) (k : PK) (hk : KP.ok k) (v : SV) (e : Int) (hn : ∀ x ∈ fl, x.1 = k → x.2.1 ≠ i) :
    Calls Try.prog 42 #[.pointer (some ⟨p, 0, none⟩), .int .i64 i, KK k, ZA v, .int .i64 e] w fun x w' => x = .returned (.int .i64 10) ∧ Below w.heap.size w w' := by
  obtain ⟨s, rfl, h1, rfl, ha, hx, hw, hs⟩ := h
  cases hf : has s.fl k with
  | false => exact end_none h1 i k hk v e hf
  | true =>
    obtain ⟨z, hz, hzk⟩ := List.mem_map.1 (has_iff.1 hf)
    obtain ⟨y, hy, e1, e2, e3⟩ := fl_mem (k := z.1) (i := z.2.1) (ws := z.2.2) hz
    exact end_other h1 i k hk v e hy (e1.trans hzk) (by rw [e2]; exact hn z hz hzk)

theorem own_end_yes (h : Own B w0 w X p room d fl rs) (i : Int) (k : PK) (hk : KP.ok k) (v : SV) (o : Option Int) (e : Int) (ws : List Int) (hf : (k, i, ws) ∈ fl) (hz : Zn w v o) (hv : ∀ b, zb v b → X b) :
    Calls Try.prog 42 #[.pointer (some ⟨p, 0, none⟩), .int .i64 i, KK k, ZA v, .int .i64 e] w fun x w' => x = .returned (.int .i64 0) ∧
      Own B w0 w' X p room (if e = 0 then putS room d k o else d) (del fl k) (fillR rs ws (if e = 0 then o else none, e)) ∧ Ch (fun b => ¬ X b) w w' := by
  obtain ⟨s, rfl, h1, rfl, ha, hx, hw, hs⟩ := h
  obtain ⟨y, hy, e1, e2, e3⟩ := fl_mem hf
  subst e3
  refine (end_yes h1 i k hk v o e hy e1 e2 hz (fun a ha' hb => (ha _ hb).2 (hv _ ⟨a, ha', rfl⟩)) _ _ ?_).mono fun x w' ⟨he, s', h2, hp, hf', hall, hc⟩ => ⟨he, own_of ha hx hw hs h2 hp hf' hall hc (fun b hb => Or.inl hb), hc.mono (fun b _ hb hX => (ha b hb).2 hX)⟩
  by_cases he : e = 0
  · rw [if_pos he, if_pos he]; exact Or.inl ⟨he, rfl, rfl⟩
  · rw [if_neg he, if_neg he]; exact Or.inr ⟨he, rfl, rfl⟩

theorem own_result (h : Own B w0 w X p room d fl rs) (i : Int) (hi : KI.ok i) :
    Calls Try.prog 44 #[.pointer (some ⟨p, 0, none⟩), .int .i64 i] w fun e w' => ∃ v, e = .returned (.tuple #[ZA v, .int .i64 (valOf rs i (none, 0)).2, .bool (has rs i)]) ∧ Zn w' v (valOf rs i (none, 0)).1 ∧ Zfrom w.heap.size v ∧
      Own B w0 w' (fun b => X b ∨ zb v b) p room d fl (del rs i) ∧ Ch (fun b => ¬ X b) w w' := by
  obtain ⟨s, rfl, h1, rfl, ha, hx, hw, hs⟩ := h
  refine (result44 h1 i hi).mono fun e w' ⟨v, he, hz, hv, h2, hc⟩ => ⟨v, he, hz, hv, own_of ha hx hw hs h2 rfl rfl (fun b hb => Or.inl hb) hc (fun b hb => hb.imp id (fun ⟨a, e1, e2⟩ => ⟨fun hb' => by have := h1.lt b hb'; have := hv a e1; omega, by rw [e2]; exact ⟨hv a e1, hz.lt a e1⟩⟩)), hc.mono (fun b _ hb hX => (ha b hb).2 hX)⟩

theorem own_ready (h : Own B w0 w X p room d fl rs) (i : Int) (hi : KI.ok i) : Calls Try.prog 39 #[.pointer (some ⟨p, 0, none⟩), .int .i64 i] w fun e w' => e = .returned (.bool (has rs i)) ∧ Below w.heap.size w w' := by
  obtain ⟨s, rfl, h1, rfl, ha, hx, hw, hs⟩ := h
  exact ready39 h1 i hi
theorem own_len (h : Own B w0 w X p room d fl rs) : Calls Try.prog 41 #[.pointer (some ⟨p, 0, none⟩)] w fun e w' => e = .returned (.int .i64 d.length) ∧ w = w' := by
  obtain ⟨s, rfl, h1, rfl, ha, hx, hw, hs⟩ := h
  exact len41 h1
theorem own_flying (h : Own B w0 w X p room d fl rs) : Calls Try.prog 40 #[.pointer (some ⟨p, 0, none⟩)] w fun e w' => e = .returned (.int .i64 fl.length) ∧ w = w' := by
  obtain ⟨s, rfl, h1, rfl, ha, hx, hw, hs⟩ := h
  exact flying40 h1
theorem own_keys (h : Own B w0 w X p room d fl rs) (hn : d.length ≤ 1000) : Calls Try.prog 45 #[.pointer (some ⟨p, 0, none⟩)] w fun e w' => e = .returned (.slice (some ⟨w.heap.size, 0, none⟩) d.length d.length) ∧
    w'.ownsRow w.heap.size 58 2 (.slice (some ⟨w.heap.size, 0, none⟩) d.length d.length) d.length (KZ.krow (d.map Prod.fst)) ∧ Below w.heap.size w w' := by
  obtain ⟨s, rfl, h1, rfl, ha, hx, hw, hs⟩ := h
  exact keys45 h1 hn
theorem own_drop (h : Own B w0 w X p room d fl rs) (k : PK) (hk : KP.ok k) : Calls Try.prog 51 #[.pointer (some ⟨p, 0, none⟩), KK k] w fun e w' => e = .returned (.bool (has d k)) ∧ Own B w0 w' X p room (del d k) fl rs ∧ Ch (fun b => ¬ X b) w w' := by
  obtain ⟨s, rfl, h1, rfl, ha, hx, hw, hs⟩ := h
  refine (drop51 h1 k hk).mono fun e w' ⟨he, h2, hc⟩ => ⟨he, own_of ha hx hw hs h2 rfl rfl (fun b hb => Or.inl hb) hc (fun b hb => Or.inl hb), hc.mono (fun b _ hb hX => (ha b hb).2 hX)⟩

end Go.Proofs.Ytnnaidladcdbdaa
