/- The reference of chapter 14 beside the list of chapter 14: one list of pairs in both, and each call's answer. -/
import Derived.Test.YtnnaidladcdbdaaRef14B
import Derived.Test.YtnnaidladcdbdaaWGets
namespace Go.Proofs.Ytnnaidladcdbdaa
open Go.RowKit Go.ChangeMaps

/-- Where a key lies: at one place, and what is left without it. -/
theorem place_of {κ ν : Type} [DecidableEq κ] {l : List (κ × ν)} {k : κ} (z : ν) (hn : (l.map Prod.fst).Nodup) (hk : k ∈ l.map Prod.fst) :
    ∃ j, l[j]? = some (k, valOf l k z) ∧ (∀ i, i < j → ∀ x, l[i]? = some x → x.1 ≠ k) ∧ l.eraseIdx j = del l k := by
  obtain ⟨j, hj, hje⟩ := List.getElem_of_mem (valOf_mem hk z)
  have hu : ∀ i (hi : i < l.length), l[i].1 = k → i = j := fun i hi h => by
    have h1 : (l.map Prod.fst)[i]'(by simpa using hi) = (l.map Prod.fst)[j]'(by simpa using hj) := by simp [h, hje]
    exact (List.getElem_inj hn).1 h1
  refine ⟨j, by rw [List.getElem?_eq_getElem hj, hje], fun i hij x hx hxk => ?_, ?_⟩
  · obtain ⟨hi, rfl⟩ := List.getElem?_eq_some_iff.1 hx
    have := hu i hi hxk; omega
  · unfold del
    have hs : l = l.take j ++ l[j] :: l.drop (j + 1) := by rw [← List.drop_eq_getElem_cons hj, List.take_append_drop]
    rw [List.eraseIdx_eq_take_drop_succ]
    conv => rhs; rw [hs]
    rw [List.filter_append, List.filter_cons_of_neg (by simp [hje])]
    rw [List.filter_eq_self.2, List.filter_eq_self.2]
    · intro x hx
      obtain ⟨i, hi, rfl⟩ := List.getElem_of_mem hx
      simp only [List.getElem_drop, ne_eq, decide_not, Bool.not_eq_true', decide_eq_false_iff_not]
      intro h; have := hu _ _ h; omega
    · intro x hx
      obtain ⟨i, hi, rfl⟩ := List.getElem_of_mem hx
      simp only [List.getElem_take, ne_eq, decide_not, Bool.not_eq_true', decide_eq_false_iff_not]
      intro h; have := hu _ _ h; simp at hi; omega

theorem no_place {κ ν : Type} {l : List (κ × ν)} {k : κ} (hk : k ∉ l.map Prod.fst) : ∀ i, i < l.length → ∀ x, l[i]? = some x → x.1 ≠ k := fun i _ x hx e =>
  hk (by rw [← e]; exact List.mem_map_of_mem (List.mem_of_getElem? hx))

theorem r14_get_c {w : World} {G : Nat → Prop} {q : Nat} {room : Int} {l : List (ByteArray × Int)} (k : ByteArray) (h : R14 w G q room l) (hn : (l.map Prod.fst).Nodup) (hl : l.length ≤ 1000) :
    Calls Try.prog 19 #[.pointer (some ⟨q, 0, none⟩), .string k] w fun e w' => e = .returned (.tuple #[.int .i64 (if has l k then valOf l k 0 else 0), .bool (has l k)]) ∧
      ∃ G', R14 w' G' q room (getS l k 0) ∧ (∀ b, G' b → fresh G w w' b) ∧ Ch G w w' := by
  unfold getS use
  cases hh : has l k with
  | true =>
    obtain ⟨j, hj, hne, he⟩ := place_of (0 : Int) hn (has_iff.1 hh)
    rw [← he]
    exact r14_get_hit h hl hj hne
  | false =>
    refine (r14_get_miss h hl (no_place (has_false.1 hh))).mono fun e w' ⟨h1, h2⟩ => ?_
    subst h2
    exact ⟨h1, G, h, fun b hb => Or.inl hb, Ch.refl _ _⟩

theorem r14_drop_c {w : World} {G : Nat → Prop} {q : Nat} {room : Int} {l : List (ByteArray × Int)} (k : ByteArray) (h : R14 w G q room l) (hn : (l.map Prod.fst).Nodup) (hl : l.length ≤ 1000) :
    Calls Try.prog 23 #[.pointer (some ⟨q, 0, none⟩), .string k] w fun e w' => e = .returned (.bool (has l k)) ∧
      ∃ G', R14 w' G' q room (del l k) ∧ (∀ b, G' b → fresh G w w' b) ∧ Ch G w w' := by
  cases hh : has l k with
  | true =>
    obtain ⟨j, hj, hne, he⟩ := place_of (0 : Int) hn (has_iff.1 hh)
    rw [← he]
    exact (r14_drop_hit h hl hj hne).mono fun e w' ⟨h1, h2, h3⟩ => ⟨h1, _, h2, fun b hb => hb, h3⟩
  | false =>
    rw [del_none (has_false.1 hh)]
    refine (r14_drop_miss h hl (no_place (has_false.1 hh))).mono fun e w' ⟨h1, h2⟩ => ?_
    subst h2
    exact ⟨h1, G, h, fun b hb => Or.inl hb, Ch.refl _ _⟩

theorem r14_put_c {w : World} {G : Nat → Prop} {q : Nat} {room : Int} {l : List (ByteArray × Int)} (k : ByteArray) (v : Int) (h : R14 w G q room l) (hn : (l.map Prod.fst).Nodup) (hl : l.length ≤ 1000) (h1 : 1 ≤ room) (hr : (l.length : Int) ≤ room) :
    Calls Try.prog 21 #[.pointer (some ⟨q, 0, none⟩), .string k, .int .i64 v] w fun e w' => e = .returned (.tuple #[.string (goneK room l k ⟨#[]⟩), .bool (goes room l k)]) ∧
      ∃ G', R14 w' G' q room (putS room l k v) ∧ (∀ b, G' b → fresh G w w' b) ∧ Ch G w w' := by
  unfold putS goneK goes use
  cases hh : has l k with
  | true =>
    obtain ⟨j, hj, hne, he⟩ := place_of (0 : Int) hn (has_iff.1 hh)
    rw [← he]
    exact r14_put_hit h hl hj hne
  | false =>
    by_cases hf : (l.length : Int) = room
    · cases l with
      | nil => simp at hf; omega
      | cons x r =>
        have := r14_put_full (k := k) (v := v) h hl (no_place (has_false.1 hh)) rfl hf
        have hd : decide (room ≤ ((x :: r).length : Int)) = true := by rw [hf]; simp
        rw [hd]
        exact this
    · have := r14_put_new (k := k) (v := v) h hl (no_place (has_false.1 hh)) hf
      have hd : decide (room ≤ (l.length : Int)) = false := decide_eq_false (by omega)
      rw [hd]
      exact this

/-- The list and its reference, side by side, each in blocks of its own, all of them new since block B. -/
def Two (B : Nat) (w0 w : World) (p q : Nat) (R : Int) (l m : List (ByteArray × Int)) : Prop :=
  ∃ F G, SI.Is w F p R l ∧ R14 w G q R m ∧ (∀ b, F b → ¬ G b) ∧ (∀ b, F b → B ≤ b) ∧ (∀ b, G b → B ≤ b) ∧ Below B w0 w ∧ B ≤ w.heap.size

theorem Two.nodup {B : Nat} {w0 w : World} {p q : Nat} {R : Int} {l m : List (ByteArray × Int)} (h : Two B w0 w p q R l m) : (l.map Prod.fst).Nodup := by
  obtain ⟨F, G, h1, _⟩ := h; exact h1.nodup
theorem Two.pos {B : Nat} {w0 w : World} {p q : Nat} {R : Int} {l m : List (ByteArray × Int)} (h : Two B w0 w p q R l m) : 1 ≤ R := by
  obtain ⟨F, G, h1, _⟩ := h; exact h1.room_pos
theorem Two.size {B : Nat} {w0 w : World} {p q : Nat} {R : Int} {l m : List (ByteArray × Int)} (h : Two B w0 w p q R l m) : B ≤ w.heap.size := by
  obtain ⟨F, G, _, _, _, _, _, _, h1⟩ := h; exact h1
theorem Two.below {B : Nat} {w0 w : World} {p q : Nat} {R : Int} {l m : List (ByteArray × Int)} (h : Two B w0 w p q R l m) : Below B w0 w := by
  obtain ⟨F, G, _, _, _, _, _, h1, _⟩ := h; exact h1

theorem Two.later {B : Nat} {w0 w w' : World} {p q : Nat} {R : Int} {l m : List (ByteArray × Int)} (h : Two B w0 w p q R l m) (hb : Below w.heap.size w w') : Two B w0 w' p q R l m := by
  obtain ⟨F, G, h1, h2, hd, hF, hG, hw, hs⟩ := h
  exact ⟨F, G, h1.below hb, h2.kept (Ch.of_below hb) (fun b hb' hge => by have := h2.lt b hb'; omega), hd, hF, hG, hw.trans (hb.mono hs), Nat.le_trans hs hb.size⟩

theorem Two.drewN {B : Nat} {w0 w : World} {p q : Nat} {R : Int} {l m : List (ByteArray × Int)} (h : Two B w0 w p q R l m) (n : Nat) : Two B w0 (w.drewN n) p q R l m :=
  h.later (below_drewN (Below.refl _ _) n)

/-- Both, with the sets of their blocks named. -/
structure TwoAt (B : Nat) (w0 w : World) (p q : Nat) (R : Int) (l m : List (ByteArray × Int)) (F G : Nat → Prop) : Prop where
  list : SI.Is w F p R l
  ref : R14 w G q R m
  apart : ∀ b, F b → ¬ G b
  own : ∀ b, F b → B ≤ b
  own' : ∀ b, G b → B ≤ b
  below : Below B w0 w
  size : B ≤ w.heap.size

theorem TwoAt.two {B : Nat} {w0 w : World} {p q : Nat} {R : Int} {l m : List (ByteArray × Int)} {F G : Nat → Prop} (h : TwoAt B w0 w p q R l m F G) : Two B w0 w p q R l m :=
  ⟨F, G, h.list, h.ref, h.apart, h.own, h.own', h.below, h.size⟩
theorem Two.at {B : Nat} {w0 w : World} {p q : Nat} {R : Int} {l m : List (ByteArray × Int)} (h : Two B w0 w p q R l m) : ∃ F G, TwoAt B w0 w p q R l m F G := by
  obtain ⟨F, G, h1, h2, h3, h4, h5, h6, h7⟩ := h; exact ⟨F, G, h1, h2, h3, h4, h5, h6, h7⟩

/-- A call on the list. -/
theorem TwoAt.left {B : Nat} {w0 w w' : World} {p q : Nat} {R : Int} {l l' m : List (ByteArray × Int)} {F F' G : Nat → Prop} (h : TwoAt B w0 w p q R l m F G)
    (h3 : SI.Is w' F' p R l') (hF' : ∀ b, F' b → F b ∨ w.heap.size ≤ b) (hch : Ch F w w') : Two B w0 w' p q R l' m := by
  obtain ⟨h1, h2, hd, hF, hG, hw, hs⟩ := h
  refine ⟨F', G, h3, h2.kept hch (fun b hg hf => hd b hf hg), fun b hf hg => ?_, fun b hf => ?_, hG, ?_, Nat.le_trans hs hch.size⟩
  · rcases hF' b hf with h | h
    · exact hd b h hg
    · have := h2.lt b hg; omega
  · rcases hF' b hf with h | h
    · exact hF b h
    · omega
  · exact hw.trans (hch.below hs (fun b hb hf => by have := hF b hf; omega))

/-- A call on the reference. -/
theorem TwoAt.right {B : Nat} {w0 w w' : World} {p q : Nat} {R : Int} {l m m' : List (ByteArray × Int)} {F G G' : Nat → Prop} (h : TwoAt B w0 w p q R l m F G)
    (h3 : R14 w' G' q R m') (hG' : ∀ b, G' b → fresh G w w' b) (hch : Ch G w w') : Two B w0 w' p q R l m' := by
  obtain ⟨h1, h2, hd, hF, hG, hw, hs⟩ := h
  refine ⟨F, G', h1.kept hch hd, h3, fun b hf hg => ?_, hF, fun b hg => ?_, ?_, Nat.le_trans hs hch.size⟩
  · rcases hG' b hg with h | h
    · exact hd b hf h
    · have := h1.lt b hf; omega
  · rcases hG' b hg with h | h
    · exact hG b h
    · omega
  · exact hw.trans (hch.below hs (fun b hb hg => by have := hG b hg; omega))

variable {B : Nat} {w0 w : World} {p q : Nat} {R : Int} {l m : List (ByteArray × Int)}

theorem two_get (h : Two B w0 w p q R l m) (k : ByteArray) (hok : KS.ok k) :
    Calls Try.prog 18 #[.pointer (some ⟨p, 0, none⟩), .string k] w fun e w' => e = .returned (.tuple #[.int .i64 (if has l k then valOf l k 0 else 0), .bool (has l k)]) ∧ Two B w0 w' p q R (getS l k 0) m := by
  obtain ⟨F, G, h⟩ := h.at
  exact (SI.get_c h.list hok).mono fun e w' ⟨h1, h2, h3⟩ => ⟨h1, h.left h2 (fun _ => Or.inl) h3⟩
theorem two_drop (h : Two B w0 w p q R l m) (k : ByteArray) (hok : KS.ok k) :
    Calls Try.prog 22 #[.pointer (some ⟨p, 0, none⟩), .string k] w fun e w' => e = .returned (.bool (has l k)) ∧ Two B w0 w' p q R (del l k) m := by
  obtain ⟨F, G, h⟩ := h.at
  exact (SI.drop_c h.list hok).mono fun e w' ⟨h1, h2, h3⟩ => ⟨h1, h.left h2 (fun _ => Or.inl) h3⟩
theorem two_put (h : Two B w0 w p q R l m) (k : ByteArray) (v : Int) (hok : KS.ok k) :
    Calls Try.prog 20 #[.pointer (some ⟨p, 0, none⟩), .string k, .int .i64 v] w fun e w' => e = .returned (.tuple #[.string (goneK R l k ⟨#[]⟩), .bool (goes R l k)]) ∧ Two B w0 w' p q R (putS R l k v) m := by
  obtain ⟨F, G, h⟩ := h.at
  exact (SI.put_c h.list hok).mono fun e w' ⟨h1, n, hn, h2, h3⟩ => ⟨h1, h.left h2 (fun b hb => by rcases hb with hb | hb; exact Or.inl hb; exact Or.inr (by omega)) h3⟩
theorem two_get' (h : Two B w0 w p q R l m) (k : ByteArray) (hn : (m.map Prod.fst).Nodup) (hl : m.length ≤ 1000) :
    Calls Try.prog 19 #[.pointer (some ⟨q, 0, none⟩), .string k] w fun e w' => e = .returned (.tuple #[.int .i64 (if has m k then valOf m k 0 else 0), .bool (has m k)]) ∧ Two B w0 w' p q R l (getS m k 0) := by
  obtain ⟨F, G, h⟩ := h.at
  exact (r14_get_c k h.ref hn hl).mono fun e w' ⟨h1, G', h2, h3, h4⟩ => ⟨h1, h.right h2 h3 h4⟩
theorem two_drop' (h : Two B w0 w p q R l m) (k : ByteArray) (hn : (m.map Prod.fst).Nodup) (hl : m.length ≤ 1000) :
    Calls Try.prog 23 #[.pointer (some ⟨q, 0, none⟩), .string k] w fun e w' => e = .returned (.bool (has m k)) ∧ Two B w0 w' p q R l (del m k) := by
  obtain ⟨F, G, h⟩ := h.at
  exact (r14_drop_c k h.ref hn hl).mono fun e w' ⟨h1, G', h2, h3, h4⟩ => ⟨h1, h.right h2 h3 h4⟩
theorem two_put' (h : Two B w0 w p q R l m) (k : ByteArray) (v : Int) (hn : (m.map Prod.fst).Nodup) (hl : m.length ≤ 1000) (hr : (m.length : Int) ≤ R) :
    Calls Try.prog 21 #[.pointer (some ⟨q, 0, none⟩), .string k, .int .i64 v] w fun e w' => e = .returned (.tuple #[.string (goneK R m k ⟨#[]⟩), .bool (goes R m k)]) ∧ Two B w0 w' p q R l (putS R m k v) := by
  have hp := h.pos
  obtain ⟨F, G, h⟩ := h.at
  exact (r14_put_c k v h.ref hn hl hp hr).mono fun e w' ⟨h1, G', h2, h3, h4⟩ => ⟨h1, h.right h2 h3 h4⟩

/-- Both made. -/
theorem two_new (room : Int) (w : World) :
    Calls Try.prog 16 #[.int .i64 room] w fun e w1 => e = .returned (.pointer (some ⟨w.heap.size + 1, 0, none⟩)) ∧
      Calls Try.prog 17 #[.int .i64 room] w1 fun e w' => ∃ q, e = .returned (.pointer (some ⟨q, 0, none⟩)) ∧ Two w.heap.size w w' (w.heap.size + 1) q (max 1 room) [] [] := by
  refine (SI.new_c room w).mono fun e w1 ⟨h1, h2, h3⟩ => ⟨h1, ?_⟩
  refine (r14_new room w1).mono fun e w' ⟨h4, h5, h6⟩ => ⟨_, h4, ?_⟩
  have hs := h3.size
  refine ⟨_, _, h2.below h6, h5, fun b hb hg => ?_, fun b hb => ?_, fun b hb => ?_, h3.trans (h6.mono hs), Nat.le_trans hs h6.size⟩
  · have := h2.lt b hb; omega
  · rcases hb with h | h <;> omega
  · omega

theorem Two.len_c (h : Two B w0 w p q R l m) : Calls Try.prog 25 #[.pointer (some ⟨p, 0, none⟩)] w fun e w' => e = .returned (.int .i64 l.length) ∧ w = w' := by
  obtain ⟨F, G, h⟩ := h.at
  exact SI.len_c h.list
theorem Two.keys_c (h : Two B w0 w p q R l m) (hl : l.length ≤ 1000) :
    Calls Try.prog 24 #[.pointer (some ⟨p, 0, none⟩)] w fun e w' => e = .returned (.slice (some ⟨w.heap.size, 0, none⟩) l.length l.length) ∧
      w'.ownsRow w.heap.size 9 1 (.slice (some ⟨w.heap.size, 0, none⟩) l.length l.length) l.length (l.map fun x => .string x.1) ∧ Below w.heap.size w w' := by
  obtain ⟨F, G, h⟩ := h.at
  exact SI.keys_c h.list hl

/-- The row of the reference's keys, and its length. -/
theorem Two.keys (h : Two B w0 w p q R l m) : ∃ ao cap, w.cell? ⟨q, 1, none⟩ = some (.slice ao m.length cap) ∧
    (0 < m.length → ∃ g, ao = some ⟨g, 0, none⟩ ∧ g < w.heap.size ∧ ∀ j, j < m.length → w.cell? ⟨g, j, none⟩ = (m.map fun x => Value.string x.1)[j]?) ∧ q < w.heap.size := by
  obtain ⟨F, G, h⟩ := h.at
  obtain ⟨vk, vv, c0, c1, c2, o1, o2, fz, gq, gk, gv, gkv, hlt⟩ := h.ref
  obtain ⟨ao, cap, rfl, hc⟩ := owned_shape o1
  refine ⟨ao, cap, c1, fun h0 => ?_, hlt q gq⟩
  obtain ⟨g, rfl, hg⟩ := hc h0
  exact ⟨g, rfl, hlt g (gk g rfl).1, fun j hj => hg j (by omega)⟩

end Go.Proofs.Ytnnaidladcdbdaa
