/- The contracts of the reference of chapter 14: New, find, cut, Get, Put, Drop: what each makes of its two rows. -/
import Derived.Test.YtnnaidladcdbdaaRefCut
namespace Go.Proofs.Ytnnaidladcdbdaa
open Go.RowKit Go.ChangeMaps

/-- The shape of an owned slice. -/
theorem owned_shape {w : World} {base : Nat} {e : TypeId} {size n : Nat} {v : Value} {xs : List Value} (h : w.ownsRow base e size v n xs) :
    ∃ ao cap, v = .slice ao n cap ∧ (0 < n → ∃ g, ao = some ⟨g, 0, none⟩ ∧ ∀ j, j < n * size → w.cell? ⟨g, j, none⟩ = xs[j]?) := by
  rcases h.2 with ⟨hv, hn⟩ | ⟨g, cap, cur, hv, _, hg, _⟩
  · exact ⟨none, 0, by rw [hv, hn], fun h0 => by omega⟩
  · refine ⟨some ⟨g, 0, none⟩, cap, hv, fun _ => ⟨g, rfl, fun j hj => ?_⟩⟩
    subst hv
    exact h.cellAt j hj

/-- The reference's list at block q: room, keys and values in two rows of their own. -/
def R14 (w : World) (G : Nat → Prop) (q : Nat) (room : Int) (l : List (ByteArray × Int)) : Prop :=
  ∃ vk vv, w.cell? ⟨q, 0, none⟩ = some (.int .i64 room) ∧ w.cell? ⟨q, 1, none⟩ = some vk ∧ w.cell? ⟨q, 2, none⟩ = some vv ∧
    w.ownsRow 0 9 1 vk l.length (l.map fun x => .string x.1) ∧ w.ownsRow 0 3 1 vv l.length (l.map fun x => .int .i64 x.2) ∧ (∀ o, w.frozen? ⟨q, o, none⟩ = false) ∧
    G q ∧ (∀ b, vk.ownBlock = some b → G b ∧ b ≠ q) ∧ (∀ b, vv.ownBlock = some b → G b ∧ b ≠ q) ∧ (∀ b, vk.ownBlock = some b → vv.ownBlock ≠ some b) ∧ ∀ b, G b → b < w.heap.size

theorem R14.lt {w : World} {G : Nat → Prop} {q : Nat} {room : Int} {l : List (ByteArray × Int)} (h : R14 w G q room l) : ∀ b, G b → b < w.heap.size := by
  obtain ⟨_, _, _, _, _, _, _, _, _, _, _, _, h⟩ := h; exact h

theorem R14.kept {w w' : World} {G F : Nat → Prop} {q : Nat} {room : Int} {l : List (ByteArray × Int)} (h : R14 w G q room l) (hc : Ch F w w') (hGF : ∀ b, G b → ¬ F b) : R14 w' G q room l := by
  obtain ⟨vk, vv, c0, c1, c2, o1, o2, fz, gq, gk, gv, gkv, hlt⟩ := h
  have hb : ∀ b, G b → w'.heap[b]? = w.heap[b]? := fun b hb => hc.block b (hlt b hb) (hGF b hb)
  have hcell : ∀ o, w'.cell? ⟨q, o, none⟩ = w.cell? ⟨q, o, none⟩ := fun o => World.cell?_of_block (w := w) (hb q gq)
  exact ⟨vk, vv, by rw [hcell]; exact c0, by rw [hcell]; exact c1, by rw [hcell]; exact c2, owned_kept o1 (fun b h => hb b (gk b h).1), owned_kept o2 (fun b h => hb b (gv b h).1),
    fun o => (World.frozen?_of_block (w := w) (hb q gq)).trans (fz o), gq, gk, gv, gkv, fun b h => Nat.lt_of_lt_of_le (hlt b h) hc.size⟩

theorem R14.drewN {w : World} {G : Nat → Prop} {q : Nat} {room : Int} {l : List (ByteArray × Int)} (h : R14 w G q room l) (n : Nat) : R14 (w.drewN n) G q room l :=
  h.kept (F := fun _ => False) ((Ch.refl _ w).drewN n) (fun _ _ h => h)

/-- What a call may have added to a set of blocks. -/
abbrev fresh (G : Nat → Prop) (w w' : World) : Nat → Prop := fun b => G b ∨ (w.heap.size ≤ b ∧ b < w'.heap.size)

theorem fresh_trans {G G' : Nat → Prop} {a b c : World} (h : ∀ x, G' x → fresh G a b x) (h1 : a.heap.size ≤ b.heap.size) (h2 : b.heap.size ≤ c.heap.size) : ∀ x, fresh G' b c x → fresh G a c x := fun x hx => by
  rcases hx with hx | hx
  · rcases h x hx with h | h
    · exact Or.inl h
    · exact Or.inr ⟨h.1, by omega⟩
  · exact Or.inr ⟨by omega, hx.2⟩

theorem r14_cut {w : World} {G : Nat → Prop} {q : Nat} {room : Int} {l : List (ByteArray × Int)} {k : Nat} (h : R14 w G q room l) (hk : k < l.length) (hn : l.length ≤ 1000) :
    Calls Try.prog 58 #[.pointer (some ⟨q, 0, none⟩), .int .i64 k] w fun e w' => e = .returned (.tuple #[]) ∧ R14 w' (fresh G w w') q room (l.eraseIdx k) ∧ Ch G w w' := by
  obtain ⟨vk, vv, c0, c1, c2, o1, o2, fz, gq, gk, gv, gkv, hlt⟩ := h
  obtain ⟨gk', ck, rfl, _, _⟩ := o1.form (by omega)
  obtain ⟨gv', cv, rfl, _, _⟩ := o2.form (by omega)
  have oneS : ∀ u ∈ l.map (fun x => Value.string x.1), u.oneCell' = true := fun u hu => by obtain ⟨x, _, rfl⟩ := List.mem_map.1 hu; rfl
  have oneI : ∀ u ∈ l.map (fun x => Value.int .i64 x.2), u.oneCell' = true := fun u hu => by obtain ⟨x, _, rfl⟩ := List.mem_map.1 hu; rfl
  refine (r14_cut_a q gk' gv' l.length ck cv k _ _ w c1 c2 fz o1 o2 hk hn (gk gk' rfl).2 (gv gv' rfl).2 oneS oneI).mono ?_
  rintro e w' ⟨he, wc, ⟨g1, cap1, d1, r1, a1, b1, ch1, cl1, fl1⟩, ⟨g2, cap2, d2, r2, a2, b2, ch2, cl2, fl2⟩⟩
  have lq := hlt q gq
  have hlen : (l.eraseIdx k).length = l.length - 1 := by rw [List.length_eraseIdx]; simp [hk]
  have hs1 := ch1.size
  have hs2 := ch2.size
  have e1 : (l.map fun x => Value.string x.1).take (k * 1) ++ (l.map fun x => Value.string x.1).drop ((k + 1) * 1) = (l.eraseIdx k).map fun x => Value.string x.1 := by
    rw [List.eraseIdx_eq_take_drop_succ]; simp
  have e2 : (l.map fun x => Value.int .i64 x.2).take (k * 1) ++ (l.map fun x => Value.int .i64 x.2).drop ((k + 1) * 1) = (l.eraseIdx k).map fun x => Value.int .i64 x.2 := by
    rw [List.eraseIdx_eq_take_drop_succ]; simp
  rw [e1] at r1
  rw [e2] at r2
  have hG : ∀ b, b = q → G b := fun b h => by rw [h]; exact gq
  refine ⟨he, ⟨_, _, by rw [cl2 0 (by omega), cl1 0 (by omega)]; exact c0, by rw [cl2 1 (by omega)]; exact d1, d2, ?_, by rw [hlen]; exact r2, fun o => by rw [fl2, fl1]; exact fz o, Or.inl gq, ?_, ?_, ?_, ?_⟩, ?_⟩
  · rw [hlen]
    exact owned_kept r1 (fun b hb => ch2.block b (by cases hb; exact b1) (by cases hb; simp only; omega))
  · intro b hb; cases hb; exact ⟨Or.inr ⟨a1, by simp only; omega⟩, by simp only; omega⟩
  · intro b hb; cases hb; exact ⟨Or.inr ⟨by simp only; omega, b2⟩, by simp only; omega⟩
  · intro b hb; cases hb; simp only [Value.ownBlock, ne_eq, Option.some.injEq]; omega
  · intro b hb
    rcases hb with hb | hb
    · have := hlt b hb; omega
    · exact hb.2
  · exact (ch1.mono (fun b _ h => hG b h)).trans (ch2.mono (fun b _ h => hG b h)) (fun _ _ h => h)

theorem toList_inj {a b : ByteArray} (h : a.toList = b.toList) : a = b := by
  rw [ByteArray.toList_eq, ByteArray.toList_eq] at h
  exact ByteArray.ext (Array.toList_inj.mp h)

/-- A place, or -1. -/
def placeOf (j n : Nat) : Int := if j < n then (j : Int) else -1
theorem placeOf_lt {j n : Nat} (h : j < n) : placeOf j n = j := if_pos h
theorem placeOf_ge {j n : Nat} (h : ¬ j < n) : placeOf j n = -1 := if_neg h

set_option maxRecDepth 100000 in
set_option maxHeartbeats 1000000 in
theorem r14_find_a (q n cap : Nat) (ao : Option Addr) (l : List (ByteArray × Int)) (k : ByteArray) (j : Nat) (w : World) (c1 : w.cell? ⟨q, 1, none⟩ = some (.slice ao n cap))
    (hcell : 0 < n → ∃ g, ao = some ⟨g, 0, none⟩ ∧ ∀ j, j < n * 1 → w.cell? ⟨g, j, none⟩ = (l.map fun x => Value.string x.1)[j]?) (hl : l.length = n) (hn : n ≤ 1000)
    (hj : j ≤ n) (hne : ∀ i, i < j → ∀ x, l[i]? = some x → x.1 ≠ k) (hat : ∀ x, l[j]? = some x → x.1 = k) :
    Calls Try.prog 57 #[.pointer (some ⟨q, 0, none⟩), .string k] w fun e w' => e = .returned (.int .i64 (placeOf j n)) ∧ w = w' := by
  have HC := Lib.hid hcell
  have HN := Lib.hid hne
  have HA := Lib.hid hat
  have HL := Lib.hid hl
  clear hcell hne hat hl
  go_enter Try.func57, Try.ntmps57
  go_wp2
  go_loop [5] (fun i => ∃ k : Nat, i = .int .i64 k ∧ k ≤ j) (fun i => j - (intOf i).toNat)
  case atStart => exact ⟨0, rfl, by omega⟩
  case round =>
    obtain ⟨i, rfl, hi⟩ := hrel
    by_cases hlt : i < n
    · obtain ⟨x, hx⟩ : ∃ x, l[i]? = some x := ⟨_, List.getElem?_eq_getElem (by rw [HL.out]; exact hlt)⟩
      obtain ⟨g, ha, hcs⟩ := HC.out (by omega)
      have hc := hcs i (by omega)
      rw [List.getElem?_map, hx] at hc
      simp only [Option.map_some] at hc
      have HX := Lib.hid hx
      clear hcs hx
      by_cases hij : i < j
      · have hxk : (x.1.toList == k.toList) = false := beq_eq_false_iff_ne.2 (fun h => HN.out i hij x HX.out (toList_inj h))
        go_wp2
        exact ⟨⟨i + 1, by go_num, by omega⟩, by simp [intOf]; omega⟩
      · obtain rfl : i = j := by omega
        have hxk : (x.1.toList == k.toList) = true := by rw [HA.out x HX.out]; simp
        go_wp2
        go_ret
        exact ⟨by rw [placeOf_lt hlt]; rfl, rfl⟩
    · obtain rfl : j = i := by omega
      go_wp2
      go_ret
      exact ⟨by rw [placeOf_ge hlt]; rfl, rfl⟩

/-- The two rows apart: keys and values may be of different number (between two stores). -/
def RR (w : World) (G : Nat → Prop) (q : Nat) (room : Int) (ks : List ByteArray) (vs : List Int) : Prop :=
  ∃ vk vv, w.cell? ⟨q, 0, none⟩ = some (.int .i64 room) ∧ w.cell? ⟨q, 1, none⟩ = some vk ∧ w.cell? ⟨q, 2, none⟩ = some vv ∧
    w.ownsRow 0 9 1 vk ks.length (ks.map .string) ∧ w.ownsRow 0 3 1 vv vs.length (vs.map (.int .i64)) ∧ (∀ o, w.frozen? ⟨q, o, none⟩ = false) ∧
    G q ∧ (∀ b, vk.ownBlock = some b → G b ∧ b ≠ q) ∧ (∀ b, vv.ownBlock = some b → G b ∧ b ≠ q) ∧ (∀ b, vk.ownBlock = some b → vv.ownBlock ≠ some b) ∧ ∀ b, G b → b < w.heap.size

theorem r14_iff {w : World} {G : Nat → Prop} {q : Nat} {room : Int} {l : List (ByteArray × Int)} : R14 w G q room l ↔ RR w G q room (l.map Prod.fst) (l.map Prod.snd) := by
  unfold R14 RR
  simp only [List.length_map, List.map_map]
  exact Iff.rfl

/-- What an append of one key and the store behind it need, and leave. -/
theorem RR.key {w : World} {G : Nat → Prop} {q : Nat} {room : Int} {ks : List ByteArray} {vs : List Int} (h : RR w G q room ks vs) (k : ByteArray) :
    ∃ vk, w.cell? ⟨q, 1, none⟩ = some vk ∧ (w.alloc (.cells #[.string k] 9)).ownsRow 0 9 1 vk ks.length (ks.map .string) ∧
      ∀ g cap w1, w1.ownsRow 0 9 1 (.slice (some ⟨g, 0, none⟩) (ks.length + 1) cap) (ks.length + 1) (ks.map .string ++ [.string k]) → (w.alloc (.cells #[.string k] 9)).grownBy w1 vk.ownBlock → (vk.ownBlock = some g ∨ g = w.heap.size + 1) → g < w1.heap.size →
        (∃ v, w1.cell? ⟨q, 1, none⟩ = some v) ∧ w1.frozen? ⟨q, 1, none⟩ = false ∧
        RR (w1.setCell ⟨q, 1, none⟩ (.slice (some ⟨g, 0, none⟩) (ks.length + 1) cap)) (fresh G w w1) q room (ks ++ [k]) vs ∧ Ch G w (w1.setCell ⟨q, 1, none⟩ (.slice (some ⟨g, 0, none⟩) (ks.length + 1) cap)) := by
  obtain ⟨vk, vv, c0, c1, c2, o1, o2, fz, gq, gk, gv, gkv, hlt⟩ := h
  refine ⟨vk, c1, o1.alloc _, fun g cap w1 hown hgrow hat hg => ?_⟩
  have lq := hlt q gq
  have hs := hgrow.size
  rw [World.size_alloc] at hs
  have hch : Ch (fun b => vk.ownBlock = some b) w w1 := ((Ch.refl _ w).alloc _).grown hgrow (fun k hk _ => hk)
  have hqk : vk.ownBlock ≠ some q := fun e => (gk q e).2 rfl
  have hgq : g ≠ q := by
    rcases hat with e | e
    · exact (gk g e).2
    · omega
  have hc : ∀ o, w1.cell? ⟨q, o, none⟩ = w.cell? ⟨q, o, none⟩ := fun o => hch.cell (p := ⟨q, o, none⟩) lq hqk
  have hf : ∀ o, w1.frozen? ⟨q, o, none⟩ = w.frozen? ⟨q, o, none⟩ := fun o => hch.frozen (p := ⟨q, o, none⟩) lq hqk
  have hG : ∀ b, vk.ownBlock = some b → G b := fun b h => (gk b h).1
  refine ⟨⟨vk, by rw [hc]; exact c1⟩, by rw [hf]; exact fz 1, ⟨_, vv, ?_, World.cell?_setCell_same _ _ _ (u := vk) (by rw [hc]; exact c1), ?_, ?_, ?_, fun o => by rw [World.frozen?_setCell, hf]; exact fz o, Or.inl gq, ?_, ?_, ?_, ?_⟩, ?_⟩
  · rw [World.cell?_setCell_other _ _ _ _ (by intro e; injection e with _ e; cases e), hc]; exact c0
  · rw [World.cell?_setCell_other _ _ _ _ (by intro e; injection e with _ e; cases e), hc]; exact c2
  · have : (ks ++ [k]).length = ks.length + 1 := by simp
    rw [this, List.map_append]
    exact owned_kept hown (fun b hb => by cases hb; exact Below.heap_setCell _ _ _ _ hgq)
  · refine owned_kept o2 (fun b hb => ?_)
    rw [Below.heap_setCell _ _ _ _ (gv b hb).2]
    exact hch.block b (hlt b (gv b hb).1) (fun e => gkv b e hb)
  · intro b hb; cases hb
    refine ⟨?_, hgq⟩
    rcases hat with e | e
    · exact Or.inl (gk g e).1
    · exact Or.inr ⟨by simp only; omega, hg⟩
  · intro b hb; exact ⟨Or.inl (gv b hb).1, (gv b hb).2⟩
  · intro b hb; cases hb
    intro e
    rcases hat with e' | e'
    · exact gkv g e' e
    · have := hlt g (gv g e).1; omega
  · intro b hb
    rw [World.size_setCell]
    rcases hb with hb | hb
    · have := hlt b hb; omega
    · exact hb.2
  · exact (hch.mono (fun b _ h => hG b h)).setCell (fun _ => gq) _

/-- What an append of one value and the store behind it need, and leave. -/
theorem RR.val {w : World} {G : Nat → Prop} {q : Nat} {room : Int} {ks : List ByteArray} {vs : List Int} (h : RR w G q room ks vs) (v : Int) :
    ∃ vv, w.cell? ⟨q, 2, none⟩ = some vv ∧ (w.alloc (.cells #[.int .i64 v] 3)).ownsRow 0 3 1 vv vs.length (vs.map (.int .i64)) ∧
      ∀ g cap w1, w1.ownsRow 0 3 1 (.slice (some ⟨g, 0, none⟩) (vs.length + 1) cap) (vs.length + 1) (vs.map (.int .i64) ++ [.int .i64 v]) → (w.alloc (.cells #[.int .i64 v] 3)).grownBy w1 vv.ownBlock → (vv.ownBlock = some g ∨ g = w.heap.size + 1) → g < w1.heap.size →
        (∃ v, w1.cell? ⟨q, 2, none⟩ = some v) ∧ w1.frozen? ⟨q, 2, none⟩ = false ∧
        RR (w1.setCell ⟨q, 2, none⟩ (.slice (some ⟨g, 0, none⟩) (vs.length + 1) cap)) (fresh G w w1) q room ks (vs ++ [v]) ∧ Ch G w (w1.setCell ⟨q, 2, none⟩ (.slice (some ⟨g, 0, none⟩) (vs.length + 1) cap)) := by
  obtain ⟨vk, vv, c0, c1, c2, o1, o2, fz, gq, gk, gv, gkv, hlt⟩ := h
  refine ⟨vv, c2, o2.alloc _, fun g cap w1 hown hgrow hat hg => ?_⟩
  have lq := hlt q gq
  have hs := hgrow.size
  rw [World.size_alloc] at hs
  have hch : Ch (fun b => vv.ownBlock = some b) w w1 := ((Ch.refl _ w).alloc _).grown hgrow (fun k hk _ => hk)
  have hqk : vv.ownBlock ≠ some q := fun e => (gv q e).2 rfl
  have hgq : g ≠ q := by
    rcases hat with e | e
    · exact (gv g e).2
    · omega
  have hc : ∀ o, w1.cell? ⟨q, o, none⟩ = w.cell? ⟨q, o, none⟩ := fun o => hch.cell (p := ⟨q, o, none⟩) lq hqk
  have hf : ∀ o, w1.frozen? ⟨q, o, none⟩ = w.frozen? ⟨q, o, none⟩ := fun o => hch.frozen (p := ⟨q, o, none⟩) lq hqk
  have hG : ∀ b, vv.ownBlock = some b → G b := fun b h => (gv b h).1
  refine ⟨⟨vv, by rw [hc]; exact c2⟩, by rw [hf]; exact fz 2, ⟨vk, _, ?_, ?_, World.cell?_setCell_same _ _ _ (u := vv) (by rw [hc]; exact c2), ?_, ?_, fun o => by rw [World.frozen?_setCell, hf]; exact fz o, Or.inl gq, ?_, ?_, ?_, ?_⟩, ?_⟩
  · rw [World.cell?_setCell_other _ _ _ _ (by intro e; injection e with _ e; cases e), hc]; exact c0
  · rw [World.cell?_setCell_other _ _ _ _ (by intro e; injection e with _ e; cases e), hc]; exact c1
  · refine owned_kept o1 (fun b hb => ?_)
    rw [Below.heap_setCell _ _ _ _ (gk b hb).2]
    exact hch.block b (hlt b (gk b hb).1) (fun e => gkv b hb e)
  · have : (vs ++ [v]).length = vs.length + 1 := by simp
    rw [this, List.map_append]
    exact owned_kept hown (fun b hb => by cases hb; exact Below.heap_setCell _ _ _ _ hgq)
  · intro b hb; exact ⟨Or.inl (gk b hb).1, (gk b hb).2⟩
  · intro b hb; cases hb
    refine ⟨?_, hgq⟩
    rcases hat with e | e
    · exact Or.inl (gv g e).1
    · exact Or.inr ⟨by simp only; omega, hg⟩
  · intro b hb e; cases e
    rcases hat with e' | e'
    · exact gkv g hb e'
    · have := hlt g (gk g hb).1; omega
  · intro b hb
    rw [World.size_setCell]
    rcases hb with hb | hb
    · have := hlt b hb; omega
    · exact hb.2
  · exact (hch.mono (fun b _ h => hG b h)).setCell (fun _ => gq) _

end Go.Proofs.Ytnnaidladcdbdaa
