/- shard.Begin (chapter 15). -/
import Derived.Test.YtnnaidladcdbdaaShFl
namespace Go.Proofs.Ytnnaidladcdbdaa
open Go.RowKit Go.ChangeMaps
open KZ (SV sv ZA KK)

variable {w w' : World} {s : ShB} {room : Int} {d d' : List (PK × Option Int)} {rs rs' : List (Int × Option Int × Int)}

/-- A call's own two blocks (a key's cells, a zone's), and that all else is as it was but for the shard's blocks. -/
structure Mine (s : ShB) (w : World) (k : PK) (wx : World) : Prop where
  k0 : wx.cell? ⟨w.heap.size, 0, none⟩ = some (.int .i64 k.1)
  k1 : wx.cell? ⟨w.heap.size, 1, none⟩ = some (.string k.2)
  zt : wx.there (w.heap.size + 1) 0 21
  ch : Ch s.all w wx
  sz : w.heap.size + 2 ≤ wx.heap.size

theorem Mine.step {G : Nat → Prop} {k : PK} {wx wy : World} (h : Mine s w k wx) (hlt : ∀ b, s.all b → b < w.heap.size) (hc : Ch G wx wy) (hG : ∀ b, b < wx.heap.size → G b → s.all b ∨ w.heap.size + 2 ≤ b) : Mine s w k wy := by
  have hs := h.sz
  have n0 : ¬ G w.heap.size := fun hb => by
    rcases hG _ (by omega) hb with h | h
    · have := hlt _ h; omega
    · omega
  have n1 : ¬ G (w.heap.size + 1) := fun hb => by
    rcases hG _ (by omega) hb with h | h
    · have := hlt _ h; omega
    · omega
  refine ⟨(hc.cell (p := ⟨w.heap.size, 0, none⟩) (by simp only; omega) n0).trans h.k0, (hc.cell (p := ⟨w.heap.size, 1, none⟩) (by simp only; omega) n0).trans h.k1, hc.there (by omega) n1 h.zt, h.ch.trans hc (fun b hb hg => ?_), Nat.le_trans hs hc.size⟩
  rcases hG b (by have := h.ch.size; omega) hg with h | h
  · exact h
  · omega

open Classical in
/-- The flights without a worker among those that wait, but for those at the keys 'td'. -/
noncomputable def cutB (i : Int) (td : List PK) (y : PK × Fl) : PK × Fl := if y.1 ∈ td then y else (y.1, { y.2 with waits := y.2.waits.filter (· ≠ i) })
theorem cutB_keeps (i : Int) (td : List PK) (y : PK × Fl) : (cutB i td y).1 = y.1 ∧ (cutB i td y).2.bf = y.2.bf ∧ (cutB i td y).2.bw = y.2.bw := by
  unfold cutB; split <;> exact ⟨rfl, rfl, rfl⟩

theorem cutB_all (i : Int) (l : List (PK × Fl)) : l.map (cutB i (l.map Prod.fst)) = l := by
  conv => rhs; rw [← List.map_id l]
  refine List.map_congr_left (fun y hy => ?_)
  unfold cutB
  rw [if_pos (List.mem_map_of_mem (f := Prod.fst) hy)]; rfl

theorem cutB_step (i : Int) (l : List (PK × Fl)) (a c : List PK) (x : PK × Fl) (hx : x.1 ∉ a ++ c) (hu : ∀ y ∈ l, y.1 = x.1 → y = x) :
    (l.map (cutB i (a ++ x.1 :: c))).map (setW x.1 (x.2.waits.filter (· ≠ i))) = l.map (cutB i (a ++ c)) := by
  rw [List.map_map]
  refine List.map_congr_left (fun y hy => ?_)
  simp only [Function.comp]
  by_cases e : y.1 = x.1
  · have hyx := hu y hy e
    subst hyx
    have h1 : cutB i (a ++ y.1 :: c) y = y := by unfold cutB; rw [if_pos (by simp)]
    rw [h1]
    unfold setW cutB
    rw [if_pos rfl, if_neg hx]
  · have h1 : cutB i (a ++ x.1 :: c) y = cutB i (a ++ c) y := by
      unfold cutB
      have : (y.1 ∈ a ++ x.1 :: c) ↔ (y.1 ∈ a ++ c) := by simp [e]
      by_cases hm : y.1 ∈ a ++ c
      · rw [if_pos (this.2 hm), if_pos hm]
      · rw [if_neg (fun h => hm (this.1 h)), if_neg hm]
    rw [h1]
    unfold setW
    rw [if_neg (by rw [(cutB_keeps i (a ++ c) y).1]; exact e)]

theorem filter_wl (l : List Int) (i : Int) : ((wl l).filter fun x => x.1 ≠ i) = wl (l.filter (· ≠ i)) := by
  rw [List.filter_map]; rfl

theorem cutB_end (i : Int) (l : List (PK × Fl)) : l.map (cutB i []) = l.map fun y => (y.1, { y.2 with waits := y.2.waits.filter (· ≠ i) }) :=
  List.map_congr_left (fun y _ => by unfold cutB; rw [if_neg (by simp)])

/-- The flies' map, as pairs. -/
abbrev fl58 (l : List (PK × Fl)) : List (PK × Value) := l.map fun x => (x.1, .pointer (some ⟨x.2.bf, 0, none⟩))

theorem all_cut (s : ShB) (g : PK × Fl → PK × Fl) (hg : ∀ y, (g y).1 = y.1 ∧ (g y).2.bf = y.2.bf ∧ (g y).2.bw = y.2.bw) (rr' : List (Int × SV × Int)) (b : Nat) : ({ s with rr := rr', ff := s.ff.map g } : ShB).all b → s.all b := by
  intro hb
  rcases hb with h | h | h | h | h | ⟨x, hx, h⟩
  · exact Or.inl h
  · exact Or.inr (Or.inl h)
  · exact Or.inr (Or.inr (Or.inl h))
  · exact Or.inr (Or.inr (Or.inr (Or.inl h)))
  · exact Or.inr (Or.inr (Or.inr (Or.inr (Or.inl h))))
  · obtain ⟨y, hy, rfl⟩ := List.mem_map.1 hx
    obtain ⟨-, h2, h3⟩ := hg y
    rw [h2, h3] at h
    exact Or.inr (Or.inr (Or.inr (Or.inr (Or.inr ⟨y, hy, h⟩))))

theorem begin_round {wr w4 : World} {rr' : List (Int × SV × Int)} {i : Int} (hi : KI.ok i) {r : Nat} {todo a c : List (PK × Value)} {x : PK × Value} (hnr : ¬ s.all r) (hks : ∀ y ∈ s.ff, ∀ z ∈ s.ff, z.1 = y.1 → z = y)
    (h4 : ShAt wr { s with rr := rr', ff := s.ff.map (cutB i (todo.map Prod.fst)) } room d rs) (hnd : (todo.map Prod.fst).Nodup) (ht : todo = a ++ x :: c) (hx : x ∈ fl58 s.ff)
    (hr4 : Ranging KP w4 s.mf r (fl58 s.ff) (a ++ c)) (hc4 : Ch (fun y => y = r) wr w4) :
    ∃ y ∈ s.ff, y.1 = x.1 ∧ x.2 = .pointer (some ⟨y.2.bf, 0, none⟩) ∧ w4.cell? ⟨y.2.bf, 1, none⟩ = some (.map (some y.2.bw)) ∧
      ∃ o, (Builtin.delete_ #[133, 3] 0 #[.map (some y.2.bw), .int .i64 i]).run Try.prog w4 = .ok (.tuple #[]) (setBlock w4 y.2.bw o) ∧ Ch (fun b => b = y.2.bw) w4 (setBlock w4 y.2.bw o) ∧
        Ranging KP (setBlock w4 y.2.bw o) s.mf r (fl58 s.ff) (a ++ c) ∧ ((a ++ c).map Prod.fst).Nodup ∧ ShAt (setBlock w4 y.2.bw o) { s with rr := rr', ff := s.ff.map (cutB i ((a ++ c).map Prod.fst)) } room d rs := by
  obtain ⟨y, hy, rfl⟩ := List.mem_map.1 hx
  have hcy : cutB i (todo.map Prod.fst) y = y := by unfold cutB; rw [if_pos (by rw [ht]; simp)]
  have hy4 : y ∈ s.ff.map (cutB i (todo.map Prod.fst)) := List.mem_map.2 ⟨y, hy, hcy⟩
  have h5 := h4.kept hc4 (fun b hb e => hnr (by rw [← e]; exact all_cut s _ (cutB_keeps i _) rr' b hb))
  have hf := h5.each y hy4
  obtain ⟨o, hrun, hm⟩ := hf.waits.del KI Try.underlying133 i hi 0
  have hm' : MapIs KI.val KI.ok (setBlock w4 y.2.bw o) y.2.bw (wl (y.2.waits.filter (· ≠ i))) := by rw [← filter_wl]; exact hm
  have hc : Ch (fun b => b = y.2.bw) w4 (setBlock w4 y.2.bw o) := (Ch.refl (fun b => b = y.2.bw) w4).setBlock (m := y.2.bw) (fun _ => rfl) o
  have hbw : s.all y.2.bw := Or.inr (Or.inr (Or.inr (Or.inr (Or.inr ⟨y, hy, Or.inr rfl⟩))))
  refine ⟨y, hy, rfl, rfl, hf.map, o, hrun, hc, ?_, ?_, ?_⟩
  · exact hr4.kept KP (hc.block _ (hr4.mapIs.lt KP) (fun e => (h5.mf y hy4).2 e.symm)) (hc.block _ (hr4.lt KP) (fun e => hnr (by rw [e]; exact hbw)))
  · rw [ht] at hnd
    rw [List.map_append, List.map_cons] at hnd
    rw [List.map_append]
    exact hnd.sublist (List.Sublist.append_left (List.sublist_cons_self _ _) _)
  · have h6 := h5.setW hy4 hc hm'
    have hnx : y.1 ∉ a.map Prod.fst ++ c.map Prod.fst := by
      rw [ht, List.map_append, List.map_cons] at hnd
      intro hin
      have h1 := List.nodup_append.1 hnd
      rcases List.mem_append.1 hin with h | h
      · exact h1.2.2 _ h _ (by simp) rfl
      · exact (List.nodup_cons.1 h1.2.1).1 h
    have e1 : (s.ff.map (cutB i (todo.map Prod.fst))).map (setW y.1 (y.2.waits.filter (· ≠ i))) = s.ff.map (cutB i ((a ++ c).map Prod.fst)) := by
      rw [ht, List.map_append, List.map_cons, List.map_append]
      exact cutB_step i s.ff _ _ y hnx (hks y hy)
    rw [e1] at h6
    exact h6

/-- What Begin tells of a zone. -/
def beginZ (d : List (PK × Option Int)) (k : PK) : Option Int := if has d k then valOf d k none else none

/-- What Get finds. -/
abbrev gotV (l : List (PK × SV)) (k : PK) : SV := if has l k then valOf l k (none, 0, 0) else (none, 0, 0)

theorem getS_mem {κ ν : Type} [DecidableEq κ] {l : List (κ × ν)} {k : κ} {z : ν} {x : κ × ν} (h : x ∈ getS l k z) : ∃ y ∈ l, x.2 = y.2 := by
  unfold getS at h
  split at h
  · rename_i hh
    unfold use at h
    rcases List.mem_append.1 h with h | h
    · exact ⟨x, (List.mem_filter.1 h).1, rfl⟩
    · simp only [List.mem_singleton] at h
      exact ⟨_, valOf_mem (has_iff.1 hh) z, by rw [h]⟩
  · exact ⟨x, h, rfl⟩

theorem ShAt.got {k : PK} (h : ShAt w s room d rs) (hc : Ch s.F w w') (hd : KZ.Is w' s.F s.pd room (getS s.l k (none, 0, 0))) :
    ShAt w' { s with l := getS s.l k (none, 0, 0) } room (getS d k none) rs ∧ Zn w' (gotV s.l k) (beginZ d k) ∧ (∀ a, (gotV s.l k).1 = some a → s.Z a.block) ∧ has s.l k = has d k := by
  have ht := h.told_kept hc
  refine ⟨h.listed hc hd (fun _ hb => Or.inl hb) (ht.getS k rfl) (fun x hx a ha => ?_), ?_, ?_, ht.has k⟩
  · obtain ⟨y, hy, e⟩ := getS_mem hx
    exact h.zl y hy a (by rw [← e]; exact ha)
  · unfold beginZ
    simp only [gotV, ht.has]
    split
    · exact ht.valOf k rfl
    · rfl
  · intro a ha
    simp only [gotV] at ha
    split at ha
    · rename_i hh
      exact h.zl _ (valOf_mem (has_iff.1 hh) (none, 0, 0)) a ha
    · cases ha

theorem Mine.key {k : PK} {wx : World} (h : Mine s w k wx) : wx.rangeAt w.heap.size 0 [.int .i64 k.1, .string k.2] := fun j v hv => by
  match j, hv with
  | 0, hv => simp at hv; subst hv; exact h.k0
  | 1, hv => simp at hv; subst hv; exact h.k1

/-- What stands behind the look-up: the answer's zone lies in a cell. -/
def BGot (s : ShB) (s4 : ShB) (room : Int) (d : List (PK × Option Int)) (rs : List (Int × Option Int × Int)) (w : World) (k : PK) (b : Value) (t : Value) (wc : World) : Prop :=
  ∃ (g : Nat) (v : SV), b = .pointer (some ⟨g, 0, none⟩) ∧ t = .bool (has d k) ∧ wc.rangeAt g 0 (zc (sv v)) ∧ Zn wc v (beginZ d k) ∧ (∀ a, v.1 = some a → s4.Z a.block) ∧ ShAt wc s4 room (getS d k none) rs ∧ Mine s w k wc ∧ w.heap.size + 2 ≤ g ∧ g < wc.heap.size

theorem BGot.mk {s4 : ShB} {k : PK} {g : Nat} {v : SV} {w6 : World} (hlt : ∀ b, s.all b → b < w.heap.size) (hs4 : ∀ b, s4.all b → s.all b) (h6 : ShAt w6 s4 room (getS d k none) rs) (hz : Zn w6 v (beginZ d k)) (hzl : ∀ a, v.1 = some a → s4.Z a.block)
    (hm : Mine s w k w6) (ht : w6.there g 0 21) (hg : w.heap.size + 2 ≤ g) (hg6 : g < w6.heap.size) : BGot s s4 room d rs w k (.pointer (some ⟨g, 0, none⟩)) (.bool (has d k)) (w6.setCells g 0 (zc (sv v))) := by
  have hc : Ch (fun b => b = g) w6 (w6.setCells g 0 (zc (sv v))) := Ch.setCells (F := fun b => b = g) (fun _ => rfl) _ _ (Ch.refl _ _)
  have nZ : ∀ b, s4.Z b → b ≠ g := fun b hb e => by have := hlt _ (hs4 b (Or.inr (Or.inr (Or.inr (Or.inr (Or.inl hb)))))); omega
  refine ⟨g, v, rfl, rfl, World.rangeAt_setCells_same _ _ _ _ ht, hz.kept hc (fun a ha => nZ _ (hzl a ha)), hzl, h6.kept hc (fun b hb e => by have := hlt _ (hs4 b hb); omega), hm.step hlt hc (fun b _ e => Or.inr (by omega)), hg, by rw [size_setCells]; exact hg6⟩

theorem alloc21 (A : Array Value) (hA : A.size = 21) (w w2 : World) (h : w2 = w.alloc (.cells A 69)) : Ch (fun _ => False) w w2 ∧ w2.there w.heap.size 0 21 ∧ w2.heap.size = w.heap.size + 1 := by
  subst h
  refine ⟨(Ch.refl _ w).alloc _, ?_, by simp⟩
  have := there_new w A 69
  rwa [hA] at this

theorem alloc21d (A : Array Value) (hA : A.size = 21) (w w2 : World) (h : w2 = (w.alloc (.cells A 69)).drew) : Ch (fun _ => False) w w2 ∧ w2.there w.heap.size 0 21 ∧ w2.heap.size = w.heap.size + 1 := by
  obtain ⟨h1, h2, h3⟩ := alloc21 A hA w _ rfl
  subst h
  exact ⟨h1.drew, h2, h3⟩

theorem BGot.c0' {s4 : ShB} {k : PK} {b t : Value} {w6 : World} (h : BGot s s4 room d rs w k b t w6) : w6.cell? ⟨s4.p, 0, none⟩ = some (.pointer (some ⟨s4.pd, 0, none⟩)) := by
  obtain ⟨g, v, -, -, -, -, -, h, -⟩ := h; exact h.c0
theorem BGot.key' {s4 : ShB} {k : PK} {b t : Value} {w6 : World} (h : BGot s s4 room d rs w k b t w6) : w6.rangeAt w.heap.size 0 [.int .i64 k.1, .string k.2] := by
  obtain ⟨g, v, -, -, -, -, -, -, h, -⟩ := h; exact h.key

/-- The shard behind Begin's look-up. -/
abbrev bs (s : ShB) (i : Int) (k : PK) : ShB := { s with rr := del s.rr i, ff := s.ff.map (fun y => (y.1, { y.2 with waits := y.2.waits.filter (· ≠ i) })), l := getS s.l k (none, 0, 0) }
theorem bs_all (i : Int) (k : PK) (b : Nat) (h : (bs s i k).all b) : s.all b :=
  all_cut s (fun y => (y.1, { y.2 with waits := y.2.waits.filter (· ≠ i) })) (fun _ => ⟨rfl, rfl, rfl⟩) (del s.rr i) b h

/-- The look-up itself, from whatever world. -/
theorem begin_get {i : Int} {k : PK} {wr : World} (hk : KP.ok k) (hlt : ∀ b, s.all b → b < w.heap.size) (h5 : ShAt wr { s with rr := del s.rr i, ff := s.ff.map (fun y => (y.1, { y.2 with waits := y.2.waits.filter (· ≠ i) })) } room d rs) (hm : Mine s w k wr) :
    Calls Try.prog 64 #[.pointer (some ⟨s.pd, 0, none⟩), KK k] wr fun e w5 => ∃ v, e = .returned (.tuple #[ZA v, .bool (has d k)]) ∧
      (ShAt w5 (bs s i k) room (getS d k none) rs ∧ Zn w5 v (beginZ d k) ∧ (∀ a, v.1 = some a → s.Z a.block) ∧ Mine s w k w5 ∧ Ch s.F wr w5) := by
  refine (KZ.get_c h5.done hk).mono fun e w5 ⟨he, hd5, hc5⟩ => ?_
  obtain ⟨g1, g2, g3, g4⟩ := h5.got (k := k) hc5 hd5
  exact ⟨gotV s.l k, by rw [he, ← g4], g1, g2, g3, hm.step hlt hc5 (fun b _ hb => Or.inl (Or.inr (Or.inr (Or.inr (Or.inl hb))))), hc5⟩

/-- Who waits, without one. -/
abbrev strip (fl : List (PK × Int × List Int)) (i : Int) : List (PK × Int × List Int) := fl.map fun x => (x.1, x.2.1, x.2.2.filter (· ≠ i))
/-- The flights behind Begin. -/
def beginF (d : List (PK × Option Int)) (fl : List (PK × Int × List Int)) (k : PK) (i : Int) : List (PK × Int × List Int) :=
  if has d k then strip fl i else if has fl k then (strip fl i).map (fun x => if x.1 = k then (x.1, x.2.1, x.2.2 ++ [i]) else x) else strip fl i ++ [(k, i, [])]
/-- What Begin tells. -/
def beginHow (d : List (PK × Option Int)) (fl : List (PK × Int × List Int)) (k : PK) : Int := if has d k then 1 else if has fl k then 3 else 2

/-- What Begin leaves. -/
def BPost (s : ShB) (room : Int) (d : List (PK × Option Int)) (rs : List (Int × Option Int × Int)) (w : World) (k : PK) (i : Int) (v : SV) (w' : World) : Prop :=
  Zn w' v (beginZ d k) ∧ Zfrom w.heap.size v ∧ ∃ s', (∀ a, v.1 = some a → ¬ s'.all a.block) ∧ ShAt w' s' room (getS d k none) (del rs i) ∧ s'.p = s.p ∧ s'.fl = beginF d s.fl k i ∧
    (∀ b, s'.all b → s.all b ∨ w.heap.size ≤ b) ∧ Ch s.all w w'

theorem BPost.mk {s' : ShB} {k : PK} {i : Int} {v : SV} {wa : World} (hlt : ∀ b, s.all b → b < w.heap.size) (h : ShAt wa s' room (getS d k none) (del rs i)) (ha : ∀ b, s'.all b → s.all b ∨ w.heap.size + 2 ≤ b) (hp : s'.p = s.p)
    (hf : s'.fl = beginF d s.fl k i) (hm : Mine s w k wa) (hz : Zn wa v (beginZ d k)) (hv : Zfrom (w.heap.size + 2) v) (hnv : ∀ a, v.1 = some a → ¬ s'.all a.block) :
    BPost s room d rs w k i v (wa.setCells (w.heap.size + 1) 0 (zc (sv v))) := by
  have hc : Ch (fun b => b = w.heap.size + 1) wa (wa.setCells (w.heap.size + 1) 0 (zc (sv v))) := Ch.setCells (F := fun b => b = w.heap.size + 1) (fun _ => rfl) _ _ (Ch.refl _ _)
  refine ⟨hz.kept hc (fun a ha e => by have := hv a ha; omega), fun a ha => by have := hv a ha; omega, s', hnv, h.kept hc (fun b hb e => ?_), hp, hf, fun b hb => (ha b hb).imp id (fun h => by omega), hm.ch.trans hc (fun b hb e => by omega)⟩
  rcases ha b hb with h | h
  · have := hlt b h; omega
  · omega

theorem zeroP132 (w : World) : (zeroValue 132).run Try.prog w = .ok (.pointer none) w := by kernel_rfl

theorem ShAt.lookF (h : ShAt w s room d rs) {y : PK × Fl} (hy : y ∈ s.ff) (hk : KP.ok y.1) (n : Nat) :
    (Instr.lookup 128 (.map (some s.mf)) (KK y.1) false).run Try.prog (w.drewN n) = .ok (.pointer (some ⟨y.2.bf, 0, none⟩)) (w.drewN n) := by
  have hm : MapIs KP.val KP.ok (w.drewN n) s.mf (fl58 s.ff) := h.flies
  rcases hm.look KP Try.underlying128 (zeroP132 _) y.1 hk with ⟨h1, _⟩ | ⟨v, h1, h2⟩
  · exact absurd rfl (h1 _ (List.mem_map_of_mem (f := fun x : PK × Fl => (x.1, Value.pointer (some ⟨x.2.bf, 0, none⟩))) hy))
  · obtain ⟨z, hz, e⟩ := List.mem_map.1 h1
    simp only [Prod.mk.injEq] at e
    have := h.ffOne hy hz e.1
    subst this
    rw [e.2]; exact h2

theorem ShAt.lookF_none (h : ShAt w s room d rs) {k : PK} (hk : KP.ok k) (hn : k ∉ s.ff.map Prod.fst) (n : Nat) :
    (Instr.lookup 128 (.map (some s.mf)) (KK k) false).run Try.prog (w.drewN n) = .ok (.pointer none) (w.drewN n) := by
  have hm : MapIs KP.val KP.ok (w.drewN n) s.mf (fl58 s.ff) := h.flies
  rcases hm.look KP Try.underlying128 (zeroP132 _) k hk with ⟨_, h2⟩ | ⟨v, h1, _⟩
  · exact h2
  · obtain ⟨z, hz, e⟩ := List.mem_map.1 h1
    simp only [Prod.mk.injEq] at e
    exact absurd (by rw [← e.1]; exact List.mem_map_of_mem (f := Prod.fst) hz) hn

theorem fl_keys (s : ShB) : s.fl.map Prod.fst = s.ff.map Prod.fst := by unfold ShB.fl; rw [List.map_map]; rfl
theorem bs_keys (s : ShB) (i : Int) (k : PK) : (bs s i k).ff.map Prod.fst = s.ff.map Prod.fst := by
  show (s.ff.map _).map Prod.fst = _
  rw [List.map_map]; rfl
theorem bs_fl (s : ShB) (i : Int) (k : PK) : (bs s i k).fl = strip s.fl i := by
  unfold ShB.fl strip
  show (s.ff.map _).map _ = _
  rw [List.map_map, List.map_map]; rfl

theorem told_setW (l : List (PK × Fl)) (k : PK) (i : Int) (ws : List Int) (h : ∀ z ∈ l, z.1 = k → z.2.waits = ws) :
    ((l.map (setW k (ws ++ [i]))).map fun x => (x.1, x.2.lead, x.2.waits)) = (l.map fun x => (x.1, x.2.lead, x.2.waits)).map fun x => if x.1 = k then (x.1, x.2.1, x.2.2 ++ [i]) else x := by
  rw [List.map_map, List.map_map]
  refine List.map_congr_left (fun z hz => ?_)
  simp only [Function.comp, setW]
  by_cases e : z.1 = k
  · rw [if_pos e, if_pos e, h z hz e]
  · rw [if_neg e, if_neg e]

theorem wl_put (l : List Int) (i : Int) (h : i ∉ l) : (wl l).filter (fun x => x.1 ≠ i) ++ [(i, .bool true)] = wl (l ++ [i]) := by
  rw [filter_wl, List.filter_eq_self.2 (fun x hx => by simp only [ne_eq, decide_eq_true_eq]; intro e; exact h (by rw [← e]; exact hx))]
  unfold wl
  rw [List.map_append]; rfl

/-- A worker more waits. -/
theorem begin_wait {i : Int} (hi : KI.ok i) {k : PK} {wc : World} (h : ShAt wc (bs s i k) room d rs) (hlt : ∀ b, s.all b → b < w.heap.size) (hm : Mine s w k wc) {y : PK × Fl} (hy : y ∈ s.ff) (hyk : y.1 = k) :
    wc.cell? ⟨y.2.bf, 1, none⟩ = some (.map (some y.2.bw)) ∧
      ∃ o, (Instr.mapUpdate 133 (.map (some y.2.bw)) (.int .i64 i) (.bool true)).run Try.prog wc = .ok () (setBlock wc y.2.bw o) ∧ Mine s w k (setBlock wc y.2.bw o) ∧
        ∃ s', ShAt (setBlock wc y.2.bw o) s' room d rs ∧ (∀ b, s'.all b → s.all b) ∧ s'.p = s.p ∧ s'.fl = (strip s.fl i).map (fun x => if x.1 = k then (x.1, x.2.1, x.2.2 ++ [i]) else x) := by
  have hy' : ((y.1, { y.2 with waits := y.2.waits.filter (· ≠ i) }) : PK × Fl) ∈ (bs s i k).ff := List.mem_map.2 ⟨y, hy, rfl⟩
  have hf := h.each _ hy'
  obtain ⟨o, hrun, hmm⟩ := hf.waits.put KI Try.underlying133 i hi (.bool true)
  have hni : i ∉ y.2.waits.filter (· ≠ i) := fun hin => by have := (List.mem_filter.1 hin).2; simp at this
  rw [wl_put _ _ hni] at hmm
  have hc : Ch (fun b => b = y.2.bw) wc (setBlock wc y.2.bw o) := (Ch.refl (fun b => b = y.2.bw) wc).setBlock (m := y.2.bw) (fun _ => rfl) o
  have hbw : s.all y.2.bw := Or.inr (Or.inr (Or.inr (Or.inr (Or.inr ⟨y, hy, Or.inr rfl⟩))))
  refine ⟨hf.map, o, hrun, hm.step hlt hc (fun b _ e => Or.inl (by rw [e]; exact hbw)), _, h.setW hy' hc hmm, fun b hb => bs_all i k b (all_cut (bs s i k) _ (setW_keeps _ _) (bs s i k).rr b hb), rfl, ?_⟩
  rw [← bs_fl s i k]
  have := told_setW (bs s i k).ff y.1 i (y.2.waits.filter (· ≠ i)) (fun z hz e => by rw [h.ffOne hy' hz e])
  rw [hyk] at this
  unfold ShB.fl
  rw [← this, ← hyk]

/-- A flight more. -/
theorem begin_lead {i : Int} {k : PK} (hk : KP.ok k) {wq wb : World} (h : ShAt wq (bs s i k) room d rs) (hlt : ∀ b, s.all b → b < w.heap.size) (hm : Mine s w k wq) (hk0 : k ∉ s.ff.map Prod.fst) (bf bw : Nat) (hc : Ch (fun _ => False) wq wb)
    (c0 : wb.cell? ⟨bf, 0, none⟩ = some (.int .i64 i)) (c1 : wb.cell? ⟨bf, 1, none⟩ = some (.map (some bw))) (hbw : MapIs KI.val KI.ok wb bw []) (hg : wq.heap.size ≤ bf) (hg' : wq.heap.size ≤ bw) (hne : bf ≠ bw) :
    ∃ o, (Instr.mapUpdate 128 (.map (some s.mf)) (KK k) (.pointer (some ⟨bf, 0, none⟩))).run Try.prog wb = .ok () (setBlock wb s.mf o) ∧ Mine s w k (setBlock wb s.mf o) ∧ (setBlock wb s.mf o).cell? ⟨s.p, 1, none⟩ = some (.map (some s.mf)) ∧
        ∃ s', ShAt (setBlock wb s.mf o) s' room d rs ∧ (∀ b, s'.all b → s.all b ∨ w.heap.size + 2 ≤ b) ∧ s'.p = s.p ∧ s'.fl = strip s.fl i ++ [(k, i, [])] := by
  have lm : s.mf < wq.heap.size := h.flies.lt KP
  have hfl : MapIs KP.val KP.ok wb s.mf (fl58 (bs s i k).ff) := h.flies.of_block KP (hc.block _ lm (fun h => h))
  obtain ⟨o, hrun, hmm⟩ := hfl.put KP Try.underlying128 k hk (.pointer (some ⟨bf, 0, none⟩))
  have hk1 : ∀ x ∈ fl58 (bs s i k).ff, x.1 ≠ k := fun x hx e => by
    obtain ⟨z, hz, rfl⟩ := List.mem_map.1 hx
    rw [← bs_keys s i k] at hk0
    exact hk0 (by rw [← e]; exact List.mem_map_of_mem (f := Prod.fst) hz)
  rw [filter_ne_self hk1] at hmm
  have hs : Ch (fun b => b = s.mf) wb (setBlock wb s.mf o) := (Ch.refl (fun b => b = s.mf) wb).setBlock (m := s.mf) (fun _ => rfl) o
  have hcs : Ch (fun b => b = s.mf) wq (setBlock wb s.mf o) := (hc.mono (fun _ _ h => h.elim)).trans hs (fun _ _ h => h)
  have lbf := cell_lt c0
  have lbw := hbw.lt KI
  have hsz := hm.sz
  have hcell : ∀ j, (setBlock wb s.mf o).cell? ⟨bf, j, none⟩ = wb.cell? ⟨bf, j, none⟩ := fun j => hs.cell (p := ⟨bf, j, none⟩) lbf (by simp only; omega)
  refine ⟨o, hrun, hm.step hlt hcs (fun b _ e => Or.inl (Or.inr (Or.inl e))), (hcs.cell (p := ⟨s.p, 1, none⟩) (cell_lt h.c0) h.pm).trans h.c1, { bs s i k with ff := (bs s i k).ff ++ [(k, ⟨bf, bw, i, []⟩)] }, ?_, fun b hb => ?_, rfl, ?_⟩
  · exact h.newF hcs k ⟨bf, bw, i, []⟩ ⟨by rw [hcell]; exact c0, by rw [hcell]; exact c1, hbw.of_block KI (hs.block _ lbw (by omega))⟩ hg hg' hne hmm
  · rcases hb with hb | hb | hb | hb | hb | ⟨x, hx, hb⟩
    · exact Or.inl (Or.inl hb)
    · exact Or.inl (Or.inr (Or.inl hb))
    · exact Or.inl (Or.inr (Or.inr (Or.inl hb)))
    · exact Or.inl (Or.inr (Or.inr (Or.inr (Or.inl hb))))
    · exact Or.inl (Or.inr (Or.inr (Or.inr (Or.inr (Or.inl hb)))))
    · rcases List.mem_append.1 hx with hx | hx
      · exact Or.inl (bs_all i k b (Or.inr (Or.inr (Or.inr (Or.inr (Or.inr ⟨x, hx, hb⟩))))))
      · simp only [List.mem_singleton] at hx
        subst hx
        simp only at hb
        exact Or.inr (by omega)
  · rw [← bs_fl s i k]
    unfold ShB.fl
    show ((bs s i k).ff ++ [(k, (⟨bf, bw, i, []⟩ : Fl))]).map _ = _
    rw [List.map_append]; rfl

/-- What holds at each round's head. -/
def BLoop (s : ShB) (room : Int) (d : List (PK × Option Int)) (rs : List (Int × Option Int × Int)) (w : World) (k : PK) (i : Int) (r : Nat) (wr : World) : Prop :=
  ∃ todo, Ranging KP wr s.mf r (fl58 s.ff) todo ∧ (todo.map Prod.fst).Nodup ∧ ShAt wr { s with rr := del s.rr i, ff := s.ff.map (cutB i (todo.map Prod.fst)) } room d (del rs i) ∧ Mine s w k wr

set_option maxRecDepth 100000 in
set_option maxHeartbeats 1000000 in
theorem begin37 (h : ShAt w s room d rs) (i : Int) (hi : KI.ok i) (k : PK) (hk : KP.ok k) :
    Calls Try.prog 37 #[.pointer (some ⟨s.p, 0, none⟩), .int .i64 i, KK k] w fun e w' => ∃ v, e = .returned (.tuple #[ZA v, .int .i64 (beginHow d s.fl k)]) ∧ BPost s room d rs w k i v w' := by
  have HA := Lib.hid h.lt
  have hbG := KZ.GW.below w k
  have h1 := h.kept (Ch.of_none hbG (fun _ => False)) (fun _ _ h => h)
  obtain ⟨k0, k1⟩ := KZ.GW.key w k
  have hm1 : Mine s w k (KZ.GW w k) := ⟨k0, k1, KZ.GW.there w k, Ch.of_none hbG _, by rw [KZ.GW.size]; exact Nat.le_refl _⟩
  clear h hbG k0 k1
  go_enter Try.func37, Try.ntmps37
  go_upto_region 1 with fail
  change Code.wp _ _ _ _ (KZ.GW w k)
  revert h1 hm1
  generalize KZ.GW w k = w1
  intro h1 hm1
  obtain ⟨o, hrun, h2, hc2⟩ := h1.forget i hi
  have hm2 := hm1.step HA.out hc2 (fun b _ e => Or.inl (Or.inr (Or.inr (Or.inl e))))
  have c2 := h1.c2
  clear h1 hm1 hc2
  go_upto_region 2 with fail
  clear hrun c2
  revert h2 hm2
  generalize setBlock w1 s.mr o = w2
  intro h2 hm2
  clear w1
  have c1 : w2.cell? ⟨s.p, 1, none⟩ = some (.map (some s.mf)) := h2.c1
  have hfl := Lib.hid h2.flies
  have H2 := Lib.hid h2
  have HM2 := Lib.hid hm2
  clear h2 hm2
  go_wp2_with (refine wpList_range_is KP w2 (by rfl) (.tmp 21) 128 (by rfl) Try.underlying128 (by rfl) hfl.out ?_; intro w3 hr3 hb3; go_frame)
  have HNR : Hid (¬ s.all w2.heap.size ∧ w.heap.size + 2 ≤ w2.heap.size) := Lib.hid ⟨fun hb => by have := HA.out _ hb; have := HM2.out.sz; omega, HM2.out.sz⟩
  go_loopw [9] (fun _ wr => BLoop s room d rs w k i w2.heap.size wr) (fun _ wr => wr.rangeLeft s.mf w2.heap.size)
  case atStart =>
    have hk := H2.out.ffKeys
    refine ⟨fl58 s.ff, hr3, by rw [List.map_map]; exact hk, ?_, HM2.out.step HA.out (Ch.of_below hb3) (fun b hb h => by omega)⟩
    have e : s.ff.map (cutB i ((fl58 s.ff).map Prod.fst)) = s.ff := by rw [List.map_map]; exact cutB_all i s.ff
    rw [e]
    exact H2.out.kept (Ch.of_none hb3 (fun _ => False)) (fun _ _ h => h)
  case round =>
    obtain ⟨todo, hrg, hnd, h4, hm4⟩ := hrel
    have H4 := Lib.hid h4
    have HM4 := Lib.hid hm4
    have HND := Lib.hid hnd
    have HRG := Lib.hid hrg
    clear h4 hm4 hnd c1 hr3 hb3
    go_wp2_with (at_next; refine wpList_next_is KP wr (by rfl) (.tmp 22) (by rfl) (by rfl) hrg ?_ ?_)
    · intro ht
      subst ht
      have h5 := H4.out
      simp only [List.map_nil, cutB_end] at h5
      have H5 := Lib.hid h5
      clear h5 H4 HRG hrg HND H2 HM2 hfl HNR
      go_upto_region 6 with fail
      have c0 : wr.cell? ⟨s.p, 0, none⟩ = some (.pointer (some ⟨s.pd, 0, none⟩)) := H5.out.c0
      have hkey := HM4.out.key
      go_cut [10, 11] (fun b t wc => BGot s (bs s i k) room d (del rs i) w k b t wc)
      case first =>
        refine wp_region_held_drew (S := fun w' => w'.cell? ⟨s.p, 0, none⟩ = some (.pointer (some ⟨s.pd, 0, none⟩)) ∧ w'.rangeAt w.heap.size 0 [.int .i64 k.1, .string k.2]) (by kernel_rfl) ⟨c0, hkey⟩ (fun hH => ?_)
        refine wpAnyH_take (i := 0) (v := .pointer (some ⟨s.p, 0, none⟩)) rfl (by kernel_rfl) (by kernel_rfl) (by kernel_rfl) (fun _ _ _ h => h) (Or.inl ⟨by rfl, fun w' hS => by go_simp⟩) hH ?_
        refine wpAnyH_take (i := 1) (v := .pointer (some ⟨s.p, 0, none⟩)) rfl (by kernel_rfl) (by kernel_rfl) (by kernel_rfl) (fun _ _ _ h => h) (Or.inl ⟨by rfl, fun w' hS => by go_simp⟩) hH ?_
        refine wpAnyH_take (i := 2) (v := .pointer (some ⟨s.p, 0, none⟩)) rfl (by kernel_rfl) (by kernel_rfl) (by kernel_rfl) (fun _ _ _ h => h) (Or.inl ⟨by rfl, fun w' hS => by go_simp⟩) hH ?_
        refine wpAnyH_take (i := 3) (v := .pointer (some ⟨s.pd, 0, none⟩)) rfl (by kernel_rfl) (by kernel_rfl) (by kernel_rfl) (fun _ _ _ h => h) (Or.inl ⟨by rfl, fun w' hS => by obtain ⟨s1, s2⟩ := hS; go_simp⟩) hH ?_
        refine wpAnyH_take (i := 4) (v := KK k) rfl (by kernel_rfl) (by kernel_rfl) (by kernel_rfl) (fun _ _ _ h => h) (yieldsIf_load_mid (by rfl) 58 (.tmp 5) (by rfl) w.heap.size 0 (by rfl) [.int .i64 k.1, .string k.2] _ (fun w' hS => hS.2) Try.underlying58 rfl KZ.size58) hH ?_
        refine wpAnyH_ready (rs := [5, 9]) (by kernel_rfl) (by simp) ?_
        refine AllReadyH.cons rfl (fun K hK => ?_) (AllReadyH.cons rfl (fun K hK => ?_) AllReadyH.nil)
        · go_simp
          refine (begin_get (wr := wr.drew) hk HA.out (H5.out.kept (E := fun _ => False) ((Ch.refl _ wr).drew) (fun _ _ h => h)) (HM4.out.step HA.out (G := fun _ => False) ((Ch.refl _ wr).drew) (fun _ _ h => h.elim))).mono ?_
          rintro e w5 ⟨gv, rfl, h6, hz6, hzl6, hm6, hc5⟩
          have c05 : w5.cell? ⟨s.p, 0, none⟩ = some (.pointer (some ⟨s.pd, 0, none⟩)) := h6.c0
          have hkey5 := hm6.key
          have HH := Lib.hid (And.intro h6 (And.intro hz6 (And.intro hzl6 hm6)))
          clear hc5 h6 hz6 hzl6 hm6
          refine hK.out _ _ ⟨c05, hkey5⟩ (fun hH => ?_)
          clear hK K
          refine wpAnyH_take (i := 6) (v := .tuple #[ZA (gv), .bool (has d k)]) rfl (by kernel_rfl) (by kernel_rfl) (by kernel_rfl) (fun _ _ _ h => h) (Or.inl ⟨by rfl, fun w' hS => by go_simp⟩) hH ?_
          refine wpAnyH_take (i := 7) (v := ZA (gv)) rfl (by kernel_rfl) (by kernel_rfl) (by kernel_rfl) (fun _ _ _ h => h) (Or.inl ⟨by rfl, fun w' hS => by go_simp⟩) hH ?_
          refine wpAnyH_take (i := 8) (v := .bool (has d k)) rfl (by kernel_rfl) (by kernel_rfl) (by kernel_rfl) (fun _ _ _ h => h) (Or.inl ⟨by rfl, fun w' hS => by go_simp⟩) hH ?_
          refine wpAnyH_ready (rs := [9]) (by kernel_rfl) (by simp) ?_
          refine AllReadyH.cons rfl (fun K hK => ?_) AllReadyH.nil
          go_simp
          generalize hw6 : w5.alloc _ = w6
          obtain ⟨hc6, ht6, hs6⟩ := alloc21 _ (by rfl) w5 w6 hw6.symm
          clear hw6
          obtain ⟨h6, hz6, hzl6, hm6⟩ := HH.out
          have h7 := h6.kept hc6 (fun _ _ h => h)
          have hz7 := hz6.kept hc6 (fun _ _ h => h)
          have hm7 := hm6.step HA.out hc6 (fun _ _ h => h.elim)
          have c06 : w6.cell? ⟨s.p, 0, none⟩ = some (.pointer (some ⟨s.pd, 0, none⟩)) := h7.c0
          have hkey6 := hm7.key
          have HG := Lib.hid (show w.heap.size + 2 ≤ w5.heap.size ∧ w5.heap.size < w6.heap.size from ⟨hm6.sz, by omega⟩)
          clear HH
          have HH := Lib.hid (And.intro h7 (And.intro hz7 (And.intro hzl6 hm7)))
          clear h6 hz6 hzl6 hm6 h7 hz7 hm7 hc6 hs6
          refine hK.out _ _ ⟨c06, hkey6⟩ (fun hH => ?_)
          clear hK K
          refine wpAnyH_ready (rs := [10]) (by kernel_rfl) (by simp) ?_
          refine AllReadyH.cons rfl (fun K hK => ?_) AllReadyH.nil
          refine wp_store_mid 69 (.tmp 10) (.tmp 39) (by rfl) w5.heap.size 0 (za (sv (gv))) (by rfl) (by rfl) (by exact ht6) (size69' _) (za_one rfl) ?_
          have HB := Lib.hid (BGot.mk HA.out (bs_all i k) HH.out.1 HH.out.2.1 HH.out.2.2.1 HH.out.2.2.2 ht6 HG.out.1 HG.out.2)
          have c07 := HB.out.c0'
          have hkey7 := HB.out.key'
          revert HB c07 hkey7
          rw [za_toList]
          generalize w6.setCells w5.heap.size 0 (zc (sv (gv))) = w7
          intro HB c07 hkey7
          refine hK.out _ _ ⟨c07, hkey7⟩ (fun hH => ?_)
          clear hK K
          refine wpAnyH_ready (rs := [11]) (by kernel_rfl) (by simp) ?_
          refine AllReadyH.cons rfl (fun K hK => ?_) AllReadyH.nil
          go_simp
          refine hK.out _ _ hH (fun hH => ?_)
          clear hK K
          refine wpAnyH_done (by kernel_rfl) ?_ _
          go_wp2_with fail
          go_meet
          exact HB.out
        · go_simp
          generalize hw5 : (wr.alloc _).drew = w5
          obtain ⟨hc5, ht5, hs5⟩ := alloc21d _ (by rfl) wr w5 hw5.symm
          clear hw5
          have h5 := H5.out.kept hc5 (fun _ _ h => h)
          have hm5 := HM4.out.step HA.out hc5 (fun _ _ h => h.elim)
          have c05 : w5.cell? ⟨s.p, 0, none⟩ = some (.pointer (some ⟨s.pd, 0, none⟩)) := h5.c0
          have hkey5 := hm5.key
          have HG0 := Lib.hid (show w.heap.size + 2 ≤ wr.heap.size ∧ wr.heap.size < w5.heap.size from ⟨HM4.out.sz, by omega⟩)
          have HH0 := Lib.hid (And.intro h5 hm5)
          clear hc5 h5 hm5 hs5
          refine hK.out _ _ ⟨c05, hkey5⟩ (fun hH => ?_)
          clear hK K
          refine wpAnyH_ready (rs := [5]) (by kernel_rfl) (by simp) ?_
          refine AllReadyH.cons rfl (fun K hK => ?_) AllReadyH.nil
          go_simp
          refine (begin_get (wr := w5) hk HA.out HH0.out.1 HH0.out.2).mono ?_
          rintro e w6 ⟨gv, rfl, h6, hz6, hzl6, hm6, hc6⟩
          have c06 : w6.cell? ⟨s.p, 0, none⟩ = some (.pointer (some ⟨s.pd, 0, none⟩)) := h6.c0
          have hkey6 := hm6.key
          have HH := Lib.hid (And.intro h6 (And.intro hz6 (And.intro hzl6 hm6)))
          have ht6 : w6.there wr.heap.size 0 21 := hc6.there (HG0.out.2) (fun hF => by have := HA.out _ (Or.inr (Or.inr (Or.inr (Or.inl hF)))); have := HG0.out.1; omega) ht5
          have HG := Lib.hid (show w.heap.size + 2 ≤ wr.heap.size ∧ wr.heap.size < w6.heap.size from ⟨HG0.out.1, Nat.lt_of_lt_of_le HG0.out.2 hc6.size⟩)
          clear hc6 h6 hz6 hzl6 hm6 ht5
          refine hK.out _ _ ⟨c06, hkey6⟩ (fun hH => ?_)
          clear hK K
          refine wpAnyH_ready (rs := [6]) (by kernel_rfl) (by simp) ?_
          refine AllReadyH.cons rfl (fun K hK => ?_) AllReadyH.nil
          go_simp
          refine hK.out _ _ hH (fun hH => ?_)
          clear hK K
          refine wpAnyH_take (i := 8) (v := .bool (has d k)) rfl (by kernel_rfl) (by kernel_rfl) (by kernel_rfl) (fun _ _ _ h => h) (Or.inl ⟨by rfl, fun w' hS => by go_simp⟩) hH ?_
          refine wpAnyH_ready (rs := [7]) (by kernel_rfl) (by simp) ?_
          refine AllReadyH.cons rfl (fun K hK => ?_) AllReadyH.nil
          go_simp
          refine hK.out _ _ hH (fun hH => ?_)
          clear hK K
          refine wpAnyH_ready (rs := [10]) (by kernel_rfl) (by simp) ?_
          refine AllReadyH.cons rfl (fun K hK => ?_) AllReadyH.nil
          refine wp_store_mid 69 (.tmp 10) (.tmp 39) (by rfl) wr.heap.size 0 (za (sv (gv))) (by rfl) (by rfl) (by exact ht6) (size69' _) (za_one rfl) ?_
          have HB := Lib.hid (BGot.mk HA.out (bs_all i k) HH.out.1 HH.out.2.1 HH.out.2.2.1 HH.out.2.2.2 ht6 HG.out.1 HG.out.2)
          have c07 := HB.out.c0'
          have hkey7 := HB.out.key'
          revert HB c07 hkey7
          rw [za_toList]
          generalize w6.setCells wr.heap.size 0 (zc (sv (gv))) = w7
          intro HB c07 hkey7
          refine hK.out _ _ ⟨c07, hkey7⟩ (fun hH => ?_)
          clear hK K
          refine wpAnyH_ready (rs := [11]) (by kernel_rfl) (by simp) ?_
          refine AllReadyH.cons rfl (fun K hK => ?_) AllReadyH.nil
          go_simp
          refine hK.out _ _ hH (fun hH => ?_)
          clear hK K
          refine wpAnyH_done (by kernel_rfl) ?_ _
          go_wp2_with fail
          go_meet
          exact HB.out
      case rest =>
        obtain ⟨g, v, rfl, rfl, hr6, hz6, hzl6, h6, hm6, hg, hg6⟩ := hcut
        cases hh : has d k with
        | true =>
          have hzt := hm6.zt
          have H6 := Lib.hid h6
          have HM6 := Lib.hid hm6
          have HZ6 := Lib.hid hz6
          clear h6 hm6 hz6 H5 HM4 c0 hkey
          go_wp2_with (refine wpList_load_mid (by rfl) 69 (.tmp 10) (by rfl) g 0 (by rfl) (zc (sv v)) _ (by exact hr6) Try.underlying69 rfl (size69 _) ?_)
          refine (copied65 HZ6.out).mono ?_
          rintro e w7 ⟨v', rfl, hz7, hf7, hb7⟩
          have hsz := HM6.out.sz
          have ht7 := (Ch.of_none hb7 (fun _ => False)).there (by omega) (fun h => h) hzt
          have hb := Lib.hid (show BPost s room d rs w k i v' (w7.setCells (w.heap.size + 1) 0 (zc (sv v'))) from
            BPost.mk HA.out (H6.out.kept (Ch.of_none hb7 (fun _ => False)) (fun _ _ h => h)) (fun b hb => Or.inl (bs_all i k b hb)) rfl (by rw [bs_fl]; unfold beginF; rw [hh]; rfl)
              (HM6.out.step HA.out (Ch.of_none hb7 (fun _ => False)) (fun _ _ h => h.elim)) hz7 (fun a ha => by have := hf7 a ha; omega) (fun a ha hb => by have := HA.out _ (bs_all i k _ hb); have := hf7 a ha; omega))
          have hss := World.rangeAt_setCells_same w7 (w.heap.size + 1) 0 (zc (sv v')) ht7
          have hhow : beginHow d s.fl k = 1 := by unfold beginHow; rw [hh]; rfl
          clear hz7 hf7 hb7 hsz hzt
          go_wp2_with (refine wpList_store_mid (by rfl) 69 (.tmp 6) (.tmp 43) (by rfl) (w.heap.size + 1) 0 (za (sv v')) (by rfl) (by rfl) (by exact ht7) (size69' _) (za_one rfl) ?_)
          exact ret_cell_tmp Try.results37 rfl rfl rfl hss Try.underlying69 rfl (size69 _) (by first | exact ⟨v', by rw [hhow]; rfl, hb.out⟩ | exact ⟨v'.1, v'.2.1, v'.2.2, by rw [hhow]; rfl, hb.out⟩)
        | false =>
          have hbz : beginZ d k = none := by unfold beginZ; rw [hh]; rfl
          have hc1 : wc.cell? ⟨s.p, 1, none⟩ = some (.map (some s.mf)) := h6.c1
          have k0 := hm6.k0
          have k1 := hm6.k1
          cases hf : has s.fl k with
          | true =>
            have hin := has_iff.1 hf
            rw [fl_keys] at hin
            obtain ⟨y, hy, hyk⟩ := List.mem_map.1 hin
            have hlook : ∀ n, (Instr.lookup 128 (.map (some s.mf)) (KK k) false).run Try.prog (wc.drewN n) = .ok (.pointer (some ⟨y.2.bf, 0, none⟩)) (wc.drewN n) := fun n => by
              have := h6.lookF (y := (y.1, { y.2 with waits := y.2.waits.filter (· ≠ i) })) (List.mem_map.2 ⟨y, hy, rfl⟩) (by simp only [hyk]; exact hk) n
              rw [← hyk]; exact this
            have hhow : beginHow d s.fl k = 3 := by unfold beginHow; rw [hh, hf]; rfl
            have hbF : (strip s.fl i).map (fun x => if x.1 = k then (x.1, x.2.1, x.2.2 ++ [i]) else x) = beginF d s.fl k i := by unfold beginF; rw [hh, hf]; rfl
            have H6 := Lib.hid h6
            have HM6 := Lib.hid hm6
            have HY := Lib.hid hy
            have HK := Lib.hid hyk
            have HBF := Lib.hid hbF
            clear h6 hm6 hz6 H5 HM4 c0 hkey hr6 hzl6 hin hy hyk hbF
            go_upto_region 9 with fail
            go_quiet (fail)
            have h7 := H6.out.kept (E := fun _ => False) ((Ch.refl _ wc).drewN nq) (fun _ _ h => h)
            have hm7 := HM6.out.step HA.out (G := fun _ => False) ((Ch.refl _ wc).drewN nq) (fun _ _ h => h.elim)
            clear hc1 k0 k1 hlook
            revert h7 hm7
            generalize wc.drewN nq = w7
            intro h7 hm7
            obtain ⟨c7, o, hrun, hm8, s', h8, ha8, hp8, hfl8⟩ := begin_wait hi h7 HA.out hm7 HY.out HK.out
            have ht8 := hm8.zt
            rw [HBF.out] at hfl8
            have HB := Lib.hid (show BPost s room d rs w k i (none, 0, 0) ((setBlock w7 y.2.bw o).setCells (w.heap.size + 1) 0 (zc (sv (none, 0, 0)))) from
              BPost.mk HA.out h8 (fun b hb => Or.inl (ha8 b hb)) hp8 hfl8 hm8 (by rw [hbz]; rfl) (fun a ha => by cases ha) (fun a ha => by cases ha))
            clear h7 hm7 h8 hm8 hfl8
            go_upto_region 12 with fail
            clear hrun c7
            revert ht8 HB
            generalize setBlock w7 y.2.bw o = w8
            intro ht8 HB
            have hss := World.rangeAt_setCells_same w8 (w.heap.size + 1) 0 (zc (sv (none, 0, 0))) ht8
            go_wp2_with (refine wpList_store_mid (by rfl) 69 (.tmp 6) (.tmp 57) (by rfl) (w.heap.size + 1) 0 (za (sv (none, 0, 0))) (by rfl) (by rfl) (by exact ht8) (size69' _) (za_one rfl) ?_)
            exact ret_cell_tmp Try.results37 rfl rfl rfl hss Try.underlying69 rfl (size69 _) (by rw [hhow]; exact ⟨(none, 0, 0), rfl, HB.out⟩)
          | false =>
            have hk0 : k ∉ s.ff.map Prod.fst := by rw [← fl_keys]; exact has_false.1 hf
            have hlook : ∀ n, (Instr.lookup 128 (.map (some s.mf)) (KK k) false).run Try.prog (wc.drewN n) = .ok (.pointer none) (wc.drewN n) := fun n => h6.lookF_none hk (by rw [bs_keys]; exact hk0) n
            have hhow : beginHow d s.fl k = 2 := by unfold beginHow; rw [hh, hf]; rfl
            have hbF : strip s.fl i ++ [(k, i, [])] = beginF d s.fl k i := by unfold beginF; rw [hh, hf]; rfl
            have H6 := Lib.hid h6
            have HM6 := Lib.hid hm6
            have HK0 := Lib.hid hk0
            have HBF := Lib.hid hbF
            clear h6 hm6 hz6 H5 HM4 c0 hkey hr6 hzl6 hk0 hbF
            go_upto_region 9 with fail
            go_quiet (fail)
            go_upto_region 13 with fail
            have h7 := H6.out.kept (E := fun _ => False) (((Ch.refl _ wc).drewN nq).drew) (fun _ _ h => h)
            have hm7 := HM6.out.step HA.out (G := fun _ => False) (((Ch.refl _ wc).drewN nq).drew) (fun _ _ h => h.elim)
            have c7 := h7.c1
            have hkey7 := hm7.key
            clear hc1 k0 k1 hlook
            refine wp_region_held_drew (S := fun w' => w'.cell? ⟨s.p, 1, none⟩ = some (.map (some s.mf)) ∧ w'.rangeAt w.heap.size 0 [.int .i64 k.1, .string k.2]) (by kernel_rfl) ⟨c7, hkey7⟩ (fun hH => ?_)
            revert h7 hm7 hH
            generalize (wc.drewN nq).drew = w7
            intro h7 hm7 hH
            refine wpAnyH_take (i := 0) (v := .pointer (some ⟨s.p, 0, none⟩)) rfl (by kernel_rfl) (by kernel_rfl) (by kernel_rfl) (fun _ _ _ h => h) (Or.inl ⟨by rfl, fun w' hS => by go_simp⟩) hH ?_
            refine wpAnyH_take (i := 1) (v := .pointer (some ⟨s.p, 0, none⟩)) rfl (by kernel_rfl) (by kernel_rfl) (by kernel_rfl) (fun _ _ _ h => h) (Or.inl ⟨by rfl, fun w' hS => by go_simp⟩) hH ?_
            refine wpAnyH_take (i := 2) (v := .pointer (some ⟨s.p, 1, none⟩)) rfl (by kernel_rfl) (by kernel_rfl) (by kernel_rfl) (fun _ _ _ h => h) (Or.inl ⟨by rfl, fun w' hS => by go_simp⟩) hH ?_
            refine wpAnyH_take (i := 3) (v := .map (some s.mf)) rfl (by kernel_rfl) (by kernel_rfl) (by kernel_rfl) (fun _ _ _ h => h) (Or.inl ⟨by rfl, fun w' hS => by obtain ⟨s1, s2⟩ := hS; go_simp⟩) hH ?_
            refine wpAnyH_take (i := 4) (v := KK k) rfl (by kernel_rfl) (by kernel_rfl) (by kernel_rfl) (fun _ _ _ h => h) (yieldsIf_load_mid (by rfl) 58 (.tmp 5) (by rfl) w.heap.size 0 (by rfl) [.int .i64 k.1, .string k.2] _ (fun w' hS => hS.2) Try.underlying58 rfl KZ.size58) hH ?_
            refine wpAnyH_take (i := 5) (v := .int .i64 i) rfl (by kernel_rfl) (by kernel_rfl) (by kernel_rfl) (fun _ _ _ h => h) (Or.inl ⟨by rfl, fun w' hS => by go_simp⟩) hH ?_
            have hmm := @run_makeMap Try.prog
            refine wpAnyH_ready (rs := [6]) (by kernel_rfl) (by simp) ?_
            refine AllReadyH.cons rfl (fun K hK => ?_) AllReadyH.nil
            go_simp
            have hcm : Ch (fun _ => False) w7 (w7.alloc (.map #[] 0)) := (Ch.refl _ w7).alloc _
            have hcb : Ch (fun _ => False) w7 ((w7.alloc (.map #[] 0)).alloc (.cells #[.int .i64 i, .map (some w7.heap.size)] 135)) := hcm.alloc _
            have hmb : MapIs KI.val KI.ok ((w7.alloc (.map #[] 0)).alloc (.cells #[.int .i64 i, .map (some w7.heap.size)] 135)) w7.heap.size [] := (MapIs.made KI w7).of_block KI (Below.heap_alloc _ _ _ (by simp))
            have hcell : ∀ j, ((w7.alloc (.map #[] 0)).alloc (.cells #[.int .i64 i, .map (some w7.heap.size)] 135)).cell? ⟨w7.heap.size + 1, j, none⟩ = #[Value.int .i64 i, .map (some w7.heap.size)][j]? := fun j => by
              have := World.cell?_alloc_new (w7.alloc (.map #[] 0)) #[.int .i64 i, .map (some w7.heap.size)] 135 j
              rwa [World.size_alloc] at this
            have HLE := Lib.hid (begin_lead hk h7 HA.out hm7 HK0.out (w7.heap.size + 1) w7.heap.size hcb (by rw [hcell]; rfl) (by rw [hcell]; rfl) hmb (by omega) (Nat.le_refl _) (by omega))
            have HS1 := Lib.hid (And.intro (h7.kept hcm (fun _ _ h => h)).c1 (hm7.step HA.out hcm (fun _ _ h => h.elim)).key)
            have HS2 := Lib.hid (And.intro (h7.kept hcb (fun _ _ h => h)).c1 (hm7.step HA.out hcb (fun _ _ h => h.elim)).key)
            clear h7 hm7 hcm hcb hmb hcell c7 hkey7
            refine hK.out _ _ HS1.out (fun hH => ?_)
            clear hK K
            refine wpAnyH_ready (rs := [7]) (by kernel_rfl) (by simp) ?_
            refine AllReadyH.cons rfl (fun K hK => ?_) AllReadyH.nil
            go_simp
            refine hK.out _ _ hH (fun hH => ?_)
            clear hK K
            refine wpAnyH_ready (rs := [8]) (by kernel_rfl) (by simp) ?_
            refine AllReadyH.cons rfl (fun K hK => ?_) AllReadyH.nil
            go_simp
            refine hK.out _ _ HS2.out (fun hH => ?_)
            clear hK K
            obtain ⟨o, hrun, hm8, c8, s', h8, ha8, hp8, hfl8⟩ := HLE.out
            have hkey8 := hm8.key
            have ht8 := hm8.zt
            rw [HBF.out] at hfl8
            have HB := Lib.hid (BPost.mk (v := (none, 0, 0)) HA.out h8 ha8 hp8 hfl8 hm8 (by rw [hbz]; rfl) (fun a ha => by cases ha) (fun a ha => by cases ha))
            clear h8 hm8 hfl8 HLE HS1 HS2
            refine wpAnyH_ready (rs := [9]) (by kernel_rfl) (by simp) ?_
            refine AllReadyH.cons rfl (fun K hK => ?_) AllReadyH.nil
            go_simp
            revert HB ht8 c8 hkey8
            generalize setBlock _ s.mf o = w8
            intro c8 hkey8 ht8 HB
            refine hK.out _ _ ⟨c8, hkey8⟩ (fun hH => ?_)
            clear hK K hrun
            refine wpAnyH_done (by kernel_rfl) ?_ _
            have hss := World.rangeAt_setCells_same w8 (w.heap.size + 1) 0 (zc (sv (none, 0, 0))) ht8
            go_wp2_with (refine wpList_store_mid (by rfl) 69 (.tmp 6) (.tmp 67) (by rfl) (w.heap.size + 1) 0 (za (sv (none, 0, 0))) (by rfl) (by rfl) (by exact ht8) (size69' _) (za_one rfl) ?_)
            exact ret_cell_tmp Try.results37 rfl rfl rfl hss Try.underlying69 rfl (size69 _) (by rw [hhow]; exact ⟨(none, 0, 0), rfl, HB.out⟩)
    · intro x1 x2 xv a c w4 ht hrg4 hen hc4 hs4
      have hsub := HRG.out.sub KP ((x1, x2), xv) (by rw [ht]; simp)
      obtain ⟨y, hy, hyk, hyv, hcell, o, hrun, hc5, hr5, hn5, h5⟩ := begin_round hi HNR.out.1 (fun y hy z hz e => H2.out.ffOne hy hz e) H4.out HND.out ht hsub hrg4 hc4
      simp only at hyv
      subst hyv
      have hm5 := (HM4.out.step HA.out hc4 (fun b _ e => Or.inr (by rw [e]; exact HNR.out.2))).step HA.out hc5 (fun b _ e => Or.inl (by rw [e]; exact Or.inr (Or.inr (Or.inr (Or.inr (Or.inr ⟨y, hy, Or.inr rfl⟩))))))
      have e1 : wr.rangeLeft s.mf w2.heap.size = todo.length := HRG.out.left_eq KP
      have e2 := hr5.left_eq KP
      have HF := Lib.hid (show BLoop s room d rs w k i w2.heap.size (setBlock w4 y.2.bw o) from ⟨a ++ c, hr5, hn5, h5, hm5⟩)
      have hlt : (setBlock w4 y.2.bw o).rangeLeft s.mf w2.heap.size < wr.rangeLeft s.mf w2.heap.size := by rw [e1, e2, ht]; simp only [List.length_append, List.length_cons]; omega
      clear h5 hr5 hn5 hm5 hc5 hrg4 hc4 hrg e1 e2 hsub ht
      go_wp2_with fail
      exact ⟨HF.out, hlt⟩

end Go.Proofs.Ytnnaidladcdbdaa
