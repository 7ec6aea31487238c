/- shard.End (chapter 15), where the leader ends. -/
import Derived.Test.YtnnaidladcdbdaaShEnd
namespace Go.Proofs.Ytnnaidladcdbdaa
open Go.RowKit Go.ChangeMaps
open KZ (SV sv ZA KK)

/-- A map's pairs, each of some keys set to one value. -/
def fillR {α : Type} (l : List (Int × α)) (dn : List Int) (a : α) : List (Int × α) := l.filter (fun x => decide (x.1 ∉ dn)) ++ dn.map fun i => (i, a)

theorem fillR_nil {α : Type} (l : List (Int × α)) (a : α) : fillR l [] a = l := by
  unfold fillR
  rw [List.map_nil, List.append_nil]
  exact List.filter_eq_self.2 (fun x _ => by simp)
theorem fillR_step {α : Type} (l : List (Int × α)) (dn : List Int) (a : α) (x : Int) (hx : x ∉ dn) : (fillR l dn a).filter (fun y => y.1 ≠ x) ++ [(x, a)] = fillR l (dn ++ [x]) a := by
  unfold fillR
  rw [List.filter_append, List.filter_filter, List.map_append, ← List.append_assoc]
  congr 1
  congr 1
  · refine List.filter_congr (fun y _ => ?_)
    simp only [List.mem_append, List.mem_singleton, not_or, ne_eq]
    by_cases h1 : y.1 = x <;> by_cases h2 : y.1 ∈ dn <;> simp [h1, h2]
  · refine List.filter_eq_self.2 (fun y hy => ?_)
    obtain ⟨z, hz, rfl⟩ := List.mem_map.1 hy
    simp only [ne_eq, decide_eq_true_eq]
    intro e; exact hx (by rw [← e]; exact hz)
theorem fillR_perm {α : Type} (l : List (Int × α)) {dn ws : List Int} (h : dn.Perm ws) (a : α) : (fillR l dn a).Perm (fillR l ws a) := by
  unfold fillR
  have e : l.filter (fun x => decide (x.1 ∉ dn)) = l.filter (fun x => decide (x.1 ∉ ws)) := List.filter_congr (fun x _ => by simp only [h.mem_iff])
  rw [e]
  exact (h.map _).append_left _
theorem fillR_rel {α β : Type} {R : α → β → Prop} {l : List (Int × α)} {d : List (Int × β)} (h : Rel R l d) (dn : List Int) {a : α} {b : β} (hab : R a b) : Rel R (fillR l dn a) (fillR d dn b) := by
  refine (h.filter (fun x => decide (x ∉ dn))).append ?_
  induction dn with
  | nil => exact Rel.nil
  | cons i r ih => exact Rel.cons ⟨rfl, hab⟩ ih
theorem fillR_mem {α : Type} {l : List (Int × α)} {dn : List Int} {a : α} {x : Int × α} (h : x ∈ fillR l dn a) : x ∈ l ∨ x.2 = a := by
  unfold fillR at h
  rcases List.mem_append.1 h with h | h
  · exact Or.inl (List.mem_filter.1 h).1
  · obtain ⟨i, _, rfl⟩ := List.mem_map.1 h
    exact Or.inr rfl
theorem fillR_map {α β : Type} (f : α → β) (l : List (Int × α)) (dn : List Int) (a : α) : (fillR l dn a).map (fun x => (x.1, f x.2)) = fillR (l.map fun x => (x.1, f x.2)) dn (f a) := by
  unfold fillR
  rw [List.map_append, List.map_map, List.filter_map]
  rfl

variable {w w' : World} {s : ShB} {room : Int} {d d' : List (PK × Option Int)} {rs rs' : List (Int × Option Int × Int)}

theorem FlAt.kept {G : Nat → Prop} {f : Fl} (h : FlAt w f) (hc : Ch G w w') (h1 : ¬ G f.bf) (h2 : ¬ G f.bw) : FlAt w' f :=
  ⟨(hc.cell (p := ⟨f.bf, 0, none⟩) (cell_lt h.lead) h1).trans h.lead, (hc.cell (p := ⟨f.bf, 1, none⟩) (cell_lt h.lead) h1).trans h.map, h.waits.of_block KI (hc.block _ (h.waits.lt KI) h2)⟩

theorem putS_mem {κ ν : Type} [DecidableEq κ] {room : Int} {l : List (κ × ν)} {k : κ} {v : ν} {x : κ × ν} (h : x ∈ putS room l k v) : x ∈ l ∨ x.2 = v := by
  unfold putS at h
  split at h
  · unfold use at h
    rcases List.mem_append.1 h with h | h
    · exact Or.inl (List.mem_filter.1 h).1
    · simp only [List.mem_singleton] at h; exact Or.inr (by rw [h])
  · split at h
    · rcases List.mem_append.1 h with h | h
      · exact Or.inl (List.mem_of_mem_tail h)
      · simp only [List.mem_singleton] at h; exact Or.inr (by rw [h])
    · rcases List.mem_append.1 h with h | h
      · exact Or.inl h
      · simp only [List.mem_singleton] at h; exact Or.inr (by rw [h])

/-- A zone's block: none, or one. -/
abbrev zb (v : SV) : Nat → Prop := fun b => ∃ a, v.1 = some a ∧ b = a.block

/-- A complete entry more. -/
theorem ShAt.put {k : PK} {v : SV} {o : Option Int} {n : Nat} (h : ShAt w s room d rs) (hz : Zn w v o) (hv : ∀ a, v.1 = some a → ¬ s.all a.block) (hn : w.heap.size ≤ n) (hc : Ch s.F w w') (hd : KZ.Is w' (grow s.F n) s.pd room (putS room s.l k v)) :
    ShAt w' { s with F := grow s.F n, l := putS room s.l k v, Z := fun b => s.Z b ∨ zb v b } room (putS room d k o) rs := by
  have h1 := h.moreZ (E := zb v) (fun b ⟨a, ha, e⟩ => by rw [e]; exact ⟨hv a ha, hz.lt a ha⟩)
  have hz' : Zn w' v o := hz.kept hc (fun a ha hF => hv a ha (Or.inr (Or.inr (Or.inr (Or.inl hF)))))
  refine h1.listed hc hd (fun b hb => hb.imp id (fun e => by rw [e]; exact hn)) ((h1.told_kept hc).putS room k hz') (fun x hx a ha => ?_)
  rcases putS_mem hx with hx | hx
  · exact h1.zl x hx a ha
  · exact Or.inr ⟨a, by rw [← hx]; exact ha, rfl⟩

/-- What stands ahead of the loop over those who wait. -/
structure ECut (s : ShB) (room : Int) (d' : List (PK × Option Int)) (rs : List (Int × Option Int × Int)) (w : World) (k : PK) (y : PK × Fl) (s5 : ShB) (v2 : SV) (o' : Option Int) (wc : World) : Prop where
  at_ : ShAt wc s5 room d' rs
  zone : wc.rangeAt (w.heap.size + 1) 0 (zc (sv v2))
  zn : Zn wc v2 o'
  zl : ∀ a, v2.1 = some a → s5.Z a.block
  mine : Mine s w k wc
  fl : FlAt wc y.2
  p : s5.p = s.p
  mr : s5.mr = s.mr
  fls : s5.fl = del s.fl k
  all : ∀ b, s5.all b → (s.all b ∧ b ≠ y.2.bf ∧ b ≠ y.2.bw) ∨ w.heap.size + 2 ≤ b

theorem ECut.step {G : Nat → Prop} {k : PK} {y : PK × Fl} {s5 : ShB} {v2 : SV} {o' : Option Int} {wc wd : World} (hlt : ∀ b, s.all b → b < w.heap.size) (hy : y ∈ s.ff) (h : ECut s room d' rs w k y s5 v2 o' wc) (hc : Ch G wc wd)
    (hG : ∀ b, b < wc.heap.size → G b → ¬ s5.all b ∧ w.heap.size + 2 ≤ b) : ECut s room d' rs w k y s5 v2 o' wd := by
  have hbf := hlt y.2.bf (Or.inr (Or.inr (Or.inr (Or.inr (Or.inr ⟨y, hy, Or.inl rfl⟩)))))
  have hbw := hlt y.2.bw (Or.inr (Or.inr (Or.inr (Or.inr (Or.inr ⟨y, hy, Or.inr rfl⟩)))))
  have hsz := h.mine.sz
  have low : ∀ b, b < w.heap.size + 2 → ¬ G b := fun b hb hg => by have := (hG b (by omega) hg).2; omega
  exact ⟨h.at_.kept hc (fun b hb hE => (hG b (h.at_.lt b hb) hE).1 hb), hc.range (by omega) (low _ (by omega)) h.zone, h.zn.kept hc (fun a ha hE => (hG _ (h.zn.lt a ha) hE).1 (Or.inr (Or.inr (Or.inr (Or.inr (Or.inl (h.zl a ha))))))), h.zl,
    h.mine.step hlt hc (fun b hb hG' => Or.inr (hG b hb hG').2), h.fl.kept hc (low _ (by omega)) (low _ (by omega)), h.p, h.mr, h.fls, h.all⟩

theorem ECut.fill {k : PK} {y : PK × Fl} {s5 : ShB} {v2 : SV} {o' : Option Int} {wc : World} {dn : List Int} {e j : Int} (hlt : ∀ b, s.all b → b < w.heap.size) (hy : y ∈ s.ff)
    (h : ECut s room d' (fillR rs dn (o', e)) w k y { s5 with rr := fillR s5.rr dn (v2, e) } v2 o' wc) (hj : KI.ok j) (hjd : j ∉ dn) :
    ∃ o, (Instr.mapUpdate 129 (.map (some s.mr)) (.int .i64 j) (RA (v2, e))).run Try.prog wc = .ok () (setBlock wc s.mr o) ∧ Ch (fun b => b = s.mr) wc (setBlock wc s.mr o) ∧
      ECut s room d' (fillR rs (dn ++ [j]) (o', e)) w k y { s5 with rr := fillR s5.rr (dn ++ [j]) (v2, e) } v2 o' (setBlock wc s.mr o) := by
  have hmr : s5.mr = s.mr := h.mr
  obtain ⟨o, hrun, hmm⟩ := h.at_.results.put KI Try.underlying129 j hj (RA (v2, e))
  simp only [hmr] at hrun hmm
  have hc : Ch (fun b => b = s.mr) wc (setBlock wc s.mr o) := (Ch.refl (fun b => b = s.mr) wc).setBlock (m := s.mr) (fun _ => rfl) o
  have hbf := hlt y.2.bf (Or.inr (Or.inr (Or.inr (Or.inr (Or.inr ⟨y, hy, Or.inl rfl⟩)))))
  have hbw := hlt y.2.bw (Or.inr (Or.inr (Or.inr (Or.inr (Or.inr ⟨y, hy, Or.inr rfl⟩)))))
  have hmrl := hlt s.mr (Or.inr (Or.inr (Or.inl rfl)))
  have hne : y.2.bf ≠ s.mr ∧ y.2.bw ≠ s.mr := by
    rcases h.all s.mr (Or.inr (Or.inr (Or.inl hmr.symm))) with h1 | h1
    · exact ⟨fun e1 => h1.2.1 e1.symm, fun e1 => h1.2.2 e1.symm⟩
    · exact ⟨by omega, by omega⟩
  have e1 : ((fillR s5.rr dn (v2, e)).map fun x => (x.1, RA x.2)).filter (fun x => x.1 ≠ j) ++ [(j, RA (v2, e))] = (fillR s5.rr (dn ++ [j]) (v2, e)).map fun x => (x.1, RA x.2) := by
    rw [fillR_map RA, fillR_map RA]; exact fillR_step _ _ _ _ hjd
  rw [e1] at hmm
  have hzs : ∀ a, v2.1 = some a → a.block ≠ s.mr := fun a ha e2 => h.at_.zs (by show s5.Z s5.mr; rw [hmr, ← e2]; exact h.zl a ha)
  have htold : Rel (fun v z => Zn wc v.1 z.1 ∧ v.2 = z.2) (fillR s5.rr (dn ++ [j]) (v2, e)) (fillR rs (dn ++ [j]) (o', e)) := by
    have h1 := h.at_.tolds
    have h2 : Rel (fun v z => Zn wc v.1 z.1 ∧ v.2 = z.2) [(j, v2, e)] [(j, o', e)] := Rel.one ⟨h.zn, rfl⟩
    rw [← fillR_step _ _ _ _ hjd, ← fillR_step _ _ _ _ hjd]
    exact (h1.filter (fun x => decide (x ≠ j))).append h2
  have hat := h.at_.setR (rr' := fillR s5.rr (dn ++ [j]) (v2, e)) (by rw [show ({ s5 with rr := fillR s5.rr dn (v2, e) } : ShB).mr = s.mr from hmr]; exact hc) (by rw [show ({ s5 with rr := fillR s5.rr dn (v2, e) } : ShB).mr = s.mr from hmr]; exact hmm) htold (fun x hx a ha => by
    rw [← fillR_step _ _ _ _ hjd] at hx
    rcases List.mem_append.1 hx with hx | hx
    · exact h.at_.zr x (List.mem_filter.1 hx).1 a ha
    · simp only [List.mem_singleton] at hx
      subst hx
      exact h.zl a ha)
  refine ⟨o, hrun, hc, hat, hc.range (by have := h.mine.sz; omega) (by omega) h.zone, h.zn.kept hc hzs, h.zl, h.mine.step hlt hc (fun b _ e2 => Or.inl (by rw [e2]; exact Or.inr (Or.inr (Or.inl rfl)))), h.fl.kept hc hne.1 hne.2, h.p, h.mr, h.fls, h.all⟩

/-- What End leaves. -/
def EPost (s : ShB) (room : Int) (d' : List (PK × Option Int)) (rs' : List (Int × Option Int × Int)) (w : World) (k : PK) (w' : World) : Prop :=
  ∃ s', ShAt w' s' room d' rs' ∧ s'.p = s.p ∧ s'.fl = del s.fl k ∧ (∀ b, s'.all b → s.all b ∨ w.heap.size ≤ b) ∧ Ch s.all w w'

/-- What holds at each round's head. -/
def ELoop (s : ShB) (room : Int) (d' : List (PK × Option Int)) (rs : List (Int × Option Int × Int)) (w : World) (k : PK) (y : PK × Fl) (s5 : ShB) (v2 : SV) (o' : Option Int) (e : Int) (r : Nat) (wr : World) : Prop :=
  ∃ todo dn, Ranging KI wr y.2.bw r (wl y.2.waits) todo ∧ (dn ++ todo.map Prod.fst).Perm y.2.waits ∧ ECut s room d' (fillR rs dn (o', e)) w k y { s5 with rr := fillR s5.rr dn (v2, e) } v2 o' wr ∧ Rel (fun v z => Zn wr v.1 z.1 ∧ v.2 = z.2) s5.rr rs

theorem ELoop.start {k : PK} {y : PK × Fl} {s5 : ShB} {v2 : SV} {o' : Option Int} {e : Int} {r : Nat} {wr : World} (h : ECut s room d' rs w k y s5 v2 o' wr) (hr : Ranging KI wr y.2.bw r (wl y.2.waits) (wl y.2.waits)) : ELoop s room d' rs w k y s5 v2 o' e r wr := by
  refine ⟨wl y.2.waits, [], hr, ?_, ?_, h.at_.tolds⟩
  · have e1 : (wl y.2.waits).map Prod.fst = y.2.waits := by rw [List.map_map]; exact List.map_id _
    rw [List.nil_append, e1]
  · rw [fillR_nil, fillR_nil]; exact h

theorem ELoop.done {k : PK} {y : PK × Fl} {s5 : ShB} {v2 : SV} {o' : Option Int} {e : Int} {dn : List Int} {wr : World} (hp : (dn ++ ([] : List (Int × Value)).map Prod.fst).Perm y.2.waits)
    (h : ECut s room d' (fillR rs dn (o', e)) w k y { s5 with rr := fillR s5.rr dn (v2, e) } v2 o' wr) (hrs : Rel (fun v z => Zn wr v.1 z.1 ∧ v.2 = z.2) s5.rr rs) : EPost s room d' (fillR rs y.2.waits (o', e)) w k wr := by
  rw [List.map_nil, List.append_nil] at hp
  have hm : MapIs KI.val KI.ok wr s5.mr ((fillR s5.rr y.2.waits (v2, e)).map fun x => (x.1, RA x.2)) := h.at_.results.perm KI ((fillR_perm s5.rr hp (v2, e)).map _)
  have hat := h.at_.setR (rr' := fillR s5.rr y.2.waits (v2, e)) (Ch.refl _ wr) hm (fillR_rel (b := (o', e)) hrs _ ⟨h.zn, rfl⟩) (fun x hx a ha => h.at_.zr x ((fillR_perm s5.rr hp (v2, e)).mem_iff.2 hx) a ha)
  exact ⟨_, hat, h.p, h.fls, fun b hb => (h.all b hb).imp (fun h => h.1) (fun h => by omega), h.mine.ch⟩

theorem ELoop.held {k : PK} {y : PK × Fl} {s5 : ShB} {v2 : SV} {o' : Option Int} {e : Int} {r : Nat} {wr : World} (h : ELoop s room d' rs w k y s5 v2 o' e r wr) :
    wr.cell? ⟨s.p, 2, none⟩ = some (.map (some s.mr)) ∧ wr.rangeAt (w.heap.size + 1) 0 (zc (sv v2)) := by
  obtain ⟨todo, dn, -, -, h, -⟩ := h
  have h1 : s5.p = s.p := h.p
  have h2 : s5.mr = s.mr := h.mr
  have h3 : wr.cell? ⟨s5.p, 2, none⟩ = some (.map (some s5.mr)) := h.at_.c2
  rw [h1, h2] at h3
  exact ⟨h3, h.zone⟩

theorem end_round {k : PK} {y : PK × Fl} {s5 : ShB} {v2 : SV} {o' : Option Int} {e : Int} {r : Nat} {wr w4 : World} {todo a c : List (Int × Value)} {dn : List Int} {x : Int × Value} (hlt : ∀ b, s.all b → b < w.heap.size) (hy : y ∈ s.ff) (hnr : ¬ s5.all r ∧ w.heap.size + 2 ≤ r) (hbw : y.2.bw ≠ s.mr)
    (hnd : y.2.waits.Nodup) (hp : (dn ++ todo.map Prod.fst).Perm y.2.waits) (h : ECut s room d' (fillR rs dn (o', e)) w k y { s5 with rr := fillR s5.rr dn (v2, e) } v2 o' wr) (ht : todo = a ++ x :: c)
    (hr4 : Ranging KI w4 y.2.bw r (wl y.2.waits) (a ++ c)) (hc4 : Ch (fun b => b = r) wr w4) (hrs : Rel (fun v z => Zn wr v.1 z.1 ∧ v.2 = z.2) s5.rr rs) (hzr : ∀ x ∈ s5.rr, ∀ a, x.2.1.1 = some a → s5.Z a.block) :
    w4.cell? ⟨s.p, 2, none⟩ = some (.map (some s.mr)) ∧ w4.rangeAt (w.heap.size + 1) 0 (zc (sv v2)) ∧
      ∃ o, (Instr.mapUpdate 129 (.map (some s.mr)) (.int .i64 x.1) (RA (v2, e))).run Try.prog w4.drew = .ok () (setBlock w4.drew s.mr o) ∧ ELoop s room d' rs w k y s5 v2 o' e r (setBlock w4.drew s.mr o) ∧
        (setBlock w4.drew s.mr o).rangeLeft y.2.bw r = (a ++ c).length := by
  have h4 := h.step hlt hy (hc4.drew) (fun b _ e => ⟨fun hb => hnr.1 (by rw [← e]; exact hb), by rw [e]; exact hnr.2⟩)
  have hok : KI.ok x.1 := by
    obtain ⟨_, _, _, _, _, _, _, _, hok, _⟩ := hr4
    have hx : x.1 ∈ y.2.waits := hp.mem_iff.1 (by rw [ht]; simp)
    exact hok (x.1, .bool true) (List.mem_map.2 ⟨x.1, hx, rfl⟩)
  have hnd' : (dn ++ todo.map Prod.fst).Nodup := hp.nodup_iff.2 hnd
  have hxd : x.1 ∉ dn := fun hin => (List.nodup_append.1 hnd').2.2 _ hin x.1 (by rw [ht]; simp) rfl
  obtain ⟨o, hrun, hc5, h5⟩ := h4.fill hlt hy hok hxd
  have hr4' : Ranging KI w4.drew y.2.bw r (wl y.2.waits) (a ++ c) := hr4.kept KI rfl rfl
  have hr5 := hr4'.kept KI (hc5.block _ (hr4'.mapIs.lt KI) hbw) (hc5.block _ (hr4'.lt KI) (fun e1 => by have := hlt s.mr (Or.inr (Or.inr (Or.inl rfl))); omega))
  have c2 : w4.cell? ⟨s.p, 2, none⟩ = some (.map (some s.mr)) := by
    have := h4.at_.c2
    rw [show ({ s5 with rr := fillR s5.rr dn (v2, e) } : ShB).p = s.p from h.p, show ({ s5 with rr := fillR s5.rr dn (v2, e) } : ShB).mr = s.mr from h.mr] at this
    exact this
  refine ⟨c2, h4.zone, o, hrun, ⟨a ++ c, dn ++ [x.1], hr5, ?_, h5, ?_⟩, hr5.left_eq KI⟩
  rotate_left
  · refine hrs.mono (fun z hz t ⟨h6, h7⟩ => ⟨(h6.kept hc4.drew (fun a ha e1 => hnr.1 (by rw [← e1]; exact Or.inr (Or.inr (Or.inr (Or.inr (Or.inl (hzr z hz a ha)))))))).kept hc5 (fun a ha e1 => ?_), h7⟩)
    have hzs := h4.at_.zs
    rw [show ({ s5 with rr := fillR s5.rr dn (v2, e) } : ShB).mr = s.mr from h.mr, ← e1] at hzs
    exact hzs (hzr z hz a ha)
  refine List.Perm.trans ?_ hp
  rw [ht, List.map_append, List.map_append, List.map_cons, List.append_assoc]
  refine List.Perm.append_left _ ?_
  exact (List.perm_middle (a := x.1) (l₁ := a.map Prod.fst) (l₂ := c.map Prod.fst)).symm

/-- The shard without that flight: its blocks are none of the flight's. -/
theorem del_all (h : ShAt w s room d rs) {k : PK} {y : PK × Fl} (hy : y ∈ s.ff) (hyk : y.1 = k) (b : Nat) (hb : ({ s with ff := del s.ff k } : ShB).all b) : s.all b ∧ b ≠ y.2.bf ∧ b ≠ y.2.bw := by
  have up : s.all b := by
    rcases hb with hb | hb | hb | hb | hb | ⟨x, hx, hb⟩
    · exact Or.inl hb
    · exact Or.inr (Or.inl hb)
    · exact Or.inr (Or.inr (Or.inl hb))
    · exact Or.inr (Or.inr (Or.inr (Or.inl hb)))
    · exact Or.inr (Or.inr (Or.inr (Or.inr (Or.inl hb))))
    · exact Or.inr (Or.inr (Or.inr (Or.inr (Or.inr ⟨x, (List.mem_filter.1 hx).1, hb⟩))))
  refine ⟨up, ?_⟩
  rcases hb with hb | hb | hb | hb | hb | ⟨x, hx, hb⟩
  · rw [hb]; exact ⟨(h.pf y hy).1.symm, (h.pf y hy).2.symm⟩
  · rw [hb]; exact ⟨(h.mf y hy).1.symm, (h.mf y hy).2.symm⟩
  · rw [hb]; exact ⟨(h.mr y hy).1.symm, (h.mr y hy).2.symm⟩
  · exact ⟨fun e => (h.ff y hy).1 (e ▸ hb), fun e => (h.ff y hy).2 (e ▸ hb)⟩
  · exact ⟨fun e => (h.zf y hy).1 (e ▸ hb), fun e => (h.zf y hy).2 (e ▸ hb)⟩
  · obtain ⟨hxs, hxk⟩ := List.mem_filter.1 hx
    simp only [ne_eq, decide_eq_true_eq] at hxk
    have hxy : x ≠ y := fun e => hxk (by rw [e]; exact hyk)
    have nbw : x.2.bw ≠ y.2.bw := fun e => hxy (h.ffBw hy hxs e)
    have nbf : x.2.bf ≠ y.2.bf := fun e => by
      have h1 := (h.each x hxs).map
      have h2 := (h.each y hy).map
      rw [e, h2] at h1
      simp only [Option.some.injEq, Value.map.injEq] at h1
      exact nbw h1.symm
    rcases hb with hb | hb
    · rw [hb]; exact ⟨nbf, h.bb x hxs y hy⟩
    · rw [hb]; exact ⟨fun e => h.bb y hy x hxs e.symm, nbw⟩

theorem del_fl (s : ShB) (k : PK) : ({ s with ff := del s.ff k } : ShB).fl = del s.fl k := by
  unfold ShB.fl del
  rw [List.filter_map]
  rfl

/-- Behind the copy: the flight is gone, the zone has lists of its own. -/
structure EPre (s : ShB) (room : Int) (d : List (PK × Option Int)) (rs : List (Int × Option Int × Int)) (w : World) (k : PK) (y : PK × Fl) (v' : SV) (o : Option Int) (wc : World) : Prop where
  at_ : ShAt wc { s with ff := del s.ff k } room d rs
  zone : wc.rangeAt (w.heap.size + 1) 0 (zc (sv v'))
  zn : Zn wc v' o
  zf : Zfrom (w.heap.size + 2) v'
  mine : Mine s w k wc
  fl : FlAt wc y.2

theorem end_del {k : PK} (hk : KP.ok k) {w2 : World} {y : PK × Fl} (hlt : ∀ b, s.all b → b < w.heap.size) (h : ShAt w2 s room d rs) (hm : Mine s w k w2) (hy : y ∈ s.ff) :
    ∃ o, (Builtin.delete_ #[128, 58] 0 #[.map (some s.mf), KK k]).run Try.prog w2 = .ok (.tuple #[]) (setBlock w2 s.mf o) ∧ Ch (fun b => b = s.mf) w2 (setBlock w2 s.mf o) ∧
      ShAt (setBlock w2 s.mf o) { s with ff := del s.ff k } room d rs ∧ Mine s w k (setBlock w2 s.mf o) ∧ FlAt (setBlock w2 s.mf o) y.2 := by
  obtain ⟨o, hrun, hmm⟩ := h.flies.del KP Try.underlying128 k hk 0
  have hc : Ch (fun b => b = s.mf) w2 (setBlock w2 s.mf o) := (Ch.refl (fun b => b = s.mf) w2).setBlock (m := s.mf) (fun _ => rfl) o
  exact ⟨o, hrun, hc, h.delF hc k hmm, hm.step hlt hc (fun b _ e => Or.inl (Or.inr (Or.inl e))), (h.each y hy).kept hc (h.mf y hy).1 (h.mf y hy).2⟩

theorem end_pre {k : PK} {w3 w4 : World} {y : PK × Fl} {v' : SV} {o : Option Int} (hlt : ∀ b, s.all b → b < w.heap.size) (hy : y ∈ s.ff) (h : ShAt w3 { s with ff := del s.ff k } room d rs) (hm : Mine s w k w3) (hf : FlAt w3 y.2)
    (hz : Zn w4 v' o) (hv : Zfrom w3.heap.size v') (hb : Below w3.heap.size w3 w4) : w4.there (w.heap.size + 1) 0 21 ∧ EPre s room d rs w k y v' o (w4.setCells (w.heap.size + 1) 0 (zc (sv v'))) := by
  have hbf := hlt y.2.bf (Or.inr (Or.inr (Or.inr (Or.inr (Or.inr ⟨y, hy, Or.inl rfl⟩)))))
  have hbw := hlt y.2.bw (Or.inr (Or.inr (Or.inr (Or.inr (Or.inr ⟨y, hy, Or.inr rfl⟩)))))
  have hc4 := Ch.of_none hb (fun _ => False)
  have hs := hm.sz
  have hm4 := hm.step hlt hc4 (fun _ _ h => h.elim)
  have hc5 : Ch (fun b => b = w.heap.size + 1) w4 (w4.setCells (w.heap.size + 1) 0 (zc (sv v'))) := Ch.setCells (F := fun b => b = w.heap.size + 1) (fun _ => rfl) _ _ (Ch.refl _ _)
  have hall : ∀ b, ({ s with ff := del s.ff k } : ShB).all b → b < w.heap.size := fun b hb => by
    rcases hb with hb | hb | hb | hb | hb | ⟨x, hx, hb⟩
    · exact hlt b (Or.inl hb)
    · exact hlt b (Or.inr (Or.inl hb))
    · exact hlt b (Or.inr (Or.inr (Or.inl hb)))
    · exact hlt b (Or.inr (Or.inr (Or.inr (Or.inl hb))))
    · exact hlt b (Or.inr (Or.inr (Or.inr (Or.inr (Or.inl hb)))))
    · exact hlt b (Or.inr (Or.inr (Or.inr (Or.inr (Or.inr ⟨x, (List.mem_filter.1 hx).1, hb⟩)))))
  refine ⟨hm4.zt, (h.kept hc4 (fun _ _ h => h)).kept hc5 (fun b hb e => by have := hall b hb; omega), World.rangeAt_setCells_same _ _ _ _ hm4.zt, hz.kept hc5 (fun a ha e => by have := hv a ha; omega), fun a ha => by have := hv a ha; omega, ?_,
    (hf.kept hc4 (fun h => h) (fun h => h)).kept hc5 (by omega) (by omega)⟩
  exact ⟨(hc5.cell (p := ⟨w.heap.size, 0, none⟩) (by have := hm4.sz; simp only; omega) (by simp only; omega)).trans hm4.k0, (hc5.cell (p := ⟨w.heap.size, 1, none⟩) (by have := hm4.sz; simp only; omega) (by simp only; omega)).trans hm4.k1, World.there_setCells hm4.zt _ _ _, hm4.ch.trans hc5 (fun b hb e => by omega), Nat.le_trans hm4.sz hc5.size⟩

theorem sub_all (s : ShB) (k : PK) (b : Nat) (hb : ({ s with ff := del s.ff k } : ShB).all b) : s.all b := by
  rcases hb with hb | hb | hb | hb | hb | ⟨x, hx, hb⟩
  · exact Or.inl hb
  · exact Or.inr (Or.inl hb)
  · exact Or.inr (Or.inr (Or.inl hb))
  · exact Or.inr (Or.inr (Or.inr (Or.inl hb)))
  · exact Or.inr (Or.inr (Or.inr (Or.inr (Or.inl hb))))
  · exact Or.inr (Or.inr (Or.inr (Or.inr (Or.inr ⟨x, (List.mem_filter.1 hx).1, hb⟩))))

theorem EPre.put {k : PK} {y : PK × Fl} {v' : SV} {o : Option Int} {w5 w6 : World} {n : Nat} (hlt : ∀ b, s.all b → b < w.heap.size) (hy : y ∈ s.ff) (hda : ∀ b, ({ s with ff := del s.ff k } : ShB).all b → s.all b ∧ b ≠ y.2.bf ∧ b ≠ y.2.bw)
    (h : EPre s room d rs w k y v' o w5) (hn : w5.heap.size ≤ n) (hc : Ch s.F w5 w6) (hd : KZ.Is w6 (grow s.F n) s.pd room (putS room s.l k v')) :
    ECut s room (putS room d k o) rs w k y { s with ff := del s.ff k, F := grow s.F n, l := putS room s.l k v', Z := fun b => s.Z b ∨ zb v' b } v' o w6 := by
  have hbf := hlt y.2.bf (Or.inr (Or.inr (Or.inr (Or.inr (Or.inr ⟨y, hy, Or.inl rfl⟩)))))
  have hbw := hlt y.2.bw (Or.inr (Or.inr (Or.inr (Or.inr (Or.inr ⟨y, hy, Or.inr rfl⟩)))))
  have aF : ∀ b, s.F b → s.all b := fun b hb => Or.inr (Or.inr (Or.inr (Or.inl hb)))
  have hs := h.mine.sz
  have h1 := h.at_.put (k := k) h.zn (fun a ha hb => by have := hlt _ (sub_all s k _ hb); have := h.zf a ha; omega) hn hc hd
  exact {
    at_ := h1
    zone := hc.range (by omega) (fun hF => by have := hlt _ (aF _ hF); omega) h.zone
    zn := h.zn.kept hc (fun a ha hF => by have := hlt _ (aF _ hF); have := h.zf a ha; omega)
    zl := fun a ha => Or.inr ⟨a, ha, rfl⟩
    mine := h.mine.step hlt hc (fun b _ hF => Or.inl (aF b hF))
    fl := h.fl.kept hc (fun hF => (hda _ (Or.inr (Or.inr (Or.inr (Or.inl hF))))).2.1 rfl) (fun hF => (hda _ (Or.inr (Or.inr (Or.inr (Or.inl hF))))).2.2 rfl)
    p := rfl
    mr := rfl
    fls := del_fl s k
    all := fun b hb => by
      rcases hb with hb | hb | hb | hb | hb | ⟨x, hx, hb⟩
      · exact Or.inl (hda b (Or.inl hb))
      · exact Or.inl (hda b (Or.inr (Or.inl hb)))
      · exact Or.inl (hda b (Or.inr (Or.inr (Or.inl hb))))
      · rcases hb with hb | hb
        · exact Or.inl (hda b (Or.inr (Or.inr (Or.inr (Or.inl hb)))))
        · exact Or.inr (by rw [hb]; omega)
      · rcases hb with hb | ⟨a, ha, e⟩
        · exact Or.inl (hda b (Or.inr (Or.inr (Or.inr (Or.inr (Or.inl hb))))))
        · exact Or.inr (by rw [e]; exact h.zf a ha)
      · exact Or.inl (hda b (Or.inr (Or.inr (Or.inr (Or.inr (Or.inr ⟨x, hx, hb⟩)))))) }

theorem EPre.err {k : PK} {y : PK × Fl} {v' : SV} {o : Option Int} {w5 : World} (hlt : ∀ b, s.all b → b < w.heap.size) (hy : y ∈ s.ff) (hda : ∀ b, ({ s with ff := del s.ff k } : ShB).all b → s.all b ∧ b ≠ y.2.bf ∧ b ≠ y.2.bw)
    (h : EPre s room d rs w k y v' o w5) : ECut s room d rs w k y { s with ff := del s.ff k } (none, 0, 0) none (w5.setCells (w.heap.size + 1) 0 (zc (sv (none, 0, 0)))) := by
  have hbf := hlt y.2.bf (Or.inr (Or.inr (Or.inr (Or.inr (Or.inr ⟨y, hy, Or.inl rfl⟩)))))
  have hbw := hlt y.2.bw (Or.inr (Or.inr (Or.inr (Or.inr (Or.inr ⟨y, hy, Or.inr rfl⟩)))))
  have hs := h.mine.sz
  have hc : Ch (fun b => b = w.heap.size + 1) w5 (w5.setCells (w.heap.size + 1) 0 (zc (sv (none, 0, 0)))) := Ch.setCells (F := fun b => b = w.heap.size + 1) (fun _ => rfl) _ _ (Ch.refl _ _)
  exact {
    at_ := h.at_.kept hc (fun b hb e => by have := hlt _ (sub_all s k b hb); omega)
    zone := World.rangeAt_setCells_same _ _ _ _ h.mine.zt
    zn := rfl
    zl := fun a ha => by cases ha
    mine := ⟨(hc.cell (p := ⟨w.heap.size, 0, none⟩) (by simp only; omega) (by simp only; omega)).trans h.mine.k0, (hc.cell (p := ⟨w.heap.size, 1, none⟩) (by simp only; omega) (by simp only; omega)).trans h.mine.k1, World.there_setCells h.mine.zt _ _ _, h.mine.ch.trans hc (fun b hb e => by omega), Nat.le_trans hs hc.size⟩
    fl := h.fl.kept hc (by omega) (by omega)
    p := rfl
    mr := rfl
    fls := del_fl s k
    all := fun b hb => Or.inl (hda b hb) }

set_option maxRecDepth 100000 in
theorem res_build (v : SV) (e : Int) (A : Array Value) (h : (List.foldl (fun (cs : Array Value) (x : Value × Nat) => cs.setIfInBounds x.2 x.1)
          #[Value.slice none 0 0, Value.slice none 0 0, Value.slice none 0 0, Value.int IntKind.i64 0, Value.bool false, Value.string { data := #[] },
            Value.int IntKind.i64 0, Value.bool false, Value.string { data := #[] }, Value.bool false,
            Value.int IntKind.i64 0, Value.int IntKind.i64 0, Value.int IntKind.i64 0, Value.int IntKind.i64 0,
            Value.int IntKind.i64 0, Value.int IntKind.i64 0, Value.int IntKind.i64 0, Value.int IntKind.i64 0,
            Value.int IntKind.i64 0, Value.int IntKind.i64 0, Value.bool false, Value.int IntKind.i64 0]
          (zc (sv v)).zipIdx) = A) : A.size = 22 ∧ A.setIfInBounds 21 (.int .i64 e) = (rc v e).toArray := by
  subst h
  constructor
  · simp [zc, List.zipIdx_cons]
  · simp [zc, rc, List.zipIdx_cons]

set_option maxRecDepth 100000 in
set_option maxHeartbeats 1000000 in
/-- The one that leads ends. -/
theorem end_yes (h : ShAt w s room d rs) (i : Int) (k : PK) (hk : KP.ok k) (v : SV) (o : Option Int) (e : Int) {y : PK × Fl} (hy : y ∈ s.ff) (hyk : y.1 = k) (hl : y.2.lead = i) (hz : Zn w v o) (hnz : ∀ a, v.1 = some a → ¬ s.all a.block) (d2 : List (PK × Option Int)) (o2 : Option Int)
    (hdo : (e = 0 ∧ d2 = putS room d k o ∧ o2 = o) ∨ (e ≠ 0 ∧ d2 = d ∧ o2 = none)) :
    Calls Try.prog 42 #[.pointer (some ⟨s.p, 0, none⟩), .int .i64 i, KK k, ZA v, .int .i64 e] w fun x w' => x = .returned (.int .i64 0) ∧
      EPost s room d2 (fillR rs y.2.waits (o2, e)) w k w' := by
  have HA := Lib.hid h.lt
  have hb := EW.below w k v
  have hm := EW.mine s w k v
  have hzr := EW.zone w k v
  have h1 := h.kept (Ch.of_none hb (fun _ => False)) (fun _ _ h => h)
  have hz1 := hz.below hb
  have HWN := Lib.hid (show y.2.waits.Nodup by
    have := (h.each y hy).waits.nodup KI
    rw [List.map_map] at this
    exact (List.map_id y.2.waits) ▸ this)
  have HNZ := Lib.hid hnz
  have HDO := Lib.hid hdo
  have HDA := Lib.hid (del_all h hy hyk)
  have HY := Lib.hid hy
  have HR := Lib.hid (h.mr y hy)
  have HYK := Lib.hid hyk
  clear h hz hnz hdo
  go_enter Try.func42, Try.ntmps42
  go_upto_region 1 with fail
  change Code.wp _ _ _ _ (EW w k v)
  revert hb hm h1 hzr hz1
  generalize EW w k v = w1
  intro hb hm hzr h1 hz1
  have hlook : ∀ n, (Instr.lookup 128 (.map (some s.mf)) (KK k) false).run Try.prog (w1.drewN n) = .ok (.pointer (some ⟨y.2.bf, 0, none⟩)) (w1.drewN n) := fun n => by
    have := h1.lookF hy (by rw [hyk]; exact hk) n
    rw [← hyk]; exact this
  have c1 := h1.c1
  have k0 := hm.k0
  have k1 := hm.k1
  have cl := (h1.each y hy).lead
  have hne : (y.2.lead != i) = false := by simp [hl]
  have H1 := Lib.hid h1
  have HM := Lib.hid hm
  have HZR := Lib.hid hzr
  have HZ1 := Lib.hid hz1
  clear h1 hm hy hyk hl hb hzr hz1
  go_upto_region 2 with (go_quiet (fail))
  go_upto_region 4 with fail
  have h2 := H1.out.kept (E := fun _ => False) ((Ch.refl _ w1).drewN nq) (fun _ _ h => h)
  have hm2 := HM.out.step HA.out (G := fun _ => False) ((Ch.refl _ w1).drewN nq) (fun _ _ h => h.elim)
  have hz2 : (w1.drewN nq).rangeAt (w.heap.size + 1) 0 (zc (sv v)) := HZR.out
  have hzn2 : Zn (w1.drewN nq) v o := HZ1.out.kept (F := fun _ => False) ((Ch.refl _ w1).drewN nq) (fun _ _ h => h)
  clear hlook c1 k0 k1 cl H1 HM HZR HZ1
  revert h2 hm2 hz2 hzn2
  generalize w1.drewN nq = w2
  intro h2 hm2 hz2 hzn2
  have c1 := h2.c1
  have k0 := hm2.k0
  have k1 := hm2.k1
  have H2 := Lib.hid (h2.kept (E := fun _ => False) ((Ch.refl _ w2).drew) (fun _ _ h => h))
  have HM2 := Lib.hid (hm2.step HA.out (G := fun _ => False) ((Ch.refl _ w2).drew) (fun _ _ h => h.elim))
  have HZ2 := Lib.hid (show w2.drew.rangeAt (w.heap.size + 1) 0 (zc (sv v)) from hz2)
  have HZN2 := Lib.hid (hzn2.kept (F := fun _ => False) ((Ch.refl _ w2).drew) (fun _ _ h => h))
  clear h2 hm2 hz2 hzn2
  go_still_tail 5, (by kernel_rfl)
  change wpList _ _ _ _ _ w2.drew
  obtain ⟨o4, hrun, hc3, h3, hm3, hf3⟩ := end_del hk HA.out H2.out HM2.out HY.out
  have hz3 := hc3.range (by have := HM2.out.sz; omega) (by have := HA.out s.mf (Or.inr (Or.inl rfl)); omega) HZ2.out
  have hzn3 := HZN2.out.kept hc3 (fun a ha e1 => HNZ.out a ha (by rw [e1]; exact Or.inr (Or.inl rfl)))
  have H3 := Lib.hid h3
  have HM3 := Lib.hid hm3
  have HF3 := Lib.hid hf3
  have HZN3 := Lib.hid hzn3
  clear h3 hm3 hf3 hc3 H2 HM2 HZ2 HZN2 hzn3 k0 k1
  go_upto_region 5 with fail
  clear hrun c1
  revert hz3 H3 HM3 HF3 HZN3
  generalize setBlock w2.drew s.mf o4 = w3
  intro hz3 H3 HM3 HF3 HZN3
  go_wp2_with (refine wpList_load_mid (by rfl) 69 (.tmp 8) (by rfl) (w.heap.size + 1) 0 (by rfl) (zc (sv v)) _ (by exact hz3) Try.underlying69 rfl (size69 _) ?_)
  refine (copied65 HZN3.out).mono ?_
  rintro x w4 ⟨v', rfl, hz4, hf4, hb4⟩
  obtain ⟨ht4, hpre⟩ := end_pre HA.out HY.out H3.out HM3.out HF3.out hz4 hf4 hb4
  have HP := Lib.hid hpre
  clear hz4 hf4 hb4 hpre H3 HM3 HF3 HZN3 hz3
  go_upto_if 37 with (refine wpList_store_mid (by rfl) 69 (.tmp 8) (.tmp 35) (by rfl) (w.heap.size + 1) 0 (za (sv v')) (by rfl) (by rfl) (by exact ht4) (size69' _) (za_one rfl) ?_)
  rw [za_toList]
  revert HP
  generalize w4.setCells (w.heap.size + 1) 0 (zc (sv v')) = w5
  intro HP
  clear ht4 w4
  go_cut [10] (fun _ wc => ∃ v2 s5, ECut s room d2 rs w k y s5 v2 o2 wc ∧ ∀ x ∈ s5.rr, ∀ a, x.2.1.1 = some a → s5.Z a.block)
  case first =>
    rcases HDO.out with ⟨he, hd2, ho2⟩ | ⟨he, hd2, ho2⟩
    · subst he hd2 ho2
      have c0 : w5.cell? ⟨s.p, 0, none⟩ = some (.pointer (some ⟨s.pd, 0, none⟩)) := HP.out.at_.c0
      have hkey := HP.out.mine.key
      have hzo := HP.out.zone
      go_upto_region 7 with fail
      refine wp_region_held_drew (S := fun w' => w'.cell? ⟨s.p, 0, none⟩ = some (.pointer (some ⟨s.pd, 0, none⟩)) ∧ w'.rangeAt w.heap.size 0 [.int .i64 k.1, .string k.2] ∧ w'.rangeAt (w.heap.size + 1) 0 (zc (sv v'))) (by kernel_rfl) ⟨c0, hkey, hzo⟩ (fun hH => ?_)
      refine wpAnyH_take (i := 0) (v := .pointer (some ⟨s.p, 0, none⟩)) rfl (by kernel_rfl) (by kernel_rfl) (by kernel_rfl) (fun _ _ _ h => h) (Or.inl ⟨by rfl, fun w' hS => by go_simp⟩) hH ?_
      refine wpAnyH_take (i := 1) (v := .pointer (some ⟨s.p, 0, none⟩)) rfl (by kernel_rfl) (by kernel_rfl) (by kernel_rfl) (fun _ _ _ h => h) (Or.inl ⟨by rfl, fun w' hS => by go_simp⟩) hH ?_
      refine wpAnyH_take (i := 2) (v := .pointer (some ⟨s.p, 0, none⟩)) rfl (by kernel_rfl) (by kernel_rfl) (by kernel_rfl) (fun _ _ _ h => h) (Or.inl ⟨by rfl, fun w' hS => by go_simp⟩) hH ?_
      refine wpAnyH_take (i := 3) (v := .pointer (some ⟨s.pd, 0, none⟩)) rfl (by kernel_rfl) (by kernel_rfl) (by kernel_rfl) (fun _ _ _ h => h) (Or.inl ⟨by rfl, fun w' hS => by obtain ⟨s1, s2⟩ := hS; go_simp⟩) hH ?_
      refine wpAnyH_take (i := 4) (v := KK k) rfl (by kernel_rfl) (by kernel_rfl) (by kernel_rfl) (fun _ _ _ h => h) (yieldsIf_load_mid (by rfl) 58 (.tmp 7) (by rfl) w.heap.size 0 (by rfl) [.int .i64 k.1, .string k.2] _ (fun w' hS => hS.2.1) Try.underlying58 rfl KZ.size58) hH ?_
      refine wpAnyH_take (i := 5) (v := ZA v') rfl (by kernel_rfl) (by kernel_rfl) (by kernel_rfl) (fun _ _ _ h => h) (yieldsIf_load_mid (by rfl) 69 (.tmp 8) (by rfl) (w.heap.size + 1) 0 (by rfl) (zc (sv v')) _ (fun w' hS => hS.2.2) Try.underlying69 rfl (size69 _)) hH ?_
      refine wpAnyH_ready (rs := [6]) (by kernel_rfl) (by simp) ?_
      refine AllReadyH.cons rfl (fun K hK => ?_) AllReadyH.nil
      go_simp
      refine (KZ.put_c (w := w5.drew) (v := v') HP.out.at_.done.drew hk).mono ?_
      rintro x w6 ⟨rfl, n, hn, hd6, hc6⟩
      have hcut := HP.out.put HA.out HY.out HDA.out hn hc6.of_drew hd6
      have HC := Lib.hid (show ∃ v2 s5, ECut s room (putS room d k o2) rs w k y s5 v2 o2 w6 ∧ ∀ x ∈ s5.rr, ∀ a, x.2.1.1 = some a → s5.Z a.block from ⟨_, _, hcut, fun x hx a ha => Or.inl (HP.out.at_.zr x hx a ha)⟩)
      have c06 : w6.cell? ⟨s.p, 0, none⟩ = some (.pointer (some ⟨s.pd, 0, none⟩)) := hcut.at_.c0
      have hkey6 := hcut.mine.key
      have hzo6 := hcut.zone
      clear hcut hd6 hc6
      refine hK.out _ _ ⟨c06, hkey6, hzo6⟩ (fun hH => ?_)
      clear hK K
      refine wpAnyH_done (by kernel_rfl) ?_ _
      go_wp2_with fail
      go_meet
      exact HC.out
    · subst hd2 ho2
      have hb : (e == 0) = false := beq_eq_false_iff_ne.2 he
      have ht5 := HP.out.mine.zt
      have HC := Lib.hid (show ∃ v2 s5, ECut s room d2 rs w k y s5 v2 none (w5.setCells (w.heap.size + 1) 0 (zc (sv (none, 0, 0)))) ∧ ∀ x ∈ s5.rr, ∀ a, x.2.1.1 = some a → s5.Z a.block from
        ⟨_, _, HP.out.err HA.out HY.out HDA.out, fun x hx a ha => HP.out.at_.zr x hx a ha⟩)
      go_wp2_with (refine wpList_store_mid (by rfl) 69 (.tmp 8) (.tmp 45) (by rfl) (w.heap.size + 1) 0 (za (sv (none, 0, 0))) (by rfl) (by rfl) (by exact ht5) (size69' _) (za_one rfl) ?_)
      go_meet
      exact HC.out
  case rest =>
    obtain ⟨v2, s5, hc5, hzr5⟩ := hcut
    have cm : wc.cell? ⟨y.2.bf, 1, none⟩ = some (.map (some y.2.bw)) := hc5.fl.map
    have hwt := Lib.hid hc5.fl.waits
    have HC := Lib.hid hc5
    have HZR5 := Lib.hid hzr5
    have HRNE := Lib.hid (show ¬ s5.all wc.heap.size ∧ w.heap.size + 2 ≤ wc.heap.size from ⟨fun hb => by have := hc5.at_.lt _ hb; omega, hc5.mine.sz⟩)
    clear hc5 hzr5 HP
    go_wp2_with (refine wpList_range_is KI wc (by rfl) (.tmp 49) 133 (by rfl) Try.underlying133 (by rfl) hwt.out ?_; intro w6 hr6 hb6; go_frame)
    go_loopw [12] (fun _ wr => ELoop s room d2 rs w k y s5 v2 o2 e wc.heap.size wr) (fun _ wr => wr.rangeLeft y.2.bw wc.heap.size)
    case atStart => exact ELoop.start (HC.out.step HA.out HY.out (Ch.of_below hb6) (fun b hb hG => by omega)) hr6
    case round =>
      obtain ⟨todo, dn, hrg, hp, hec, hrs⟩ := hrel
      have HRG := Lib.hid hrg
      have HPM := Lib.hid hp
      have HE := Lib.hid hec
      have HRS := Lib.hid hrs
      clear hp hec hrs hr6 hb6 cm
      go_wp2_with (at_next; refine wpList_next_is KI wr (by rfl) (.tmp 50) (by rfl) (by rfl) hrg ?_ ?_)
      · intro ht
        subst ht
        have HF := Lib.hid (ELoop.done HPM.out HE.out HRS.out)
        clear hrg HRG HPM HE HRS
        go_wp2
        go_ret
        exact ⟨rfl, HF.out⟩
      · intro x1 xv a c w4 ht hrg4 hen hc4 hs4
        obtain ⟨c2, hzo, o8, hrun, hel, hleft⟩ := end_round HA.out HY.out HRNE.out HR.out.2 HWN.out HPM.out HE.out ht hrg4 hc4 HRS.out HZR5.out
        have e1 : wr.rangeLeft y.2.bw wc.heap.size = todo.length := HRG.out.left_eq KI
        have hlt : (setBlock w4.drew s.mr o8).rangeLeft y.2.bw wc.heap.size < wr.rangeLeft y.2.bw wc.heap.size := by rw [e1, hleft, ht]; simp only [List.length_append, List.length_cons]; omega
        have HEL := Lib.hid hel
        have HLT := Lib.hid hlt
        have HRUN := Lib.hid hrun
        clear hel hlt e1 hleft ht hrg4 hc4 hs4 hrg hrun
        go_upto_region 12 with fail
        refine wp_region_held_drew (S := fun w' => w'.cell? ⟨s.p, 2, none⟩ = some (.map (some s.mr)) ∧ w'.rangeAt (w.heap.size + 1) 0 (zc (sv v2))) (by kernel_rfl) ⟨c2, hzo⟩ (fun hH => ?_)
        refine wpAnyH_take (i := 0) (v := .pointer (some ⟨s.p, 0, none⟩)) rfl (by kernel_rfl) (by kernel_rfl) (by kernel_rfl) (fun _ _ _ h => h) (Or.inl ⟨by rfl, fun w' hS => by go_simp⟩) hH ?_
        refine wpAnyH_take (i := 1) (v := .pointer (some ⟨s.p, 0, none⟩)) rfl (by kernel_rfl) (by kernel_rfl) (by kernel_rfl) (fun _ _ _ h => h) (Or.inl ⟨by rfl, fun w' hS => by go_simp⟩) hH ?_
        refine wpAnyH_take (i := 2) (v := .pointer (some ⟨s.p, 2, none⟩)) rfl (by kernel_rfl) (by kernel_rfl) (by kernel_rfl) (fun _ _ _ h => h) (Or.inl ⟨by rfl, fun w' hS => by go_simp⟩) hH ?_
        refine wpAnyH_take (i := 3) (v := .map (some s.mr)) rfl (by kernel_rfl) (by kernel_rfl) (by kernel_rfl) (fun _ _ _ h => h) (Or.inl ⟨by rfl, fun w' hS => by obtain ⟨s1, s2⟩ := hS; go_simp⟩) hH ?_
        refine wpAnyH_take (i := 4) (v := .int .i64 x1) rfl (by kernel_rfl) (by kernel_rfl) (by kernel_rfl) (fun _ _ _ h => h) (Or.inl ⟨by rfl, fun w' hS => by go_simp⟩) hH ?_
        refine wpAnyH_take (i := 5) (v := .agg (zc (sv v2)).toArray) rfl (by kernel_rfl) (by kernel_rfl) (by kernel_rfl) (fun _ _ _ h => h) (yieldsIf_load_mid (by rfl) 69 (.tmp 8) (by rfl) (w.heap.size + 1) 0 (by rfl) (zc (sv v2)) _ (fun w' hS => hS.2) Try.underlying69 rfl (size69 _)) hH ?_
        refine wpAnyH_take (i := 6) (v := .int .i64 e) rfl (by kernel_rfl) (by kernel_rfl) (by kernel_rfl) (fun _ _ _ h => h) (Or.inl ⟨by rfl, fun w' hS => by go_simp⟩) hH ?_
        refine wpAnyH_ready (rs := [7]) (by kernel_rfl) (by simp) ?_
        refine AllReadyH.cons rfl (fun K hK => ?_) AllReadyH.nil
        have hL : (zc (sv v2)).length = 21 := rfl
        go_simp
        generalize hA : List.foldl _ _ (zc (sv v2)).zipIdx = A
        obtain ⟨hsz, hset⟩ := res_build v2 e A hA
        clear hA hL
        rw [hset]
        go_simp
        refine hK.out _ _ hH (fun hH => ?_)
        clear hK K hset hsz
        have hrun : (Instr.mapUpdate 129 (.map (some s.mr)) (.int .i64 x1) (.agg (rc v2 e).toArray)).run Try.prog w4.drew = .ok () (setBlock w4.drew s.mr o8) := HRUN.out
        refine wpAnyH_ready (rs := [8]) (by kernel_rfl) (by simp) ?_
        refine AllReadyH.cons rfl (fun K hK => ?_) AllReadyH.nil
        go_simp
        have hS8 := HEL.out.held
        refine hK.out _ _ hS8 (fun hH => ?_)
        clear hK K
        refine wpAnyH_done (by kernel_rfl) ?_ _
        go_wp2_with fail
        exact ⟨HEL.out, HLT.out⟩

end Go.Proofs.Ytnnaidladcdbdaa
