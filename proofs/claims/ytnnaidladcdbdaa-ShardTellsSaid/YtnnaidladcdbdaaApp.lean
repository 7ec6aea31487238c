/- Appends onto slices that a call owns, inside statements whose order is open; rows and what is cut out of them. -/
import Derived.Test.YtnnaidladcdbdaaLru
import Derived.Deep.RegionHeld3
import Derived.Deep.AppendLies
import Derived.Deep.DeepCutAuto
import Derived.Deep.CutBlock
import Derived.StillTailTactics
namespace Go.Proofs.Ytnnaidladcdbdaa
open Go.RowKit Go.ChangeMaps

section
variable {P : Program} {w : World}

/-- An owned slice that is not nil. -/
theorem owned_form {base : Nat} {e : TypeId} {size n : Nat} {v : Value} {xs : List Value} (h : w.ownsRow base e size v n xs) (hv : v ≠ .slice none 0 0) :
    ∃ g cap, v = .slice (some ⟨g, 0, none⟩) n cap ∧ base ≤ g ∧ g < w.heap.size := by
  rcases h.2 with ⟨h0, _⟩ | ⟨g, cap, cur, hv, hb, hg, _⟩
  · exact absurd h0 hv
  · exact ⟨g, cap, hv, hb, (Array.getElem?_eq_some_iff.1 hg).1⟩

/-- append onto an owned slice that is not nil, of any number of elements. -/
theorem run_append_at {t ty e : TypeId} {base : Nat} {i : TypeInfo} {z : Value} {size bytes : Nat} (ht : P.underlying t = some (.slice e)) (hi : P.info? e = some i) (hz : i.zero = some z)
    (hsize : i.size = size) (hby : i.bytes = bytes) (hzs : z.cells.size = size) (hsz : 0 < size)
    {g0 n cap0 : Nat} {xs : List Value} (hown : w.ownsRow base e size (.slice (some ⟨g0, 0, none⟩) n cap0) n xs)
    {ad : Addr} {m c : Nat} {news : List Value} (hl : news.length = m * size) (hnews : ∀ j u, news[j]? = some u → w.cell? (ad.add j) = some u) (h1 : ∀ u ∈ news, u.oneCell' = true)
    (h63 : n + m ≤ maxLen) (hbytes : (n + m) * bytes ≤ 140737488355328) (hbase : base ≤ w.heap.size) :
    ∃ g cap w', (Builtin.append_ #[t, t] ty #[.slice (some ⟨g0, 0, none⟩) n cap0, .slice (some ad) m c]).run P w = .ok (.slice (some ⟨g, 0, none⟩) (n + m) cap) w' ∧
      w'.ownsRow base e size (.slice (some ⟨g, 0, none⟩) (n + m) cap) (n + m) (xs ++ news) ∧ w.grownBy w' (some g0) ∧ (g = g0 ∨ g = w.heap.size) ∧ g < w'.heap.size := by
  obtain ⟨v', w', hr, h2, h3, h4, h5⟩ := run_append_own_at (P := P) w base t ty e i z size bytes ht hi hz hsize hby hzs hsz _ n xs hown ad m c news hl hnews h1 h63 hbytes hbase
  obtain ⟨g, cap, rfl, _, hlt⟩ := owned_form h2 (fun h => by have := (h4.1 h).1; cases this)
  refine ⟨g, cap, w', hr, h2, h3, ?_, hlt⟩
  rcases h5 with h5 | h5
  · exact .inl (by simpa [Value.ownBlock] using h5)
  · exact .inr (by simpa [Value.ownBlock] using h5)

/-- The same as one step of a region that draws its order. -/
theorem step_append_at {ops : Array Oper} {o : Oper} {a : Act} {K : Act → World → Prop} {Q : Exit → Act → World → Prop} {E : Prop} (hgd : o.guard = none) (s x : Operand) (t : TypeId)
    (ho : o.op = .call { callee := .builtin .append, args := #[s, x], argTypes := #[t, t] })
    (base : Nat) (e : TypeId) (i : TypeInfo) (z : Value) (size bytes : Nat) (ht : P.underlying t = some (.slice e)) (hi : P.info? e = some i) (hz : i.zero = some z)
    (hsize : i.size = size) (hby : i.bytes = bytes) (hzs : z.cells.size = size) (hsz : 0 < size)
    (g0 n cap0 : Nat) (xs : List Value) (hs : a.eval s = .slice (some ⟨g0, 0, none⟩) n cap0) (hown : w.ownsRow base e size (.slice (some ⟨g0, 0, none⟩) n cap0) n xs)
    (ad : Addr) (m c : Nat) (news : List Value) (hx : a.eval x = .slice (some ad) m c) (hl : news.length = m * size) (hnews : ∀ j u, news[j]? = some u → w.cell? (ad.add j) = some u) (h1 : ∀ u ∈ news, u.oneCell' = true)
    (N : Nat) (hN : n + m = N) (XS : List Value) (hX : xs ++ news = XS) (h63 : N ≤ maxLen) (hbytes : N * bytes ≤ 140737488355328) (hbase : base ≤ w.heap.size) (H : Nat) (hH : w.heap.size = H)
    (h : ∀ g cap w', w'.ownsRow base e size (.slice (some ⟨g, 0, none⟩) N cap) N XS → w.grownBy w' (some g0) → (g = g0 ∨ g = H) → g < w'.heap.size → K (a.put o.dst (.slice (some ⟨g, 0, none⟩) N cap)) w') :
    if Region.wanted o (yielded ops a.tmps) = true then Oper.wp P o a w K Q else E := by
  subst hN
  subst hX
  have hw : Region.wanted o (yielded ops a.tmps) = true := by simp [Region.wanted, hgd]
  rw [if_pos hw]
  obtain ⟨g, cap, w', hr, h2, h3, h4, h5⟩ := run_append_at (P := P) (ty := o.type) ht hi hz hsize hby hzs hsz hown hl hnews h1 h63 hbytes hbase
  unfold Oper.wp execOp
  simp only [ho, resolve, invoke, builtin, Sem.run_bind, Sem.run_pure, Result.andThen_ok, List.map_toArray, List.map_cons, List.map_nil, hs, hx]
  rw [hr]
  exact h g cap w' h2 h3 (by rw [← hH]; exact h4) h5

/-- What 's[:k]' of an owned slice is. -/
theorem slice_low {t e : TypeId} {i : TypeInfo} (ht : P.underlying t = some (.slice e)) (hi : P.info? e = some i) {g n cap k : Nat} (h : k ≤ cap) (w : World) :
    (Instr.slice t (.slice (some ⟨g, 0, none⟩) n cap) none (some (.int .i64 k)) none).run P w = .ok (.slice (some ⟨g, 0, none⟩) k cap) w := by
  have he : P.elem t = e := by simp [Program.elem, ht]
  rw [run_slice_h w t (some ⟨g, 0, none⟩) n cap (by rw [he]; exact ht) .i64 k (by omega) (by omega), he]
  simp [sizeOf, typeInfo, hi, Result.andThen, sliced, Addr.add]

/-- Where 's[k:]' begins. -/
def behind (g cap k size : Nat) : Addr := if cap = k then ⟨g, 0, none⟩ else (⟨g, 0, none⟩ : Addr).add (k * size)

/-- What 's[k:]' of an owned slice is. -/
theorem slice_high {t e : TypeId} {i : TypeInfo} (ht : P.underlying t = some (.slice e)) (hi : P.info? e = some i) {size : Nat} (hsz : i.size = size) {g n cap k : Nat} (h : k ≤ n) (w : World) :
    (Instr.slice t (.slice (some ⟨g, 0, none⟩) n cap) (some (.int .i64 k)) none none).run P w = .ok (.slice (some (behind g cap k size)) (n - k) (cap - k)) w := by
  have he : P.elem t = e := by simp [Program.elem, ht]
  rw [run_slice_l w t (some ⟨g, 0, none⟩) n cap (by rw [he]; exact ht) .i64 k (by omega) (by omega), he]
  simp only [sizeOf, typeInfo, Result.andThen, sliced, behind]
  simp [hi, hsz]
  split <;> rfl

/-- The cells of what stands behind k. -/
theorem behind_cells {base : Nat} {e : TypeId} {size g n cap k : Nat} {xs : List Value} (h : w.ownsRow base e size (.slice (some ⟨g, 0, none⟩) n cap) n xs) (hk : k ≤ n) :
    ∀ j u, (xs.drop (k * size))[j]? = some u → w.cell? ((behind g cap k size).add j) = some u := by
  intro j u hu
  have hj : k * size + j < n * size := by
    have h1 := (List.getElem?_eq_some_iff.1 hu).1
    rw [List.length_drop, h.1] at h1
    omega
  have hne : cap ≠ k := by
    rintro rfl
    obtain ⟨h1, h2⟩ := h
    rcases h2 with ⟨h2, _⟩ | ⟨g', cap', cur, h2, _, _, h3, _⟩
    · cases h2
    · injection h2 with _ _ h4
      subst h4
      have : n = cap := by omega
      subst this; omega
  have hc := h.cellAt (k * size + j) hj
  rw [List.getElem?_drop] at hu
  unfold behind
  rw [if_neg hne]
  have e1 : ((⟨g, 0, none⟩ : Addr).add (k * size)).add j = ⟨g, k * size + j, none⟩ := by
    unfold Addr.add
    by_cases h1 : k * size = 0
    · rw [if_pos h1]
      by_cases h2 : j = 0
      · simp [h1, h2]
      · simp [h1, h2]
    · rw [if_neg h1]
      by_cases h2 : j = 0
      · simp [h2]
      · simp [h2]
  rw [e1, hc, hu]

/-- A new slice without elements. -/
theorem owns_none (w : World) (e : TypeId) (size : Nat) : ((w.alloc (.cells #[] e)).drew).ownsRow w.heap.size e size (.slice (some ⟨w.heap.size, 0, none⟩) 0 0) 0 [] :=
  ⟨by simp, Or.inr ⟨w.heap.size, 0, #[], rfl, Nat.le_refl _, (MapKept.heap_alloc w _).1, Nat.le_refl _, by unfold maxLen; omega, by simp, by simp⟩⟩

theorem owned_cap {base : Nat} {e : TypeId} {size g n cap : Nat} {xs : List Value} (h : w.ownsRow base e size (.slice (some ⟨g, 0, none⟩) n cap) n xs) : n ≤ cap := by
  rcases h.2 with ⟨h, _⟩ | ⟨g', cap', cur, h, _, _, h3, _⟩
  · cases h
  · injection h with _ _ h4; subst h4; exact h3

theorem owned_kept {base : Nat} {e : TypeId} {size n : Nat} {v : Value} {xs : List Value} (h : w.ownsRow base e size v n xs) {w' : World} (hb : ∀ b, v.ownBlock = some b → w'.heap[b]? = w.heap[b]?) : w'.ownsRow base e size v n xs := by
  obtain ⟨h1, h2⟩ := h
  refine ⟨h1, ?_⟩
  rcases h2 with h2 | ⟨g, cap, cur, hv, hb', hg, r⟩
  · exact Or.inl h2
  · exact Or.inr ⟨g, cap, cur, hv, hb', by rw [hb g (by rw [hv]; rfl)]; exact hg, r⟩

/-- The cells of what stands ahead of k, in a later world. -/
theorem ahead_cells {base : Nat} {e : TypeId} {size g n cap : Nat} {xs : List Value} (h : w.ownsRow base e size (.slice (some ⟨g, 0, none⟩) n cap) n xs) (m : Nat) {w' : World} (hb : w'.heap[g]? = w.heap[g]?) :
    ∀ j u, (xs.take m)[j]? = some u → w'.cell? ((⟨g, 0, none⟩ : Addr).add j) = some u := by
  intro j u hu
  have hu' : xs[j]? = some u := by
    rw [List.getElem?_take] at hu
    split at hu
    · exact hu
    · cases hu
  have hc := h.cells (g := g) rfl j u hu'
  have hab : ((⟨g, 0, none⟩ : Addr).add j).block = g := by unfold Addr.add; split <;> rfl
  rw [World.cell?_of_block (w := w) (by rw [hab]; exact hb)]
  exact hc

theorem behind_cells' {base : Nat} {e : TypeId} {size g n cap k : Nat} {xs : List Value} (h : w.ownsRow base e size (.slice (some ⟨g, 0, none⟩) n cap) n xs) (hk : k ≤ n) {w' : World} (hb : w'.heap[g]? = w.heap[g]?) :
    ∀ j u, (xs.drop (k * size))[j]? = some u → w'.cell? ((behind g cap k size).add j) = some u := by
  intro j u hu
  have hc := behind_cells h hk j u hu
  have hab : ((behind g cap k size).add j).block = g := by
    unfold behind Addr.add
    split <;> split <;> (try split) <;> rfl
  rw [World.cell?_of_block (w := w) (by rw [hab]; exact hb)]
  exact hc

end

/-- Behind 's.f = append(append([]T{}, s.f[:k]...), s.f[k+1:]...)': the field leads to a new row with these cells; nothing but that cell has turned. -/
def CutPost (q f : Nat) (e : TypeId) (size N : Nat) (XS : List Value) (w wc : World) : Prop :=
  ∃ g cap, wc.cell? ⟨q, f, none⟩ = some (.slice (some ⟨g, 0, none⟩) N cap) ∧ wc.ownsRow 0 e size (.slice (some ⟨g, 0, none⟩) N cap) N XS ∧ w.heap.size ≤ g ∧ g < wc.heap.size ∧ Ch (fun b => b = q) w wc ∧
    (∀ o, o ≠ f → wc.cell? ⟨q, o, none⟩ = w.cell? ⟨q, o, none⟩) ∧ ∀ o, wc.frozen? ⟨q, o, none⟩ = w.frozen? ⟨q, o, none⟩

theorem cut_post {w w1 w2 : World} {q f : Nat} {e : TypeId} {size N : Nat} {XS : List Value} {v0 : Value} {g1 g2 cap2 : Nat} (c1 : w.cell? ⟨q, f, none⟩ = some v0)
    (h1 : ((w.alloc (.cells #[] e)).drew).grownBy w1 (some w.heap.size)) (h2 : w1.grownBy w2 (some g1)) (a1 : g1 = w.heap.size ∨ g1 = w.heap.size + 1) (a2 : g2 = g1 ∨ g2 = w1.heap.size)
    (hown : w2.ownsRow w.heap.size e size (.slice (some ⟨g2, 0, none⟩) N cap2) N XS) :
    CutPost q f e size N XS w (w2.setCell ⟨q, f, none⟩ (.slice (some ⟨g2, 0, none⟩) N cap2)) := by
  have lq := World.block_lt_of_cell? w _ c1
  simp only at lq
  have s1 := h1.size
  rw [World.size_drew, World.size_alloc] at s1
  have ga : w.heap.size ≤ g2 := by omega
  have hb : Below w.heap.size w w2 := (((Below.refl _ _).alloc (Nat.le_refl _) _).drew.grown h1 (by simp) (fun k hk => by cases hk; exact Nat.le_refl _)).grown h2 (by omega) (fun k hk => by cases hk; omega)
  have hqc : ∀ o, w2.cell? ⟨q, o, none⟩ = w.cell? ⟨q, o, none⟩ := fun o => hb.cell (p := ⟨q, o, none⟩) lq
  have hqf : ∀ o, w2.frozen? ⟨q, o, none⟩ = w.frozen? ⟨q, o, none⟩ := fun o => hb.frozen (p := ⟨q, o, none⟩) lq
  have hlt2 := (hown.lt g2 rfl).2
  have hown' := hown
  obtain ⟨o1, o2⟩ := hown
  refine ⟨g2, cap2, World.cell?_setCell_same _ _ _ (u := v0) (by rw [hqc]; exact c1), ⟨o1, ?_⟩, ga, by rw [World.size_setCell]; exact hlt2, ?_, ?_, ?_⟩
  · rcases o2 with ⟨h, _⟩ | ⟨g', cap', cur, h, hb', hg, r⟩
    · cases h
    · have hgg : g' = g2 := by injection h with h _ _; injection h with h; injection h with h; exact h.symm
      exact Or.inr ⟨g', cap', cur, h, Nat.zero_le _, by rw [Below.heap_setCell _ _ _ _ (by simp only; omega)]; exact hg, r⟩
  · exact Ch.setCell (F := fun b => b = q) (p := ⟨q, f, none⟩) (Ch.of_none hb (fun b => b = q)) (fun _ => rfl) _
  · intro o ho
    rw [World.cell?_setCell_other]
    · exact hqc o
    · intro e; injection e with _ e2; exact ho e2.symm
  · intro o
    rw [World.frozen?_setCell]; exact hqf o

end Go.Proofs.Ytnnaidladcdbdaa
