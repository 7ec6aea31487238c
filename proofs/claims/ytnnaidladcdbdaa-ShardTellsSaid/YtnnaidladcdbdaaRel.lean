/- Two lists of pairs with the same keys in the same order, their values related: what lies in memory beside what is told of it. -/
import Derived.Test.YtnnaidladcdbdaaLru
namespace Go.Proofs.Ytnnaidladcdbdaa

/-- The same keys, related values. -/
inductive Rel {κ ν μ : Type} (R : ν → μ → Prop) : List (κ × ν) → List (κ × μ) → Prop
  | nil : Rel R [] []
  | cons {a : κ × ν} {b : κ × μ} {l d} : (a.1 = b.1 ∧ R a.2 b.2) → Rel R l d → Rel R (a :: l) (b :: d)

section
variable {κ ν μ : Type} [DecidableEq κ] {R : ν → μ → Prop} {l : List (κ × ν)} {d : List (κ × μ)} {k : κ}

omit [DecidableEq κ] in
theorem Rel.mono {S : ν → μ → Prop} (h : Rel R l d) (hS : ∀ x ∈ l, ∀ y, R x.2 y → S x.2 y) : Rel S l d := by
  induction h with
  | nil => exact Rel.nil
  | @cons a b l d hab h ih => exact Rel.cons ⟨hab.1, hS a (by simp) _ hab.2⟩ (ih (fun x hx y hy => hS x (by simp [hx]) y hy))

omit [DecidableEq κ] in
theorem Rel.keys (h : Rel R l d) : l.map Prod.fst = d.map Prod.fst := by
  induction h with
  | nil => rfl
  | cons hab h ih => simp [hab.1, ih]

omit [DecidableEq κ] in
theorem Rel.length (h : Rel R l d) : l.length = d.length := by
  have := congrArg List.length h.keys
  simpa using this

theorem Rel.has (h : Rel R l d) (k : κ) : has l k = has d k := by
  unfold Go.Proofs.Ytnnaidladcdbdaa.has
  rw [h.keys]

omit [DecidableEq κ] in
theorem Rel.append {l' : List (κ × ν)} {d' : List (κ × μ)} (h : Rel R l d) (h' : Rel R l' d') : Rel R (l ++ l') (d ++ d') := by
  induction h with
  | nil => exact h'
  | cons hab h ih => exact Rel.cons hab ih

omit [DecidableEq κ] in
theorem Rel.one {v : ν} {u : μ} (h : R v u) : Rel R [(k, v)] [(k, u)] := Rel.cons ⟨rfl, h⟩ Rel.nil

omit [DecidableEq κ] in
theorem Rel.filter (h : Rel R l d) (f : κ → Bool) : Rel R (l.filter fun x => f x.1) (d.filter fun x => f x.1) := by
  induction h with
  | nil => exact Rel.nil
  | @cons a b l d hab h ih =>
    have e : f a.1 = f b.1 := by rw [hab.1]
    cases hf : f b.1 with
    | true => rw [List.filter_cons_of_pos (p := fun x : κ × ν => f x.1) (by rw [e]; exact hf), List.filter_cons_of_pos (p := fun x : κ × μ => f x.1) hf]; exact Rel.cons hab ih
    | false => rw [List.filter_cons_of_neg (p := fun x : κ × ν => f x.1) (by rw [e, hf]; simp), List.filter_cons_of_neg (p := fun x : κ × μ => f x.1) (by rw [hf]; simp)]; exact ih

theorem Rel.del (h : Rel R l d) (k : κ) : Rel R (del l k) (del d k) := h.filter fun x => decide (x ≠ k)

theorem Rel.use {v : ν} {u : μ} (h : Rel R l d) (k : κ) (hv : R v u) : Rel R (use l k v) (use d k u) := (h.del k).append (Rel.one hv)

theorem Rel.valOf {z : ν} {y : μ} (h : Rel R l d) (k : κ) (hz : R z y) : R (valOf l k z) (valOf d k y) := by
  unfold Go.Proofs.Ytnnaidladcdbdaa.valOf
  induction h with
  | nil => exact hz
  | @cons a b l d hab h ih =>
    by_cases hk : b.1 = k
    · rw [List.find?_cons_of_pos (by simp [hab.1, hk]), List.find?_cons_of_pos (by simp [hk])]; exact hab.2
    · rw [List.find?_cons_of_neg (by simp [hab.1, hk]), List.find?_cons_of_neg (by simp [hk])]; exact ih

theorem Rel.getS {z : ν} {y : μ} (h : Rel R l d) (k : κ) (hz : R z y) : Rel R (getS l k z) (getS d k y) := by
  unfold Go.Proofs.Ytnnaidladcdbdaa.getS
  rw [h.has]
  split
  · exact h.use k (h.valOf k hz)
  · exact h

theorem Rel.goes (h : Rel R l d) (room : Int) (k : κ) : goes room l k = goes room d k := by
  unfold Go.Proofs.Ytnnaidladcdbdaa.goes
  rw [h.has, h.length]

omit [DecidableEq κ] in
theorem Rel.tail (h : Rel R l d) : Rel R l.tail d.tail := by
  cases h with
  | nil => exact Rel.nil
  | cons hab h => exact h

theorem Rel.putS {v : ν} {u : μ} (h : Rel R l d) (room : Int) (k : κ) (hv : R v u) : Rel R (putS room l k v) (putS room d k u) := by
  unfold Go.Proofs.Ytnnaidladcdbdaa.putS
  rw [h.has, h.goes]
  split
  · exact h.use k hv
  · split
    · exact h.tail.append (Rel.one hv)
    · exact h.append (Rel.one hv)

omit [DecidableEq κ] in
theorem Rel.mem (h : Rel R l d) {x : κ × ν} (hx : x ∈ l) : ∃ y, (x.1, y) ∈ d ∧ R x.2 y := by
  induction h with
  | nil => cases hx
  | @cons a b l d hab h ih =>
    rcases List.mem_cons.1 hx with rfl | hx
    · exact ⟨b.2, by rw [hab.1]; simp, hab.2⟩
    · obtain ⟨y, hy, hr⟩ := ih hx
      exact ⟨y, by simp [hy], hr⟩
end

end Go.Proofs.Ytnnaidladcdbdaa
