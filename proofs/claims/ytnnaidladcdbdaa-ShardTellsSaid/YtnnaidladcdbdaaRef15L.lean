/- The reference of chapter 15: forget, the walk of its first loop (a flight's row built anew). -/
import Derived.Test.YtnnaidladcdbdaaRef15K
namespace Go.Proofs.Ytnnaidladcdbdaa
open Go.RowKit Go.ChangeMaps
open KZ (KK)

/-- What is told of a flight. -/
abbrev FR.told (f : FR) : PK × Int × List Int := (f.k, f.lead, f.ws)
/-- The first m flights without a worker. -/
def cutW (i : Int) (m : Nat) (l : List (PK × Int × List Int)) : List (PK × Int × List Int) := ((l.take m).map fun x => (x.1, x.2.1, x.2.2.filter (· ≠ i))) ++ l.drop m
theorem cutW_zero (i : Int) (l : List (PK × Int × List Int)) : cutW i 0 l = l := by simp [cutW]
theorem cutW_at {i : Int} {m : Nat} {l : List (PK × Int × List Int)} (h : m < l.length) : (cutW i m l)[m]? = l[m]? := by
  unfold cutW
  have e : m - ((l.take m).map fun x : PK × Int × List Int => (x.1, x.2.1, x.2.2.filter (· ≠ i))).length = 0 := by simp; omega
  rw [List.getElem?_append_right (by simp; omega), e, List.getElem?_drop, Nat.add_zero]
theorem cutW_succ {i : Int} {m : Nat} {l : List (PK × Int × List Int)} {x : PK × Int × List Int} (h : l[m]? = some x) : cutW i (m + 1) l = (cutW i m l).set m (x.1, x.2.1, x.2.2.filter (· ≠ i)) := by
  obtain ⟨hm, e⟩ := List.getElem?_eq_some_iff.1 h
  unfold cutW
  rw [List.take_succ_eq_append_getElem hm, e, List.map_append, List.set_append_right _ _ (by simp; omega), List.drop_eq_getElem_cons hm]
  have : m - ((l.take m).map fun x : PK × Int × List Int => (x.1, x.2.1, x.2.2.filter (· ≠ i))).length = 0 := by simp; omega
  rw [this, List.set_cons_zero, List.append_assoc]
  rfl
theorem cutW_all (i : Int) (l : List (PK × Int × List Int)) : cutW i l.length l = l.map fun x => (x.1, x.2.1, x.2.2.filter (· ≠ i)) := by
  unfold cutW
  rw [List.take_length, List.drop_length, List.append_nil]

variable {w w' : World} {G : Nat → Prop} {q : Nat} {room : Int} {vk vv vf vr : Value} {ks : List PK} {vs : List Int} {fs : List FR} {rs : List (Int × Int × Int)}

/-- The cells of a flight, and of those that wait in it. -/
theorem R15.flyAt (h : R15 w G q room vk vv vf vr ks vs fs rs) {i : Nat} {f : FR} (hf : fs[i]? = some f) : ∃ g cf aw cw, vf = .slice (some ⟨g, 0, none⟩) fs.length cf ∧ f.v = .slice aw f.ws.length cw ∧ w.cell? ⟨g, i * 4 + 2, none⟩ = some (.int .i64 f.lead) ∧ w.cell? ⟨g, i * 4 + 3, none⟩ = some (.slice aw f.ws.length cw) ∧
    w.frozen? ⟨g, i * 4 + 3, none⟩ = false ∧ ∀ j y, f.ws[j]? = some y → ∃ gw, aw = some ⟨gw, 0, none⟩ ∧ w.cell? ⟨gw, j, none⟩ = some (.int .i64 y) := by
  have hi := (List.getElem?_eq_some_iff.1 hf).1
  obtain ⟨oF, -⟩ := h.rows.1 (frowV vf fs) (by simp)
  obtain ⟨g, cf, e1, _, _⟩ := oF.form (show 0 < fs.length by omega)
  have e1' : vf = .slice (some ⟨g, 0, none⟩) fs.length cf := e1
  subst e1'
  obtain ⟨h0, h1, h2, h3⟩ := frow_at fs i f hf
  have oW := (h.rows.1 (wrowV f) (by simp only [List.mem_append]; exact Or.inr (List.mem_map_of_mem (List.mem_of_getElem? hf)))).1
  obtain ⟨aw, cw, e2, hw⟩ := own_shape3 oW
  have e2' : f.v = .slice aw f.ws.length cw := e2
  refine ⟨g, cf, aw, cw, rfl, e2', (oF.cellAt (i * 4 + 2) (by simp only; omega)).trans h2, by rw [← e2']; exact (oF.cellAt (i * 4 + 3) (by simp only; omega)).trans h3, oF.frozenAt _, fun j y hy => ?_⟩
  have hj := (List.getElem?_eq_some_iff.1 hy).1
  obtain ⟨gw, ha, hc⟩ := hw (by simp only; omega)
  refine ⟨gw, ha, (hc j (by simp only; omega)).trans ?_⟩
  show (f.ws.map (Value.int .i64))[j]? = _
  rw [List.getElem?_map, hy]; rfl

end Go.Proofs.Ytnnaidladcdbdaa
