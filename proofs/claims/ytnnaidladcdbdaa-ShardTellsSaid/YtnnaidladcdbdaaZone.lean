/- Zones as a list of 21 cells of which only the first is told; what stores of whole zones leave; a call's result that lies in a cell. -/
import Derived.Test.YtnnaidladcdbdaaKeyP
import Derived.Deep.MidRow
import Derived.Laws.ResultCell
namespace Go.Proofs.Ytnnaidladcdbdaa
open Go.RowKit Go.ChangeMaps

/-- A zone's cells: z is what its kinds are. -/
def zc (z : Value) : List Value := [z, .slice none 0 0, .slice none 0 0, .int .i64 0, .bool false, .string ⟨#[]⟩, .int .i64 0, .bool false, .string ⟨#[]⟩, .bool false,
  .int .i64 0, .int .i64 0, .int .i64 0, .int .i64 0, .int .i64 0, .int .i64 0, .int .i64 0, .int .i64 0, .int .i64 0, .int .i64 0, .bool false]
/-- A zone's value. -/
def za (z : Value) : Array Value := (zc z).toArray
theorem zc_length (z : Value) : (zc z).length = 21 := rfl
theorem za_size (z : Value) : (za z).size = 21 := rfl
theorem za_toList (z : Value) : (za z).toList = zc z := rfl
theorem za_def (z : Value) : za z = #[z, .slice none 0 0, .slice none 0 0, .int .i64 0, .bool false, .string ⟨#[]⟩, .int .i64 0, .bool false, .string ⟨#[]⟩, .bool false,
  .int .i64 0, .int .i64 0, .int .i64 0, .int .i64 0, .int .i64 0, .int .i64 0, .int .i64 0, .int .i64 0, .int .i64 0, .int .i64 0, .bool false] := rfl
theorem za_one {z : Value} (h : z.oneCell' = true) : (za z).all (·.oneCell') = true := by cases z <;> simp_all [za_def, Value.oneCell']
theorem size69 (z : Value) : (Try.prog.info? 69).map (·.size) = some (zc z).length := by
  obtain ⟨i, h1, h2⟩ := Option.map_eq_some_iff.1 info69
  rw [h1]; simp at h2; simp [h2, zc_length]
theorem size69' (z : Value) : (Try.prog.info? 69).map (·.size) = some (za z).size := size69 z

theorem Ch.setCells {F : Nat → Prop} {a : World} {b : Nat} (hb : b < a.heap.size → F b) : ∀ (vs : List Value) (o : Nat) {w : World}, Ch F a w → Ch F a (w.setCells b o vs)
  | [], _, _, h => h
  | v :: r, o, w, h => by
    rw [World.setCells]
    exact Ch.setCells hb r (o + 1) (h.setCell (p := ⟨b, o, none⟩) hb v)

theorem Ch.range {F : Nat → Prop} {w w' : World} (h : Ch F w w') {b o : Nat} {cs : List Value} (hb : b < w.heap.size) (hF : ¬ F b) (hr : w.rangeAt b o cs) : w'.rangeAt b o cs := fun j v hv => by
  rw [h.cell (p := ⟨b, o + j, none⟩) hb hF]; exact hr j v hv
theorem Ch.there {F : Nat → Prop} {w w' : World} (h : Ch F w w') {b o n : Nat} (hb : b < w.heap.size) (hF : ¬ F b) (hr : w.there b o n) : w'.there b o n := fun j hj => by
  rw [h.cell (p := ⟨b, o + j, none⟩) hb hF, h.frozen (p := ⟨b, o + j, none⟩) hb hF]; exact hr j hj

theorem range_alloc (w : World) (cs : Array Value) (t : TypeId) : (w.alloc (.cells cs t)).rangeAt w.heap.size 0 cs.toList := fun j v hv => by
  rw [World.cell?_alloc_new]; simpa using hv

theorem there_new (w : World) (cs : Array Value) (t : TypeId) : (w.alloc (.cells cs t)).there w.heap.size 0 cs.size := fun j hj => by
  refine ⟨?_, World.frozen?_alloc_new _ _ _ _⟩
  rw [World.cell?_alloc_new]
  simp [hj]

/-- A result of two: the first lies in a cell. -/
theorem ret_cell_tmp {fn : Func} {p u : Tmp} {ty : TypeId} {a : Act} {w : World} {R : Ending → World → Prop} {b : Nat} {cs : List Value} {d : TypeDesc} {y : Value} (h : fn.results = #[.cell p ty, .tmp u])
    (hd : a.defers = []) (hp : a.tmps.getD p undef = .pointer (some ⟨b, 0, none⟩)) (hu : a.tmps.getD u undef = y) (hc : w.rangeAt b 0 cs) (ht : Try.prog.underlying ty = some d) (hr : d.isRow = true) (hi : (Try.prog.info? ty).map (·.size) = some cs.length)
    (hR : R (.returned (.tuple #[.agg cs.toArray, y])) w) : bodyPost Try.prog fn R Exit.ret a w := by
  refine bodyPost_ret (v := .tuple #[.agg cs.toArray, y]) ?_ hd hR
  rw [results_cell_tmp h, hp, hu]
  simp only [asAddr, Sem.run_pure, Result.andThen_ok, run_loadVar_mid w b 0 ty cs d hc ht hr hi]

/-- A result that lies in a cell. -/
theorem ret_cell {fn : Func} {p : Tmp} {ty : TypeId} {a : Act} {w : World} {R : Ending → World → Prop} {b : Nat} {cs : List Value} {d : TypeDesc} (h : fn.results = #[.cell p ty])
    (hd : a.defers = []) (hp : a.tmps.getD p undef = .pointer (some ⟨b, 0, none⟩)) (hc : w.rangeAt b 0 cs) (ht : Try.prog.underlying ty = some d) (hr : d.isRow = true) (hi : (Try.prog.info? ty).map (·.size) = some cs.length)
    (hR : R (.returned (.agg cs.toArray)) w) : bodyPost Try.prog fn R Exit.ret a w := by
  refine bodyPost_ret (v := .agg cs.toArray) ?_ hd hR
  have hp' : a.tmps[p]?.getD undef = .pointer (some ⟨b, 0, none⟩) := by simpa using hp
  simp [results, h, hp', asAddr, run_loadVar_mid w b 0 ty cs d hc ht hr hi]

end Go.Proofs.Ytnnaidladcdbdaa
