/- Chapter 15 told twice: for every room and every row of steps the shard and its reference answer alike: ShardTells answers true. (The shell follows the kit's proof-skeleton; the walk and the opening of a row of steps are this seat's own.) -/
import Derived.Test.YtnnaidladcdbdaaRows
import Derived.Test.YtnnaidladcdbdaaWRound15
import Derived.Deep.Strs
import Derived.Deep.Slices
import Derived.WalkKit
import Derived.ProofKit
import Derived.OpenShut
import Derived.ShutString
import Derived.ChangeOld
import Derived.Below
namespace Go.Proofs.Ytnnaidladcdbdaa.shardTells
open Go.ChangeShapes Go.WideShapes Go.ChangeAt Go.RowKit
open Go.ChangeMaps (open_string shut_string)
set_option linter.unusedVariables false

theorem own : ownKnob Try.prog.godebug = none := by kernel_rfl
theorem laidOut : laidOutB Try.prog = true := by kernel_rfl

/-! ### A row of steps, opened -/
theorem cells88 : Try.prog.cellsOf 88 = 5 := by kernel_rfl
theorem cells3 : Try.prog.cellsOf 3 = 1 := by kernel_rfl
theorem cells9 : Try.prog.cellsOf 9 = 1 := by kernel_rfl
theorem cells54 : Try.prog.cellsOf 54 = 1 := by kernel_rfl

set_option maxRecDepth 100000 in
theorem open_steps {H : Type} {enc : TypeId × Value → H} {W : World} {a : Option Addr} {len cap : Nat} {d : DataW H} {p : List MemPlace} {spare : Nat → Bool} {held : Bool}
    (h : DataW.Trod enc Try.prog W 0 spare held 84 (.slice a len cap) d p) : ∃ Ks Ws Es Ps, StepRow15 W a len Ks Ws Es Ps := by
  obtain ⟨fuel, hf⟩ := h
  rcases Deep.open_slice Try.underlying84 hf with ⟨hcs, _⟩ | ⟨x, l, c, m, n, D, Pl, hcs, _, hl, _, hm, _, hel⟩
  · simp [Value.cells] at hcs
    obtain ⟨rfl, rfl, rfl⟩ := hcs
    exact ⟨fun _ => 0, fun _ => 0, fun _ => 0, fun _ => (0, ⟨#[]⟩), fun i hi => absurd hi (by omega)⟩
  · simp [Value.cells] at hcs
    obtain ⟨rfl, rfl, rfl⟩ := hcs
    have hlm : len ≤ m := by rw [hm]; split <;> omega
    obtain ⟨b, off, spot⟩ := x
    have hspot : 0 < len → spot = none := fun h0 => by
      obtain ⟨cs', hc0, _⟩ := hel 0 (by omega)
      rw [cells88] at hc0
      obtain ⟨_, hl3, hcell⟩ := World.cells?_some hc0
      have r0 := hcell 0 (by omega)
      rw [List.getElem?_eq_getElem (by omega)] at r0
      simpa [Addr.add] using World.cell?_spot r0
    have one : ∀ i, i < len → ∃ y : Int × Int × Int × PK, ∃ b' off', (some ⟨b, off, spot⟩ : Option Addr) = some ⟨b', off', none⟩ ∧ b' < W.heap.size ∧ W.cell? ⟨b', off' + i * 5, none⟩ = some (.int .i64 y.1) ∧ W.cell? ⟨b', off' + i * 5 + 1, none⟩ = some (.int .i64 y.2.1) ∧
        W.cell? ⟨b', off' + i * 5 + 2, none⟩ = some (.int .i64 y.2.2.2.1) ∧ W.cell? ⟨b', off' + i * 5 + 3, none⟩ = some (.string y.2.2.2.2) ∧ W.cell? ⟨b', off' + i * 5 + 4, none⟩ = some (.int .i64 y.2.2.1) ∧ KI.ok y.2.1 ∧ KP.ok y.2.2.2 := by
      intro i hi
      obtain rfl := hspot (by omega)
      obtain ⟨cs', hc0, ht0⟩ := hel i (by omega)
      rw [cells88] at hc0
      obtain ⟨xs, n', _, _, hl5, hlen, hfd⟩ := DataW.trod_struct Try.underlying88 ht0
      match xs, hlen with
      | [y0, y1, y2, y3, y4], _ =>
        obtain ⟨u0, g0, _, _⟩ := DataW.trod_int Try.underlying3 (hfd 0 _ rfl)
        obtain ⟨u1, g1, _, hw1⟩ := DataW.trod_int Try.underlying3 (hfd 1 _ rfl)
        obtain ⟨u2, g2, _, hw2⟩ := DataW.trod_int Try.underlying3 (hfd 2 _ rfl)
        obtain ⟨u3, g3, _, hs⟩ := DataW.trod_string Try.underlying9 (hfd 3 _ rfl)
        obtain ⟨u4, g4, _, _⟩ := DataW.trod_int Try.underlying54 (hfd 4 _ rfl)
        obtain ⟨_, hl3, hcell⟩ := World.cells?_some hc0
        obtain ⟨c0, c1, c2, c3, c4, rfl⟩ : ∃ c0 c1 c2 c3 c4, cs' = [c0, c1, c2, c3, c4] := by
          match cs', hl3 with
          | [c0, c1, c2, c3, c4], _ => exact ⟨c0, c1, c2, c3, c4, rfl⟩
        obtain rfl : c0 = .int .i64 u0 := by simpa [cells3] using g0
        obtain rfl : c1 = .int .i64 u1 := by simpa [cells3] using g1
        obtain rfl : c2 = .int .i64 u2 := by simpa [cells3] using g2
        obtain rfl : c3 = .string u3 := by simpa [cells9] using g3
        obtain rfl : c4 = .int .i64 u4 := by simpa [cells54] using g4
        have r0 := hcell 0 (by omega)
        have r1 := hcell 1 (by omega)
        have r2 := hcell 2 (by omega)
        have r3 := hcell 3 (by omega)
        have r4 := hcell 4 (by omega)
        rw [Deep.add_add, add_plain] at r0 r1 r2 r3 r4
        have r0' : W.cell? ⟨b, off + i * 5, none⟩ = some (.int .i64 u0) := by simpa using r0
        have hbl : b < W.heap.size := World.block_lt_of_cell? (w := W) (a := ⟨b, off + i * 5, none⟩) r0'
        refine ⟨(u0, u1, u4, (u2, u3)), b, off, rfl, hbl, r0', ?_, ?_, ?_, ?_, hw1, hw2, hs⟩
        · simpa [Nat.add_assoc] using r1
        · simpa [Nat.add_assoc] using r2
        · simpa [Nat.add_assoc] using r3
        · simpa [Nat.add_assoc] using r4
    obtain ⟨f, hf⟩ := Deep.choose_lt one
    exact ⟨fun i => (f i).1, fun i => (f i).2.1, fun i => (f i).2.2.1, fun i => (f i).2.2.2, hf⟩

/-! ### THE ROW's STEP: WRITTEN OUT: LEAVE IT -/
set_option maxRecDepth 100000 in
theorem lifted (os : Os) (started : os.Started) (H : Type) (enc : TypeId × Value → H) :
    ReturnsInHanded {} Try.checked os 14 .any (Rows.shardTellsSpec.pre6 enc Try.prog Try.f14 Rows.shardTellsRow.domain false) (Rows.shardTellsSpec.post enc Try.prog Try.f14 false true false false) := by
  refine returnsInHanded_of_change (C := Try.checked) own started (by kernel_rfl) Try.func14
    (ChangeSpec.witness6 (enc := enc) (C := Try.checked) false ⟨#[], #[.int .i64 0, .slice none 0 0], []⟩ 8 (by kernel_rfl) (by kernel_rfl) (by kernel_rfl) (by kernel_rfl)) ?_
  intro W base args ds gs before hval0 hW hcnd _
  have hval : ∀ (j : Nat) t v, Try.f14.params[j]? = some t → args[j]? = some v → Value.okWide Try.prog W .any base t v := hval0
  have hW' := hW
  obtain ⟨p, q, hA0, hV, rfl, hfz, hnd⟩ := hW
  have hA : DataW.TrodAll enc Try.prog W 0 (fun _ => true) true Try.f14.params.toList args.toList ds p := hA0
  rw [Try.params14] at hA hval
  obtain ⟨v0, vs0, d0, ds0, p0, q0, hargs, rfl, rfl, h0, r0⟩ := trodAll_cons hA
  obtain ⟨v1, vs1, d1, ds1, p1, q1, rfl, rfl, rfl, h1, r1⟩ := trodAll_cons r0
  obtain ⟨rfl, rfl, rfl⟩ := trodAll_nil r1
  obtain rfl : args = #[v0, v1] := by cases args; simp_all
  obtain ⟨rfl, rfl⟩ := trodVars_none hV
  obtain ⟨a0, rfl, rfl, rfl, w0⟩ := open_int Try.underlying3 (hval 0 3 v0 rfl rfl) h0
  obtain ⟨a1, len1, cap1, rfl⟩ := okWide_slice Try.underlying84 (hval 1 84 v1 rfl rfl)
  have k1 := h1
  have lt1 : ∀ x ∈ p1, x.block < W.heap.size := by obtain ⟨m, hm⟩ := k1; exact DataW.trod_lt m _ _ _ hm
  obtain ⟨Ks, Ws, Es, Ps, w1⟩ := open_steps h1
  clear hA0 hval0
  refine (shtells_walk a0 a1 len1 cap1 Ks Ws Es Ps W w1).mono fun e W' ⟨he, bel⟩ => ?_
  subst he
  exact ⟨_, rfl, _, _, _, [], _, [], hW', trodAll_mk1 (shut_bool Try.underlying4 _), (trodAll_cons_mk (shut_int Try.underlying3 w0) (trodAll_cons_mk (Below.trod laidOut (by kernel_rfl) (of_decide_eq_true (by kernel_rfl)) k1 bel lt1) trodAll_mk0)), rfl, bel.frame _, fun h => by cases h⟩

theorem over : Rows.shardTellsRow.holds Try.pinned (OpenSpec.ofChange Rows.shardTellsSpec) :=
  OpenClaim.holds_of_wide 14 Try.f14 rfl rfl rfl rfl rfl rfl rfl ⟨rfl, rfl, rfl, rfl, rfl⟩ rfl rfl rfl rfl rfl (by kernel_rfl) Try.func14 (by kernel_rfl)
    (of_decide_eq_true (by kernel_rfl)) (by unfold Func.isWrapper; first | (rw [if_pos (by decide +kernel)]; kernel_rfl) | (rw [if_neg (by decide +kernel)]; exact ⟨rfl, rfl⟩))
    (fun os started H enc _ => lifted os started H enc)

/-- ████ THE STATEMENT ████ -/
theorem proved : Rows.ShardTellsSaid := over
#print axioms proved
end Go.Proofs.Ytnnaidladcdbdaa.shardTells
