/- The keys of chapter 15: a release and a name; and zones that tell a number. -/
import Derived.Test.YtnnaidladcdbdaaKeys
import Derived.DeepKeys4
namespace Go.Proofs.Ytnnaidladcdbdaa
open Go.RowKit Go.ChangeMaps
open Go.Maps (Keyed)

abbrev PK := Int × ByteArray

theorem row58 : (58 : TypeId) < Try.prog.types.size := of_decide_eq_true (by kernel_rfl)
theorem wide58 : (match Try.prog.underlying 58 with | some (.array _ _) | some (.struct _) => true | _ => false) = true := by rw [Try.underlying58]
theorem laid0 : laidOutB Try.prog = true := by kernel_rfl
theorem at58 : Try.prog.keyTypeAt 2 58 = true := by kernel_rfl
set_option maxRecDepth 100000 in
theorem law58 : WideMaps.KeyLaw Try.prog 58 := deep_law_laid (P := Try.prog) (k := 58) laid0 (m := 2) (by omega) row58 at58 wide58
theorem kt58 : Try.prog.keyType 58 = true := by kernel_rfl
theorem cells58 : Try.prog.cellsOf 58 = 2 := by kernel_rfl
theorem cells3 : Try.prog.cellsOf 3 = 1 := by kernel_rfl
theorem cells9 : Try.prog.cellsOf 9 = 1 := by kernel_rfl
theorem formed58 (r : Int) (s : ByteArray) : (Value.agg #[.int .i64 r, .string s]).formed Try.prog 58 = true := by simp [Value.formed, Try.underlying58, cells58]

theorem key58 {r : Int} {s : ByteArray} (hr : (Lit.int .i64 r).wf = true) (hs : s.size ≤ maxLen) : ∃ l, keyOf Try.prog 58 (.agg #[.int .i64 r, .string s]) = some l := by
  obtain ⟨n, hn⟩ : ∃ n, Try.prog.types.size = n + 1 := ⟨Try.prog.types.size - 1, by have : 58 < Try.prog.types.size := row58; omega⟩
  have h : Try.prog.keyLits (Try.prog.types.size + 1) 58 (Value.agg #[.int .i64 r, .string s]).cells.toList = some [.int .i64 r, .string s.data.toList] := by
    rw [hn]
    simp [Program.keyLits, Try.underlying58, Try.underlying3, Try.underlying9, cells58, cells3, cells9, Value.cells, hr, hs]
  unfold keyOf
  simp only [Try.underlying58]
  rw [kt58, formed58, h]
  exact ⟨_, rfl⟩

@[reducible] noncomputable def KP : KeyK Try.prog 58 PK where
  law := Keyed.of_law law58
  val k := .agg #[.int .i64 k.1, .string k.2]
  ok k := (Lit.int .i64 k.1).wf = true ∧ k.2.size ≤ maxLen
  lit _ h := key58 h.1 h.2
  inj := fun a b h => by
    injection h with h
    obtain ⟨a1, a2⟩ := a
    obtain ⟨b1, b2⟩ := b
    simp at h
    rw [h.1, h.2]

/-- A zone of which only the kinds are told: its value. -/
abbrev zv (z : Value) : Value := .agg #[z, .slice none 0 0, .slice none 0 0, .int .i64 0, .bool false, .string ⟨#[]⟩, .int .i64 0, .bool false, .string ⟨#[]⟩, .bool false,
  .int .i64 0, .int .i64 0, .int .i64 0, .int .i64 0, .int .i64 0, .int .i64 0, .int .i64 0, .int .i64 0, .int .i64 0, .int .i64 0, .bool false]

theorem zero69 (w : World) : (zeroValue 69).run Try.prog w = .ok (zv (.slice none 0 0)) w := by kernel_rfl
theorem zero58 (w : World) : (zeroValue 58).run Try.prog w = .ok (.agg #[.int .i64 0, .string ⟨#[]⟩]) w := by kernel_rfl
theorem info69 : (Try.prog.info? 69).map (fun i => (i.zero, i.size, i.bytes)) = some (some (zv (.slice none 0 0)), 21, 232) := by kernel_rfl
theorem info63 : (Try.prog.info? 63).map (fun i => (i.zero, i.size, i.bytes)) = some (some (.agg #[.int .i64 0, .bool false, .string ⟨#[]⟩]), 3, 32) := by kernel_rfl
theorem info58 : (Try.prog.info? 58).map (fun i => (i.zero, i.size, i.bytes)) = some (some (.agg #[.int .i64 0, .string ⟨#[]⟩]), 2, 24) := by kernel_rfl
theorem zeroP150 (w : World) : (zeroValue 150).run Try.prog w = .ok (.pointer none) w := by kernel_rfl

end Go.Proofs.Ytnnaidladcdbdaa
