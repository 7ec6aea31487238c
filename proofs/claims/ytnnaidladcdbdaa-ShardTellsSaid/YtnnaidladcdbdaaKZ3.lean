/- The contracts of recent.List[shard.Key, api.Zone], the third part: Keys. -/
import Derived.Test.YtnnaidladcdbdaaKZ2
namespace Go.Proofs.Ytnnaidladcdbdaa
open Go.RowKit Go.ChangeMaps
open Go.Maps (Keyed)
namespace KZ
variable {F : Nat → Prop} {p m : Nat} {room : Int}

theorem cell_key_new (w : World) (a b : Value) (t : TypeId) : ∀ j u, [a, b][j]? = some u → (w.alloc (.cells #[a, b] t)).cell? ((⟨w.heap.size, 0, none⟩ : Addr).add j) = some u := by
  intro j u hj
  match j, hj with
  | 0, hj => simp at hj; subst hj; simp [Addr.add]
  | 1, hj => simp at hj; subst hj; simp [Addr.add]

theorem sizeN0 : (Try.prog.info? 152).map (fun i => i.size) = some 25 := by kernel_rfl
theorem sizeN : ∃ j, Try.prog.info? 152 = some j ∧ j.size ≠ 0 := by
  obtain ⟨j, h1, h2⟩ := Option.map_eq_some_iff.1 sizeN0
  exact ⟨j, h1, by omega⟩

/-- A key's cells. -/
def kcells (k : PK) : List Value := [.int .i64 k.1, .string k.2]
/-- A list's keys, cell by cell. -/
def krow : List PK → List Value
  | [] => []
  | k :: r => .int .i64 k.1 :: .string k.2 :: krow r
theorem krow_append : ∀ a b : List PK, krow (a ++ b) = krow a ++ krow b
  | [], _ => rfl
  | k :: r, b => by rw [List.cons_append, krow, krow, krow_append r b]; rfl
theorem krow_length : ∀ a : List PK, (krow a).length = a.length * 2
  | [] => rfl
  | k :: r => by simp only [krow, List.length_cons, krow_length r]; omega
theorem krow_at : ∀ (l : List PK) (i : Nat) (k : PK), l[i]? = some k → (krow l)[i * 2]? = some (.int .i64 k.1) ∧ (krow l)[i * 2 + 1]? = some (.string k.2)
  | [], i, k, h => by simp at h
  | x :: r, 0, k, h => by simp at h; subst h; exact ⟨rfl, rfl⟩
  | x :: r, i + 1, k, h => by
    simp at h
    obtain ⟨h1, h2⟩ := krow_at r i k h
    have e : (i + 1) * 2 = i * 2 + 2 := by omega
    rw [e]
    simp only [krow]
    exact ⟨by simpa using h1, by simpa using h2⟩

set_option maxRecDepth 100000 in
set_option maxHeartbeats 1600000 in
theorem keys_c {w : World} {l : List (PK × SV)} (h : Is w F p room l) (hl : l.length ≤ 1000) :
    Calls Try.prog 68 #[.pointer (some ⟨p, 0, none⟩)] w fun e w' => e = .returned (.slice (some ⟨w.heap.size, 0, none⟩) l.length l.length) ∧
      w'.ownsRow w.heap.size 58 2 (.slice (some ⟨w.heap.size, 0, none⟩) l.length l.length) l.length (krow (l.map Prod.fst)) ∧ Below w.heap.size w w' := by
  obtain ⟨m, ns, rfl, hr, hm, hF, hroom⟩ := h
  have c1 := hr.c1
  have hlen := hm.len KP Try.underlying149 3
  simp only [List.length_map] at hlen hl ⊢
  obtain ⟨i0, hi, hz0, hz1, hz2⟩ := info_parts info58
  obtain ⟨j, hj1, hj2⟩ := sizeN
  clear hm
  obtain ⟨N, hN⟩ : ∃ N, N = ns.length := ⟨_, rfl⟩
  have HN := Lib.hid hN
  rw [← hN] at hl hlen ⊢
  clear hN
  have HR := Lib.hid hr
  have HJ := Lib.hid hj1
  clear hr hF hj1
  go_enter Try.func68, Try.ntmps68
  go_wp2_with (at_make; refine wpList_make_own _ rfl _ _ 79 rfl w.heap.size 58 i0 (.agg #[.int .i64 0, .string ⟨#[]⟩]) 2 Try.underlying79 hi hz0 hz1 .i64 .i64 _ N rfl rfl rfl (by rw [hz2]; omega) (by unfold maxLen; omega) (Nat.le_refl _) ?_; intro w1 hown hg1; have hb1 := (Below.refl w.heap.size w).grown hg1 (Nat.le_refl _) (fun _ h => by cases h); have c5 : w1.cell? ⟨p, 26, none⟩ = some (cur p ns) := (HR.out.below hb1).first)
  go_loopw [3, 4] (fun o n wr => ∃ a c, ns = a ++ c ∧ n = cur p c ∧ o = .slice (some ⟨w.heap.size, 0, none⟩) a.length N ∧ wr.ownsRow w.heap.size 58 2 (.slice (some ⟨w.heap.size, 0, none⟩) a.length N) a.length (krow (a.map fun x => x.2.1)) ∧ Below w.heap.size w wr) (fun o _ _ => N - (match o with | .slice _ k _ => k | _ => 0))
  case atStart => exact ⟨[], ns, rfl, rfl, rfl, hown, hb1⟩
  case round =>
    obtain ⟨a, c, hns, rfl, rfl, hown1, hb2⟩ := hrel
    have HN2 := Lib.hid hns
    have HR2 := Lib.hid (HR.out.below hb2)
    clear hown hb1 hg1 c5
    cases c with
    | nil =>
      have hq := run_neq_ptr_same wr ⟨p, 2, none⟩ Try.underlying150 HJ.out
      have e0 : cur p ([] : List (Nat × PK × SV)) = .pointer (some ⟨p, 2, none⟩) := rfl
      rw [e0]
      have HE := Lib.hid (show a.length = N by rw [HN.out, hns]; simp)
      have HA := Lib.hid (show ns = a by rw [hns]; simp)
      clear e0 hns
      go_wp2_with fail
      go_ret
      rw [HA.out]
      rw [HE.out] at hown1 ⊢
      exact ⟨rfl, by rw [List.map_map]; exact hown1, hb2⟩
    | cons x c =>
      have hq := HR2.out.neq hns Try.underlying150 HJ.out hj2
      have e0 : cur p (x :: c) = .pointer (some ⟨x.1, 0, none⟩) := rfl
      rw [e0]
      have c0 : wr.cell? ⟨x.1, 0, none⟩ = some (.int .i64 x.2.1.1) := HR2.out.cells x (by rw [hns]; simp) 0 (by omega)
      have c0' : wr.cell? ⟨x.1, 1, none⟩ = some (.string x.2.1.2) := HR2.out.cells x (by rw [hns]; simp) 1 (by omega)
      have hlt : a.length < N := by rw [HN.out, hns]; simp
      clear e0 hns
      go_wp2_with (at_builtin; refine wpList_append_fits _ rfl _ _ 79 rfl w.heap.size 58 i0 2 Try.underlying79 hi hz1 w.heap.size a.length N _ rfl (hown1.alloc _) ⟨wr.heap.size, 0, none⟩ 1 1 [.int .i64 x.2.1.1, .string x.2.1.2] rfl rfl (cell_key_new _ _ _ _) (by simp [Value.oneCell']) (by omega) ?_; intro w2 hown2 hg2; have hb3 := (hb2.alloc hb2.size _).grown hg2 (by have := hb2.size; simp; omega) (fun _ h => by cases h; exact Nat.le_refl _); have c3 : w2.cell? ⟨x.1, 24, none⟩ = some (cur p c) := (HR.out.below hb3).next HN2.out)
      refine ⟨⟨a ++ [x], c, by rw [HN2.out]; simp, rfl, by simp, ?_, hb3⟩, by simp; omega⟩
      simp only [List.length_append, List.length_cons, List.length_nil, List.map_append, List.map_cons, List.map_nil, krow_append]
      exact hown2

end KZ
end Go.Proofs.Ytnnaidladcdbdaa
