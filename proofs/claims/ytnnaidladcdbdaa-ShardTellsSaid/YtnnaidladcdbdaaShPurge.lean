/- shard.Purge (chapter 15). -/
import Derived.Test.YtnnaidladcdbdaaSite
namespace Go.Proofs.Ytnnaidladcdbdaa
open Go.RowKit Go.ChangeMaps
open KZ (SV sv ZA KK)

/-- Without some keys. -/
def dels {κ ν : Type} [DecidableEq κ] (l : List (κ × ν)) (ks : List κ) : List (κ × ν) := ks.foldl del l
theorem dels_snoc {κ ν : Type} [DecidableEq κ] (l : List (κ × ν)) (ks : List κ) (k : κ) : dels l (ks ++ [k]) = del (dels l ks) k := by unfold dels; rw [List.foldl_append]; rfl
theorem dels_mem {κ ν : Type} [DecidableEq κ] (ks : List κ) : ∀ (l : List (κ × ν)) (x : κ × ν), x ∈ dels l ks ↔ (x ∈ l ∧ x.1 ∉ ks) := by
  induction ks with
  | nil => intro l x; simp [dels]
  | cons k r ih =>
    intro l x
    have : dels l (k :: r) = dels (del l k) r := rfl
    rw [this, ih]
    unfold del
    simp only [List.mem_filter, ne_eq, decide_eq_true_eq, List.mem_cons, not_or, and_assoc]
theorem dels_filter {κ ν : Type} [DecidableEq κ] (ks : List κ) : ∀ (l : List (κ × ν)) (f : κ → Bool), (∀ x ∈ l, f x.1 = true ↔ x.1 ∉ ks) → dels l ks = l.filter fun x => f x.1 := by
  induction ks with
  | nil => intro l f h; exact (List.filter_eq_self.2 (fun x hx => (h x hx).2 (by simp))).symm
  | cons k r ih =>
    intro l f h
    have : dels l (k :: r) = dels (del l k) r := rfl
    rw [this, ih (del l k) f (fun x hx => by
      obtain ⟨h1, h2⟩ := List.mem_filter.1 hx
      simp only [ne_eq, decide_eq_true_eq] at h2
      rw [h x h1, List.mem_cons, not_or]
      exact ⟨fun h => h.2, fun h => ⟨h2, h⟩⟩)]
    unfold del
    rw [List.filter_filter]
    refine List.filter_congr (fun x hx => ?_)
    by_cases hf : f x.1 = true
    · have := (h x hx).1 hf
      rw [List.mem_cons, not_or] at this
      simp [hf, this.1]
    · simp [hf]
theorem Rel.dels {κ ν μ : Type} [DecidableEq κ] {R : ν → μ → Prop} (ks : List κ) : ∀ {l : List (κ × ν)} {d : List (κ × μ)}, Rel R l d → Rel R (dels l ks) (dels d ks) := by
  induction ks with
  | nil => intro l d h; exact h
  | cons k r ih => intro l d h; exact ih (h.del k)

/-- A release's keys among the first j. -/
def drp (ks : List PK) (rel : Int) (j : Nat) : List PK := (ks.take j).filter fun k => decide (k.1 = rel)
theorem drp_yes {ks : List PK} {rel : Int} {j : Nat} {k : PK} (h : ks[j]? = some k) (hk : k.1 = rel) : drp ks rel (j + 1) = drp ks rel j ++ [k] := by
  unfold drp
  obtain ⟨hj, e⟩ := List.getElem?_eq_some_iff.1 h
  rw [List.take_succ_eq_append_getElem hj, e, List.filter_append, List.filter_cons_of_pos (by simpa using hk)]; rfl
theorem drp_no {ks : List PK} {rel : Int} {j : Nat} {k : PK} (h : ks[j]? = some k) (hk : k.1 ≠ rel) : drp ks rel (j + 1) = drp ks rel j := by
  unfold drp
  obtain ⟨hj, e⟩ := List.getElem?_eq_some_iff.1 h
  rw [List.take_succ_eq_append_getElem hj, e, List.filter_append, List.filter_cons_of_neg (by simpa using hk)]; simp
theorem drp_new {ks : List PK} {rel : Int} {j : Nat} {k : PK} (hn : ks.Nodup) (h : ks[j]? = some k) : k ∉ drp ks rel j := fun hin => by
  obtain ⟨hj, e⟩ := List.getElem?_eq_some_iff.1 h
  have h1 := (List.mem_filter.1 hin).1
  obtain ⟨i, hi, hie⟩ := List.getElem_of_mem h1
  simp only [List.length_take] at hi
  rw [List.getElem_take] at hie
  have := (List.getElem_inj hn).1 (hie.trans e.symm)
  omega
theorem drp_len (ks : List PK) (rel : Int) (j : Nat) : (drp ks rel j).length ≤ ks.length := Nat.le_trans (List.length_filter_le _ _) (by rw [List.length_take]; omega)

variable {w w' : World} {s : ShB} {room : Int} {d d' : List (PK × Option Int)} {rs rs' : List (Int × Option Int × Int)}

/-- What holds at each round's head. -/
structure PLoop (s : ShB) (room : Int) (d : List (PK × Option Int)) (rs : List (Int × Option Int × Int)) (w : World) (rel : Int) (K j : Nat) (wr : World) : Prop where
  at_ : ShAt wr { s with l := dels s.l (drp (d.map Prod.fst) rel j) } room (dels d (drp (d.map Prod.fst) rel j)) rs
  ch : Ch s.all w wr
  row : ∀ i k, (d.map Prod.fst)[i]? = some k → wr.cell? ⟨K, i * 2, none⟩ = some (.int .i64 k.1) ∧ wr.cell? ⟨K, i * 2 + 1, none⟩ = some (.string k.2)
  lo : w.heap.size ≤ K
  hi : K < wr.heap.size

theorem PLoop.kept {rel : Int} {K j : Nat} {wr wx : World} (h : PLoop s room d rs w rel K j wr) (hb : Below wr.heap.size wr wx) : PLoop s room d rs w rel K j wx := by
  have hc : Ch (fun _ => False) wr wx := Ch.of_none hb _
  exact ⟨h.at_.kept hc (fun _ _ h => h), h.ch.trans hc (fun _ _ h => h.elim), fun i k hk => ⟨(hc.cell (p := ⟨K, i * 2, none⟩) h.hi (fun h => h)).trans (h.row i k hk).1, (hc.cell (p := ⟨K, i * 2 + 1, none⟩) h.hi (fun h => h)).trans (h.row i k hk).2⟩, h.lo, Nat.lt_of_lt_of_le h.hi hb.size⟩

theorem PLoop.no {rel : Int} {K j : Nat} {wr : World} {k : PK} (h : PLoop s room d rs w rel K j wr) (hk : (d.map Prod.fst)[j]? = some k) (hr : k.1 ≠ rel) : PLoop s room d rs w rel K (j + 1) wr := by
  have e := drp_no hk hr
  exact ⟨by rw [e]; exact h.at_, h.ch, h.row, h.lo, h.hi⟩

/-- A key goes. -/
theorem PLoop.yes {rel : Int} {K j : Nat} {wr : World} {k : PK} (hlt : ∀ b, s.all b → b < w.heap.size) (h : PLoop s room d rs w rel K j wr) (hn : (d.map Prod.fst).Nodup) (hk : (d.map Prod.fst)[j]? = some k) (hr : k.1 = rel) (hok : KP.ok k) :
    Calls Try.prog 69 #[.pointer (some ⟨s.pd, 0, none⟩), KK k] wr fun e w' => e = .returned (.bool true) ∧ PLoop s room d rs w rel K (j + 1) w' ∧ Ch s.F wr w' := by
  have e := drp_yes hk hr
  have hh : has (dels s.l (drp (d.map Prod.fst) rel j)) k = true := by
    have h1 := h.at_.told.has k
    have h1' : has (dels s.l (drp (d.map Prod.fst) rel j)) k = has (dels d (drp (d.map Prod.fst) rel j)) k := h1
    rw [h1']
    obtain ⟨x, hx, hxk⟩ := List.mem_map.1 (List.mem_of_getElem? hk)
    exact has_iff.2 (List.mem_map.2 ⟨x, (dels_mem _ _ x).2 ⟨hx, by rw [hxk]; exact drp_new hn hk⟩, hxk⟩)
  refine (KZ.drop_c h.at_.done hok).mono fun x w' ⟨he, h2, hc2⟩ => ?_
  have hat := h.at_.listed hc2 h2 (fun b hb => Or.inl hb) ((h.at_.told_kept hc2).del k) (fun x hx a ha => h.at_.zl x (List.mem_filter.1 hx).1 a ha)
  have hKF : ¬ s.F K := fun hF => by have := hlt K (Or.inr (Or.inr (Or.inr (Or.inl hF)))); have := h.lo; omega
  refine ⟨by rw [he]; exact congrArg _ (congrArg _ hh), ⟨?_, h.ch.trans hc2 (fun b _ hb => Or.inr (Or.inr (Or.inr (Or.inl hb)))), fun i k' hk' => ⟨(hc2.cell (p := ⟨K, i * 2, none⟩) h.hi hKF).trans (h.row i k' hk').1, (hc2.cell (p := ⟨K, i * 2 + 1, none⟩) h.hi hKF).trans (h.row i k' hk').2⟩, h.lo, Nat.lt_of_lt_of_le h.hi hc2.size⟩, hc2⟩
  rw [e, dels_snoc, dels_snoc]
  exact hat

set_option maxRecDepth 100000 in
set_option maxHeartbeats 4000000 in
theorem purge46 (h : ShAt w s room d rs) (rel : Int) (hn : d.length ≤ 1000) (hks : ∀ k ∈ d.map Prod.fst, KP.ok k) :
    Calls Try.prog 46 #[.pointer (some ⟨s.p, 0, none⟩), .int .i64 rel] w fun e w' => e = .returned (.int .i64 (drp (d.map Prod.fst) rel d.length).length) ∧
      ShAt w' { s with l := dels s.l (drp (d.map Prod.fst) rel d.length) } room (dels d (drp (d.map Prod.fst) rel d.length)) rs ∧ Ch s.all w w' := by
  have HA := Lib.hid h.lt
  have hnd : (d.map Prod.fst).Nodup := by rw [← h.told.keys]; exact h.done.nodup
  have HND := Lib.hid hnd
  have HOK := Lib.hid hks
  have c0 := h.c0
  have hkc := KZ.keys_c h.done (by rw [h.told.length]; exact hn)
  rw [h.told.length, h.told.keys] at hkc
  have HKC := Lib.hid hkc
  have H := Lib.hid h
  clear hkc hnd hks h
  obtain ⟨L, hL⟩ : ∃ L, d.length = L := ⟨_, rfl⟩
  have HL := Lib.hid hL
  rw [hL] at HKC hn ⊢
  clear hL
  go_enter Try.func46, Try.ntmps46
  go_wp2_with fail
  refine HKC.out.mono ?_
  clear HKC
  rintro e w1 ⟨rfl, hown, hb1⟩
  have h0 : PLoop s room d rs w rel w.heap.size 0 w1 := by
    refine ⟨?_, Ch.of_none hb1 _, fun i k hk => ?_, Nat.le_refl _, (hown.lt w.heap.size rfl).2⟩
    · exact H.out.kept (Ch.of_none hb1 (fun _ => False)) (fun _ _ h => h)
    · have hi : i < L := by have := (List.getElem?_eq_some_iff.1 hk).1; rw [List.length_map] at this; rw [← HL.out]; exact this
      obtain ⟨k1, k2⟩ := KZ.krow_at _ i k hk
      exact ⟨(hown.cellAt (i * 2) (by omega)).trans k1, (hown.cellAt (i * 2 + 1) (by omega)).trans k2⟩
  have HB1 := Lib.hid hb1
  clear hown hb1 c0
  go_wp2_with fail
  go_loopw [5, 14] (fun n i wr => ∃ j : Nat, i = .int .i64 j ∧ j ≤ L ∧ n = .int .i64 (drp (d.map Prod.fst) rel j).length ∧ PLoop s room d rs w rel w.heap.size j wr) (fun _ i _ => L - (intOf i).toNat)
  case atStart => exact ⟨0, rfl, by omega, rfl, h0⟩
  case round =>
    obtain ⟨j, rfl, hj, rfl, hp⟩ := hrel
    clear h0
    have hdl : (drp (d.map Prod.fst) rel j).length ≤ 1000 := by have := drp_len (d.map Prod.fst) rel j; rw [List.length_map, HL.out] at this; omega
    by_cases hlt : j < L
    · obtain ⟨k, hk⟩ : ∃ k, (d.map Prod.fst)[j]? = some k := ⟨_, List.getElem?_eq_getElem (by rw [List.length_map, HL.out]; exact hlt)⟩
      obtain ⟨r0, r1⟩ := hp.row j k hk
      have i1 : (j : Int) < (L : Int) := by omega
      have HP := Lib.hid hp
      have HK := Lib.hid hk
      have hsz := hp.hi
      clear hp hk
      go_upto_region 5 with fail
      have hp2 := HP.out.kept ((Below.refl _ wr).alloc (Nat.le_refl _) (.cells #[.int .i64 k.1, .string k.2] 58))
      have hc0 : ∀ j, (wr.alloc (.cells #[.int .i64 k.1, .string k.2] 58)).cell? ⟨wr.heap.size, j, none⟩ = #[Value.int .i64 k.1, .string k.2][j]? := fun j => World.cell?_alloc_new _ _ _ _
      have k0 : (wr.alloc (.cells #[.int .i64 k.1, .string k.2] 58)).cell? ⟨wr.heap.size, 0, none⟩ = some (.int .i64 k.1) := by rw [hc0]; rfl
      have k1 : (wr.alloc (.cells #[.int .i64 k.1, .string k.2] 58)).cell? ⟨wr.heap.size, 1, none⟩ = some (.string k.2) := by rw [hc0]; rfl
      have hs2 : wr.heap.size < (wr.alloc (.cells #[.int .i64 k.1, .string k.2] 58)).heap.size := by simp
      clear hc0 HP r0 r1
      revert hp2 k0 k1 hs2
      generalize wr.alloc (.cells #[.int .i64 k.1, .string k.2] 58) = w2
      intro hp2 k0 k1 hs2
      have HP := Lib.hid hp2
      clear hp2
      by_cases hr : k.1 = rel
      · have hkr : (k.1 == rel) = true := beq_iff_eq.2 hr
        have c0 : w2.cell? ⟨s.p, 0, none⟩ = some (.pointer (some ⟨s.pd, 0, none⟩)) := HP.out.at_.c0
        have hkey : w2.rangeAt wr.heap.size 0 [.int .i64 k.1, .string k.2] := fun i v hv => by
          match i, hv with
          | 0, hv => simp at hv; subst hv; exact k0
          | 1, hv => simp at hv; subst hv; exact k1
        have HP' := Lib.hid (HP.out.kept (wx := w2.drew) ((Below.refl _ w2).drew))
        have hnF : ¬ s.F wr.heap.size := fun hF => by have := HA.out _ (Or.inr (Or.inr (Or.inr (Or.inl hF)))); have := HP.out.lo; omega
        have HNF := Lib.hid hnF
        have HR := Lib.hid hr
        clear HP hnF hr
        refine wp_region_held_drew (S := fun w' => w'.cell? ⟨s.p, 0, none⟩ = some (.pointer (some ⟨s.pd, 0, none⟩)) ∧ w'.cell? ⟨wr.heap.size, 0, none⟩ = some (.int .i64 k.1) ∧ w'.rangeAt wr.heap.size 0 [.int .i64 k.1, .string k.2]) (by kernel_rfl) ⟨c0, k0, hkey⟩ (fun hH => ?_)
        refine wpAnyH_take (i := 0) (v := .pointer (some ⟨wr.heap.size, 0, none⟩)) rfl (by kernel_rfl) (by kernel_rfl) (by kernel_rfl) (fun _ _ _ h => h) (Or.inl ⟨by kernel_rfl, fun w' hS => by go_simp⟩) hH ?_
        refine wpAnyH_take (i := 1) (v := .int .i64 k.1) rfl (by kernel_rfl) (by kernel_rfl) (by kernel_rfl) (fun _ _ _ h => h) (Or.inl ⟨by kernel_rfl, fun w' hS => by obtain ⟨s1, s2, s3⟩ := hS; go_simp⟩) hH ?_
        refine wpAnyH_take (i := 2) (v := .int .i64 rel) rfl (by kernel_rfl) (by kernel_rfl) (by kernel_rfl) (fun _ _ _ h => h) (Or.inl ⟨by kernel_rfl, fun w' hS => by go_simp⟩) hH ?_
        refine wpAnyH_take (i := 3) (v := .bool true) rfl (by kernel_rfl) (by kernel_rfl) (by kernel_rfl) (fun _ _ _ h => h) (Or.inl ⟨by kernel_rfl, fun w' hS => by go_simp⟩) hH ?_
        refine wpAnyH_take (i := 4) (v := .bool true) rfl (by kernel_rfl) (by kernel_rfl) (by kernel_rfl) (fun _ _ _ h => h) (Or.inl ⟨by kernel_rfl, fun w' hS => by go_simp⟩) hH ?_
        refine wpAnyH_take (i := 5) (v := .pointer (some ⟨s.p, 0, none⟩)) rfl (by kernel_rfl) (by kernel_rfl) (by kernel_rfl) (fun _ _ _ h => h) (Or.inl ⟨by kernel_rfl, fun w' hS => by go_simp⟩) hH ?_
        refine wpAnyH_take (i := 6) (v := .pointer (some ⟨s.p, 0, none⟩)) rfl (by kernel_rfl) (by kernel_rfl) (by kernel_rfl) (fun _ _ _ h => h) (Or.inl ⟨by kernel_rfl, fun w' hS => by go_simp⟩) hH ?_
        refine wpAnyH_take (i := 7) (v := .pointer (some ⟨s.p, 0, none⟩)) rfl (by kernel_rfl) (by kernel_rfl) (by kernel_rfl) (fun _ _ _ h => h) (Or.inl ⟨by kernel_rfl, fun w' hS => by go_simp⟩) hH ?_
        refine wpAnyH_take (i := 8) (v := .pointer (some ⟨s.pd, 0, none⟩)) rfl (by kernel_rfl) (by kernel_rfl) (by kernel_rfl) (fun _ _ _ h => h) (Or.inl ⟨by kernel_rfl, fun w' hS => by obtain ⟨s1, s2, s3⟩ := hS; go_simp⟩) hH ?_
        refine wpAnyH_take (i := 9) (v := KK k) rfl (by kernel_rfl) (by kernel_rfl) (by kernel_rfl) (fun _ _ _ h => h) (yieldsIf_load_mid (by kernel_rfl) 58 (.tmp 7) (by kernel_rfl) wr.heap.size 0 (by kernel_rfl) [.int .i64 k.1, .string k.2] _ (fun w' hS => hS.2.2) Try.underlying58 rfl KZ.size58) hH ?_
        refine wpAnyH_ready (rs := [10]) (by kernel_rfl) (by simp) ?_
        refine AllReadyH.cons rfl (fun K hK => ?_) AllReadyH.nil
        go_simp
        refine (HP'.out.yes HA.out HND.out HK.out HR.out (HOK.out k (List.mem_of_getElem? HK.out))).mono ?_
        rintro e w3 ⟨rfl, hp3, hc3⟩
        have c03 : w3.cell? ⟨s.p, 0, none⟩ = some (.pointer (some ⟨s.pd, 0, none⟩)) := hp3.at_.c0
        have k03 : w3.cell? ⟨wr.heap.size, 0, none⟩ = some (.int .i64 k.1) := (hc3.cell (p := ⟨wr.heap.size, 0, none⟩) hs2 HNF.out).trans k0
        have hkey3 := hc3.range hs2 HNF.out hkey
        have HP := Lib.hid hp3
        clear hp3 hc3 HP'
        refine hK.out _ _ ⟨c03, k03, hkey3⟩ (fun hH => ?_)
        clear hK K
        refine wpAnyH_ready (rs := [11]) (by kernel_rfl) (by simp) ?_
        refine AllReadyH.cons rfl (fun K hK => ?_) AllReadyH.nil
        go_simp
        refine hK.out _ _ hH (fun hH => ?_)
        clear hK K
        refine wpAnyH_done (by kernel_rfl) ?_ _
        have hlen : (drp (d.map Prod.fst) rel (j + 1)).length = (drp (d.map Prod.fst) rel j).length + 1 := by rw [drp_yes HK.out HR.out]; simp
        have HLEN := Lib.hid hlen
        clear hlen
        go_wp2
        go_roundw
        case rel => exact ⟨j + 1, by go_num, by omega, by rw [HLEN.out]; go_num, HP.out⟩
        case measure => simp [intOf]; omega
      · have hkr : (k.1 == rel) = false := beq_eq_false_iff_ne.2 hr
        have HR := Lib.hid hr
        clear hr
        go_wp2_with (go_quiet (fail))
        go_roundw
        case rel => exact ⟨j + 1, by go_num, by omega, by rw [drp_no HK.out HR.out], (HP.out.no HK.out HR.out).kept (below_drewN (Below.refl _ _) nq)⟩
        case measure => simp [intOf]; omega
    · obtain rfl : j = L := by omega
      have HP := Lib.hid hp
      clear hp
      go_wp2
      go_ret
      exact ⟨rfl, HP.out.at_, HP.out.ch⟩

end Go.Proofs.Ytnnaidladcdbdaa
