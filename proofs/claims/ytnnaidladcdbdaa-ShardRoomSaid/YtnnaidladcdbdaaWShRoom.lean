/- The walk of ShardRoom: the call answers true. -/
import Derived.Test.YtnnaidladcdbdaaWOwn
import Derived.Test.YtnnaidladcdbdaaBits
import Derived.Laws.IdiomStrings
import Derived.OpenShut
import Derived.StillTailTactics
import Derived.Deep.DeepCutAuto
import Derived.Deep.CutBlock
namespace Go.Proofs.Ytnnaidladcdbdaa
open Go.RowKit Go.ChangeMaps
open KZ (SV sv ZA KK)

/-- A row of bytes. -/
def BRow (w : World) (a : Option Addr) (len : Nat) : Prop := ∀ i, i < len → ∃ b off, ∃ c : UInt8, a = some ⟨b, off, none⟩ ∧ b < w.heap.size ∧ w.cell? ⟨b, off + i, none⟩ = some (.int .u8 (c.toNat : Int))

/-- What is known of a slice of bytes that came in. -/
def InBytes (w : World) (a : Option Addr) (len cap : Nat) (zs : List Int) : Prop :=
  (a = none ∧ len = 0 ∧ cap = 0 ∧ zs = []) ∨
  ∃ x, a = some x ∧ len ≤ cap ∧ cap ≤ maxLen ∧ zs.length = cap ∧ (∀ i, i < zs.length → w.cell? (x.add i) = some (.int .u8 (zs.getD i 0))) ∧ ∀ n ∈ zs, (Lit.int .u8 n).wf = true

theorem InBytes.len_le {w : World} {a : Option Addr} {len cap : Nat} {zs : List Int} (h : InBytes w a len cap zs) : len ≤ 9223372036854775807 := by
  rcases h with ⟨_, rfl, _⟩ | ⟨x, _, h1, h2, _⟩
  · omega
  · unfold maxLen at h2; omega

theorem InBytes.row {w : World} {a : Option Addr} {len cap : Nat} {zs : List Int} (h : InBytes w a len cap zs) : BRow w a len := fun k hk => by
  rcases h with ⟨_, rfl, _⟩ | ⟨x, rfl, h1, h2, h3, h4, h5⟩
  · omega
  · obtain ⟨b, off, rfl, hc⟩ := ints_at h4 (by omega)
    have hck := hc k (by omega)
    have hw := h5 (zs.getD k 0) (by rw [List.getD_eq_getElem?_getD, List.getElem?_eq_getElem (by omega)]; exact List.getElem_mem _)
    have hr : 0 ≤ zs.getD k 0 ∧ zs.getD k 0 ≤ 255 := by
      simp [Lit.wf, IntKind.min, IntKind.max, IntKind.signed, IntKind.bits] at hw
      exact hw
    refine ⟨b, off, UInt8.ofNat (zs.getD k 0).toNat, rfl, World.block_lt_of_cell? (a := ⟨b, off + k, none⟩) _ hck, ?_⟩
    rw [hck]
    have : ((UInt8.ofNat (zs.getD k 0).toNat).toNat : Int) = zs.getD k 0 := by
      rw [UInt8.toNat_ofNat']
      omega
    rw [this]

/-- A byte's key. -/
abbrev kc (c : UInt8) : PK := (1, ⟨#[c]⟩)
theorem ok_kc (c : UInt8) : KP.ok (kc c) := ⟨WalkArith.wf_i64 (by simp), by show (1 : Nat) ≤ maxLen; unfold maxLen; omega⟩
theorem conv_byte (w : World) (c : UInt8) : (convert 78 9 (.slice (some ⟨w.heap.size, 0, none⟩) 1 1)).run Try.prog (w.alloc (.cells #[.int .u8 (c.toNat : Int)] 5)) = .ok (.string ⟨#[c]⟩) (w.alloc (.cells #[.int .u8 (c.toNat : Int)] 5)) :=
  run_convert_bytes_back (w.alloc (.cells #[.int .u8 (c.toNat : Int)] 5)) 78 9 5 ⟨w.heap.size, 0, none⟩ 1 [c] Try.underlying78 Try.underlying5 Try.underlying9 (fun j hj => by
    have hj0 : j = 0 := by simp at hj; exact hj
    subst hj0
    have : (⟨w.heap.size, 0, none⟩ : Addr).add 0 = ⟨w.heap.size, 0, none⟩ := by simp [Addr.add]
    rw [this, World.cell?_alloc_new]; rfl)

theorem del_lt {κ ν : Type} [DecidableEq κ] {l : List (κ × ν)} {k : κ} (h : has l k = true) : (del l k).length + 1 ≤ l.length := by
  obtain ⟨x, hx, e⟩ := List.mem_map.1 (has_iff.1 h)
  exact List.length_filter_lt_length_iff_exists.2 ⟨x, hx, by simp [e]⟩
theorem putS_len {κ ν : Type} [DecidableEq κ] {R : Nat} {l : List (κ × ν)} {k : κ} {v : ν} (hR : 1 ≤ R) (h : l.length ≤ R) : (putS R l k v).length ≤ R := by
  unfold putS goes
  cases hh : has l k with
  | true => simp only [if_true]; have := del_lt hh; unfold use; simp; omega
  | false =>
    by_cases hl : (R : Int) ≤ (l.length : Int)
    · simp [hl]; omega
    · simp [hl]; omega
theorem getS_len {κ ν : Type} [DecidableEq κ] {l : List (κ × ν)} {k : κ} {z : ν} : (getS l k z).length ≤ l.length := by
  unfold getS
  split
  · rename_i hh; have := del_lt hh; unfold use; simp; omega
  · exact Nat.le_refl _
theorem getS_last {κ ν : Type} [DecidableEq κ] {l : List (κ × ν)} {k : κ} {z : ν} (h : has l k = true) : ∃ m, (getS l k z).map Prod.fst = m ++ [k] := by
  unfold getS
  rw [if_pos h]
  exact ⟨(del l k).map Prod.fst, by unfold use; simp⟩
theorem putS_lastk {κ ν : Type} [DecidableEq κ] {R : Int} {l : List (κ × ν)} {k : κ} {v : ν} : ∃ m, (putS R l k v).map Prod.fst = m ++ [k] := by
  unfold putS
  split
  · exact ⟨(del l k).map Prod.fst, by unfold use; simp⟩
  · split
    · exact ⟨l.tail.map Prod.fst, by simp⟩
    · exact ⟨l.map Prod.fst, by simp⟩
theorem how_hit {d : List (PK × Option Int)} {k : PK} (h : has d k = true) : beginHow d [] k = 1 := by unfold beginHow; rw [h]; rfl
theorem how_miss {d : List (PK × Option Int)} {k : PK} (h : has d k = false) : beginHow d [] k = 2 := by unfold beginHow; rw [h]; rfl
theorem f_hit {d : List (PK × Option Int)} {k : PK} (h : has d k = true) (i : Int) : beginF d [] k i = [] := by unfold beginF; rw [h]; rfl
theorem f_miss {d : List (PK × Option Int)} {k : PK} (h : has d k = false) (i : Int) : beginF d [] k i = [(k, i, [])] := by unfold beginF; rw [h]; rfl
theorem g_miss {d : List (PK × Option Int)} {k : PK} (h : has d k = false) : getS d k none = d := by unfold getS; rw [h]; rfl
theorem del_one (k : PK) (i : Int) (ws : List Int) : del [(k, i, ws)] k = [] := by simp [del]
/-- Each key's value is its own byte. -/
def OwnVal (d : List (PK × Option Int)) : Prop := ∀ x ∈ d, ∃ c : UInt8, x = (kc c, some (c.toNat : Int))
theorem OwnVal.hit {d : List (PK × Option Int)} {c : UInt8} (hd : OwnVal d) (h : has d (kc c) = true) : beginZ d (kc c) = some (c.toNat : Int) := by
  unfold beginZ
  rw [if_pos h]
  obtain ⟨c', e⟩ := hd _ (valOf_mem (has_iff.1 h) none)
  simp only [Prod.mk.injEq, ByteArray.mk.injEq] at e
  obtain ⟨⟨-, e1⟩, e2⟩ := e
  have : c = c' := by simpa using e1
  rw [e2, this]
theorem OwnVal.getS {d : List (PK × Option Int)} {c : UInt8} (hd : OwnVal d) (h : has d (kc c) = true) : OwnVal (getS d (kc c) none) := fun x hx => by
  unfold Go.Proofs.Ytnnaidladcdbdaa.getS at hx
  rw [if_pos h] at hx
  unfold use at hx
  rcases List.mem_append.1 hx with hx | hx
  · exact hd x (List.mem_filter.1 hx).1
  · simp only [List.mem_singleton] at hx
    rw [hx]
    exact hd _ (valOf_mem (has_iff.1 h) none)
theorem OwnVal.putS {d : List (PK × Option Int)} {c : UInt8} {R : Int} (hd : OwnVal d) : OwnVal (putS R d (kc c) (some (c.toNat : Int))) := fun x hx => by
  unfold Go.Proofs.Ytnnaidladcdbdaa.putS at hx
  split at hx
  · unfold use at hx
    rcases List.mem_append.1 hx with hx | hx
    · exact hd x (List.mem_filter.1 hx).1
    · simp only [List.mem_singleton] at hx; exact ⟨c, hx⟩
  · split at hx
    · rcases List.mem_append.1 hx with hx | hx
      · exact hd x (List.mem_of_mem_tail hx)
      · simp only [List.mem_singleton] at hx; exact ⟨c, hx⟩
    · rcases List.mem_append.1 hx with hx | hx
      · exact hd x hx
      · simp only [List.mem_singleton] at hx; exact ⟨c, hx⟩

theorem Site.nodup {B : Nat} {w0 w : World} {p : Nat} {room : Int} {d : List (PK × Option Int)} {fl : List (PK × Int × List Int)} {rs : List (Int × Option Int × Int)} {ks : List (Nat × PK)} {zs : List (Nat × SV × Option Int)} {vs : List (SV × Option Int)} (h : Site B w0 w p room d fl rs ks zs vs) : (d.map Prod.fst).Nodup := by
  obtain ⟨X, ⟨s, -, h, -⟩, -⟩ := h
  rw [← h.told.keys]
  exact h.done.nodup

theorem Site.bare {B : Nat} {w0 w : World} {p : Nat} {room : Int} {d : List (PK × Option Int)} {fl : List (PK × Int × List Int)} {rs : List (Int × Option Int × Int)} {ks : List (Nat × PK)} {zs : List (Nat × SV × Option Int)} {vs : List (SV × Option Int)} (h : Site B w0 w p room d fl rs ks zs vs) : Site B w0 w p room d fl rs [] [] [] := by
  obtain ⟨X, ho, -, -, -⟩ := h
  exact ⟨X, ho, (fun _ h => by cases h), (fun _ h => by cases h), (fun _ h => by cases h)⟩

set_option maxRecDepth 100000 in
set_option maxHeartbeats 8000000 in
theorem shroom_walk (a0 : Int) (a1 : Option Addr) (len1 cap1 : Nat) (w : World) (hrow : BRow w a1 len1) (hlen : len1 ≤ 9223372036854775807) :
    Calls Try.prog 12 #[.int .i64 a0, .slice a1 len1 cap1] w fun e w' => e = .returned (.bool true) ∧ Below w.heap.size w w' := by
  obtain ⟨R, hR, hR1, hR2⟩ := one_mod a0 10 (by omega) (by omega)
  have HROW := Lib.hid hrow
  clear hrow
  go_enter Try.func12, Try.ntmps12
  go_wp2_with fail
  refine (shown35 w).mono ?_
  rintro e w1 ⟨rfl, hb1⟩
  go_wp2_with fail
  rw [hR]
  clear hR
  have hnew := site_new (R : Int) w w1 hb1
  have hmx : max 1 (R : Int) = (R : Int) := by omega
  rw [hmx] at hnew
  refine hnew.mono ?_
  clear hnew hmx
  rintro e w2 ⟨p, rfl, s2⟩
  have S2 := Lib.hid s2
  clear s2 hb1
  go_wp2_with fail
  go_loopw [7] (fun i wr => ∃ (k : Nat) (d : List (PK × Option Int)), i = .int .i64 k ∧ k ≤ len1 ∧ k ≤ 60 ∧ d.length ≤ R ∧ OwnVal d ∧ Site w.heap.size w wr p R d [] [] [] [] []) (fun i _ => 60 - (intOf i).toNat)
  case atStart => exact ⟨0, [], rfl, by omega, by omega, by simp, (fun _ h => by cases h), S2.out⟩
  case round =>
    obtain ⟨k, d, rfl, hk, hk60, hdl, hdc, s4⟩ := hrel
    clear S2
    have S := Lib.hid s4
    have HDL := Lib.hid hdl
    have HDC := Lib.hid hdc
    clear s4 hdl hdc
    by_cases hlt : k < len1 ∧ k < 60
    · obtain ⟨hlt1, hlt2⟩ := hlt
      obtain ⟨b, off, c, ha, hbw, hc0⟩ := HROW.out k hlt1
      subst ha
      have hB := S.out.below
      have hcr : wr.cell? ⟨b, off + k, none⟩ = some (.int .u8 (c.toNat : Int)) := (hB.cell (p := ⟨b, off + k, none⟩) hbw).trans hc0
      have hconv := conv_byte wr c
      have i1 : (k : Int) < (len1 : Int) := by omega
      have HB := Lib.hid hB
      have HC0 := Lib.hid (And.intro hbw hc0)
      clear hB hc0 hbw
      go_upto_region 10 with fail
      have hc1 : ∀ j, ((wr.alloc (.cells #[.int .u8 (c.toNat : Int)] 5)).alloc (.cells #[.int .i64 1, .string ⟨#[c]⟩] 58)).cell? ⟨wr.heap.size + 1, j, none⟩ = #[Value.int .i64 1, .string ⟨#[c]⟩][j]? := fun j => by
        have := World.cell?_alloc_new (wr.alloc (.cells #[.int .u8 (c.toNat : Int)] 5)) #[Value.int .i64 1, .string ⟨#[c]⟩] 58 j
        rwa [World.size_alloc] at this
      have s2 := S.out.addKey (b := wr.heap.size + 1) (k := kc c) (((Below.refl _ wr).alloc (Nat.le_refl _) (.cells #[.int .u8 (c.toNat : Int)] 5)).alloc (by simp) (.cells #[.int .i64 1, .string ⟨#[c]⟩] 58)) (by omega) (by rw [hc1]; rfl) (by rw [hc1]; rfl)
      clear hc1 S hconv hcr
      revert s2
      generalize (wr.alloc _).alloc _ = w100
      intro s2
      have S := Lib.hid s2
      clear s2
      have hwc : IntKind.i64.wrap (c.toNat : Int) = (c.toNat : Int) := by rw [IntKind.wrap_i64]; have := c.toNat_lt; omega
      have hcc : ((c.toNat : Int) != (c.toNat : Int)) = false := by simp
      cases hh : has d (kc c) with
      | true =>
        have hval := HDC.out.hit hh
        have q := site_begin S.out 1 (by decide) (kc c) (ok_kc c)
        rw [how_hit hh, f_hit hh, hval, hdn] at q
        have k0 : w100.cell? ⟨wr.heap.size + 1, 0, none⟩ = some (.int .i64 1) := (S.out.key (b := wr.heap.size + 1) (k := (kc c)) (by simp)).1
        have k1 : w100.cell? ⟨wr.heap.size + 1, 1, none⟩ = some (.string ⟨#[c]⟩) := (S.out.key (b := wr.heap.size + 1) (k := (kc c)) (by simp)).2.1
        have Q := Lib.hid q
        clear q S
        go_wp2_with fail
        refine Q.out.mono ?_
        clear Q
        rintro e w101 ⟨vb, rfl, s⟩
        have S := Lib.hid s
        clear s k0 k1
        go_upto_region 11 with (refine wpList_store_mid (by rfl) 69 (.tmp 9) (.tmp 43) (by rfl) w101.heap.size 0 (za (sv vb)) (by rfl) (by rfl) (by exact there21 _ _ rfl) (size69' _) (za_one rfl) ?_)
        generalize hw : (w101.alloc _).setCells _ _ _ = w102
        obtain ⟨hb, hr, -⟩ := lay69 w101 _ (by rfl) vb w102 hw
        have S' := Lib.hid (((S.out.addZone (b := w101.heap.size) (List.mem_cons_self ..) hb (Nat.le_refl _) hr).only (vs' := []) (fun _ h => by cases h)))
        clear hw S hb hr
        have S := S'
        clear S'
        have hz := (S.out.zone (b := w101.heap.size) (v := vb) (o := some (c.toNat : Int)) (by simp)).1
        have hby : w102.cell? ⟨b, off + k, none⟩ = some (.int .u8 (c.toNat : Int)) := (S.out.below.cell (p := ⟨b, off + k, none⟩) HC0.out.1).trans HC0.out.2
        have S' := Lib.hid (S.out.later (w' := w102.drew) ((Below.refl _ _).drew))
        clear S
        refine wp_region_held_drew (S := fun w' => w'.rangeAt (w101.heap.size) 0 (zc (sv vb)) ∧ w'.cell? ⟨b, off + k, none⟩ = some (.int .u8 (c.toNat : Int))) (by kernel_rfl) ⟨hz, hby⟩ (fun hH => ?_)
        refine wpAnyH_take (i := 0) (v := .int .i64 1) rfl (by kernel_rfl) (by kernel_rfl) (by kernel_rfl) (fun _ _ _ h => h) (Or.inl ⟨by kernel_rfl, fun w' hS => by go_simp⟩) hH ?_
        refine wpAnyH_take (i := 1) (v := .bool true) rfl (by kernel_rfl) (by kernel_rfl) (by kernel_rfl) (fun _ _ _ h => h) (Or.inl ⟨by kernel_rfl, fun w' hS => by go_simp⟩) hH ?_
        refine wpAnyH_take (i := 2) (v := .bool true) rfl (by kernel_rfl) (by kernel_rfl) (by kernel_rfl) (fun _ _ _ h => h) (Or.inl ⟨by kernel_rfl, fun w' hS => by go_simp⟩) hH ?_
        refine wpAnyH_take (i := 3) (v := ZA vb) rfl (by kernel_rfl) (by kernel_rfl) (by kernel_rfl) (fun _ _ _ h => h) (yieldsIf_load_mid (by kernel_rfl) 69 (.tmp 9) (by rfl) (w101.heap.size) 0 (by rfl) (zc (sv vb)) _ (fun w' hS => hS.1) Try.underlying69 rfl (size69 _)) hH ?_
        refine wpAnyH_take (i := 5) (v := .slice (some ⟨b, off, none⟩) len1 cap1) rfl (by kernel_rfl) (by kernel_rfl) (by kernel_rfl) (fun _ _ _ h => h) (Or.inl ⟨by kernel_rfl, fun w' hS => by go_simp⟩) hH ?_
        refine wpAnyH_take (i := 6) (v := .int .i64 k) rfl (by kernel_rfl) (by kernel_rfl) (by kernel_rfl) (fun _ _ _ h => h) (Or.inl ⟨by kernel_rfl, fun w' hS => by go_simp⟩) hH ?_
        refine wpAnyH_take (i := 7) (v := .pointer (some ⟨b, off + k, none⟩)) rfl (by kernel_rfl) (by kernel_rfl) (by kernel_rfl) (fun _ _ _ h => h) (Or.inl ⟨by kernel_rfl, fun w' hS => by go_simp⟩) hH ?_
        refine wpAnyH_take (i := 8) (v := .int .u8 (c.toNat : Int)) rfl (by kernel_rfl) (by kernel_rfl) (by kernel_rfl) (fun _ _ _ h => h) (Or.inl ⟨by kernel_rfl, fun w' hS => by obtain ⟨s1, s2⟩ := hS; go_simp⟩) hH ?_
        refine wpAnyH_take (i := 9) (v := .int .i64 (c.toNat : Int)) rfl (by kernel_rfl) (by kernel_rfl) (by kernel_rfl) (fun _ _ _ h => h) (Or.inl ⟨by kernel_rfl, fun w' hS => by go_simp⟩) hH ?_
        refine wpAnyH_ready (rs := [4]) (by kernel_rfl) (by simp) ?_
        refine AllReadyH.cons rfl (fun K hK => ?_) AllReadyH.nil
        go_simp
        refine (site_number S'.out (S'.out.zone (b := w101.heap.size) (v := vb) (o := some (c.toNat : Int)) (by simp)).2).mono ?_
        rintro e w103 ⟨rfl, s⟩
        have S := Lib.hid s
        clear s S'
        have hz := (S.out.zone (b := w101.heap.size) (v := vb) (o := some (c.toNat : Int)) (by simp)).1
        have hby : w103.cell? ⟨b, off + k, none⟩ = some (.int .u8 (c.toNat : Int)) := (S.out.below.cell (p := ⟨b, off + k, none⟩) HC0.out.1).trans HC0.out.2
        refine hK.out _ _ ⟨hz, hby⟩ (fun hH => ?_)
        clear hK K
        refine wpAnyH_ready (rs := [10]) (by kernel_rfl) (by simp) ?_
        refine AllReadyH.cons rfl (fun K hK => ?_) AllReadyH.nil
        go_simp
        refine hK.out _ _ hH (fun hH => ?_)
        clear hK K
        refine wpAnyH_ready (rs := [11]) (by kernel_rfl) (by simp) ?_
        refine AllReadyH.cons rfl (fun K hK => ?_) AllReadyH.nil
        go_simp
        refine hK.out _ _ hH (fun hH => ?_)
        clear hK K
        refine wpAnyH_done (by kernel_rfl) ?_ _
        obtain ⟨m, hm⟩ := getS_last (z := none) hh
        have hdl' : (getS d (kc c) none).length ≤ R := Nat.le_trans getS_len HDL.out
        have HDC' := Lib.hid (HDC.out.getS hh)
        have hL : (getS d (kc c) none).length = m.length + 1 := by have := congrArg List.length hm; simpa using this
        have q := site_keys S.out (by omega)
        rw [hL, hm] at q
        have Q := Lib.hid q
        clear q
        go_wp2_with fail
        refine Q.out.mono ?_
        clear Q S
        rintro e wk ⟨rfl, hown, s⟩
        have S := Lib.hid s
        clear s
        have hkat := KZ.krow_at (m ++ [kc c]) m.length (kc c) (by simp)
        have ck0 : wk.cell? ⟨w103.heap.size, m.length * 2, none⟩ = some (.int .i64 1) := (hown.cellAt (m.length * 2) (by omega)).trans hkat.1
        have ck1 : wk.cell? ⟨w103.heap.size, m.length * 2 + 1, none⟩ = some (.string ⟨#[c]⟩) := (hown.cellAt (m.length * 2 + 1) (by omega)).trans hkat.2
        have k0 : wk.cell? ⟨wr.heap.size + 1, 0, none⟩ = some (.int .i64 1) := (S.out.key (b := wr.heap.size + 1) (k := kc c) (by simp)).1
        have k1 : wk.cell? ⟨wr.heap.size + 1, 1, none⟩ = some (.string ⟨#[c]⟩) := (S.out.key (b := wr.heap.size + 1) (k := kc c) (by simp)).2.1
        have hsd : ∀ n, Site w.heap.size w (wk.drewN n) p R (getS d (kc c) none) [] [] _ _ _ := fun n => S.out.later (below_drewN (Below.refl _ wk) n)
        have HF := Lib.hid (fun n => site_flying (hsd n))
        have HLN := Lib.hid (fun n => by have := site_len (hsd n); rw [hL] at this; exact this)
        have hgt : decide ((R : Int) < (m.length : Int) + 1) = false := decide_eq_false (by omega)
        have hne0 : ((m.length : Int) + 1 == 0) = false := beq_eq_false_iff_ne.2 (by omega)
        have hnn : ((m.length : Int) + 1 != (m.length : Int) + 1) = false := by simp
        have hlb : ([c].length == [c].length) = true := rfl
        have hMb : m.length + 1 ≤ R := by rw [← hL]; exact hdl'
        have hi1 : (m.length : Int) < (m.length : Int) + 1 := by omega
        have HL := Lib.hid hL
        have HM := Lib.hid hm
        clear hL hm hown hkat hsd
        generalize m.length = M at *
        go_wp2_with fail
        refine wp_region_quiet_lit (by kernel_rfl) (by kernel_rfl) ?_
        repeat (go_big_quiet_step (first | (go_at_call 40; exact quiet_same (HF.out _)) | (go_at_call 41; exact quiet_same (HLN.out _))))
        refine wpQuiet_nil ?_
        intro w7 hw7
        obtain ⟨nq, hw7⟩ := hw7
        subst hw7
        have S9 := Lib.hid (S.out.later (below_drewN (Below.refl _ wk) nq)).bare
        clear S HF HLN HL HM ck0 ck1 k0 k1
        go_wp2
        go_roundw
        case rel => exact ⟨k + 1, _, by go_num, by omega, by omega, hdl', HDC'.out, S9.out⟩
        case measure => simp [intOf]; omega
      | false =>
        have q := site_begin S.out 1 (by decide) (kc c) (ok_kc c)
        rw [how_miss hh, f_miss hh, g_miss hh, hdn] at q
        have k0 : w100.cell? ⟨wr.heap.size + 1, 0, none⟩ = some (.int .i64 1) := (S.out.key (b := wr.heap.size + 1) (k := (kc c)) (by simp)).1
        have k1 : w100.cell? ⟨wr.heap.size + 1, 1, none⟩ = some (.string ⟨#[c]⟩) := (S.out.key (b := wr.heap.size + 1) (k := (kc c)) (by simp)).2.1
        have Q := Lib.hid q
        clear q S
        go_wp2_with fail
        refine Q.out.mono ?_
        clear Q
        rintro e w101 ⟨vb, rfl, s⟩
        have S := Lib.hid s
        clear s k0 k1
        go_upto_region 11 with (refine wpList_store_mid (by rfl) 69 (.tmp 9) (.tmp 43) (by rfl) w101.heap.size 0 (za (sv vb)) (by rfl) (by rfl) (by exact there21 _ _ rfl) (size69' _) (za_one rfl) ?_)
        generalize hw : (w101.alloc _).setCells _ _ _ = w102
        obtain ⟨hb, hr, -⟩ := lay69 w101 _ (by rfl) vb w102 hw
        have S' := Lib.hid ((S.out.later hb).only (vs' := []) (fun _ h => by cases h))
        clear hw S hb hr
        have S := S'
        clear S'
        go_upto_region 14 with (go_quiet (fail))
        have S' := Lib.hid (S.out.later (below_drewN (Below.refl _ w102) nq))
        clear S
        revert S'
        generalize w102.drewN nq = w110
        intro S'
        have hkey : w110.rangeAt (wr.heap.size + 1) 0 [.int .i64 1, .string ⟨#[c]⟩] := S'.out.keyR (b := wr.heap.size + 1) (k := kc c) (by simp)
        have hby : w110.cell? ⟨b, off + k, none⟩ = some (.int .u8 (c.toNat : Int)) := (S'.out.below.cell (p := ⟨b, off + k, none⟩) HC0.out.1).trans HC0.out.2
        have S := Lib.hid (S'.out.later (w' := w110.drew) ((Below.refl _ _).drew))
        clear S'
        refine wp_region_held_drew (S := fun w' => w'.rangeAt (wr.heap.size + 1) 0 [.int .i64 1, .string ⟨#[c]⟩] ∧ w'.cell? ⟨b, off + k, none⟩ = some (.int .u8 (c.toNat : Int))) (by kernel_rfl) ⟨hkey, hby⟩ (fun hH => ?_)
        refine wpAnyH_take (i := 0) (v := .pointer (some ⟨p, 0, none⟩)) rfl (by kernel_rfl) (by kernel_rfl) (by kernel_rfl) (fun _ _ _ h => h) (Or.inl ⟨by kernel_rfl, fun w' hS => by go_simp⟩) hH ?_
        refine wpAnyH_take (i := 1) (v := KK (kc c)) rfl (by kernel_rfl) (by kernel_rfl) (by kernel_rfl) (fun _ _ _ h => h) (yieldsIf_load_mid (by kernel_rfl) 58 (.tmp 8) (by rfl) (wr.heap.size + 1) 0 (by rfl) [.int .i64 1, .string ⟨#[c]⟩] _ (fun w' hS => hS.1) Try.underlying58 rfl KZ.size58) hH ?_
        refine wpAnyH_take (i := 2) (v := .slice (some ⟨b, off, none⟩) len1 cap1) rfl (by kernel_rfl) (by kernel_rfl) (by kernel_rfl) (fun _ _ _ h => h) (Or.inl ⟨by kernel_rfl, fun w' hS => by go_simp⟩) hH ?_
        refine wpAnyH_take (i := 3) (v := .int .i64 k) rfl (by kernel_rfl) (by kernel_rfl) (by kernel_rfl) (fun _ _ _ h => h) (Or.inl ⟨by kernel_rfl, fun w' hS => by go_simp⟩) hH ?_
        refine wpAnyH_take (i := 4) (v := .pointer (some ⟨b, off + k, none⟩)) rfl (by kernel_rfl) (by kernel_rfl) (by kernel_rfl) (fun _ _ _ h => h) (Or.inl ⟨by kernel_rfl, fun w' hS => by go_simp⟩) hH ?_
        refine wpAnyH_take (i := 5) (v := .int .u8 (c.toNat : Int)) rfl (by kernel_rfl) (by kernel_rfl) (by kernel_rfl) (fun _ _ _ h => h) (Or.inl ⟨by kernel_rfl, fun w' hS => by obtain ⟨s1, s2⟩ := hS; go_simp⟩) hH ?_
        refine wpAnyH_take (i := 6) (v := .int .i64 (c.toNat : Int)) rfl (by kernel_rfl) (by kernel_rfl) (by kernel_rfl) (fun _ _ _ h => h) (Or.inl ⟨by kernel_rfl, fun w' hS => by go_simp⟩) hH ?_
        refine wpAnyH_ready (rs := [7]) (by kernel_rfl) (by simp) ?_
        refine AllReadyH.cons rfl (fun K hK => ?_) AllReadyH.nil
        go_simp
        refine (site_zone S.out (c.toNat : Int)).mono ?_
        clear S
        rintro e w111 ⟨vz, rfl, s⟩
        have S := Lib.hid s
        clear s
        have hkey : w111.rangeAt (wr.heap.size + 1) 0 [.int .i64 1, .string ⟨#[c]⟩] := S.out.keyR (b := wr.heap.size + 1) (k := kc c) (by simp)
        have hby : w111.cell? ⟨b, off + k, none⟩ = some (.int .u8 (c.toNat : Int)) := (S.out.below.cell (p := ⟨b, off + k, none⟩) HC0.out.1).trans HC0.out.2
        refine hK.out _ _ ⟨hkey, hby⟩ (fun hH => ?_)
        clear hK K
        refine wpAnyH_ready (rs := [8]) (by kernel_rfl) (by simp) ?_
        refine AllReadyH.cons rfl (fun K hK => ?_) AllReadyH.nil
        go_simp
        have q := site_end_yes (v := vz) (o := some (c.toNat : Int)) S.out 1 (kc c) (ok_kc c) 0 [] (by simp) (Or.inl (by simp))
        rw [if_pos rfl, if_pos rfl, fillR_nil, del_one] at q
        refine q.mono ?_
        clear q S
        rintro e w112 ⟨rfl, s⟩
        have S := Lib.hid (s.only (vs' := []) (fun _ h => by cases h))
        clear s
        have hkey : w112.rangeAt (wr.heap.size + 1) 0 [.int .i64 1, .string ⟨#[c]⟩] := S.out.keyR (b := wr.heap.size + 1) (k := kc c) (by simp)
        have hby : w112.cell? ⟨b, off + k, none⟩ = some (.int .u8 (c.toNat : Int)) := (S.out.below.cell (p := ⟨b, off + k, none⟩) HC0.out.1).trans HC0.out.2
        refine hK.out _ _ ⟨hkey, hby⟩ (fun hH => ?_)
        clear hK K
        refine wpAnyH_ready (rs := [9]) (by kernel_rfl) (by simp) ?_
        refine AllReadyH.cons rfl (fun K hK => ?_) AllReadyH.nil
        go_simp
        refine hK.out _ _ hH (fun hH => ?_)
        clear hK K
        refine wpAnyH_done (by kernel_rfl) ?_ _
        obtain ⟨m, hm⟩ := putS_lastk (R := (R : Int)) (l := d) (k := kc c) (v := some (c.toNat : Int))
        have hdl' : (putS (R : Int) d (kc c) (some (c.toNat : Int))).length ≤ R := putS_len hR1 HDL.out
        have HDC' := Lib.hid (OwnVal.putS (R := (R : Int)) (c := c) HDC.out)
        have hL : (putS (R : Int) d (kc c) (some (c.toNat : Int))).length = m.length + 1 := by have := congrArg List.length hm; simpa using this
        have q := site_keys S.out (by omega)
        rw [hL, hm] at q
        have Q := Lib.hid q
        clear q
        go_wp2_with fail
        refine Q.out.mono ?_
        clear Q S
        rintro e wk ⟨rfl, hown, s⟩
        have S := Lib.hid s
        clear s
        have hkat := KZ.krow_at (m ++ [kc c]) m.length (kc c) (by simp)
        have ck0 : wk.cell? ⟨w112.heap.size, m.length * 2, none⟩ = some (.int .i64 1) := (hown.cellAt (m.length * 2) (by omega)).trans hkat.1
        have ck1 : wk.cell? ⟨w112.heap.size, m.length * 2 + 1, none⟩ = some (.string ⟨#[c]⟩) := (hown.cellAt (m.length * 2 + 1) (by omega)).trans hkat.2
        have k0 : wk.cell? ⟨wr.heap.size + 1, 0, none⟩ = some (.int .i64 1) := (S.out.key (b := wr.heap.size + 1) (k := kc c) (by simp)).1
        have k1 : wk.cell? ⟨wr.heap.size + 1, 1, none⟩ = some (.string ⟨#[c]⟩) := (S.out.key (b := wr.heap.size + 1) (k := kc c) (by simp)).2.1
        have hsd : ∀ n, Site w.heap.size w (wk.drewN n) p R (putS (R : Int) d (kc c) (some (c.toNat : Int))) [] [] _ _ _ := fun n => S.out.later (below_drewN (Below.refl _ wk) n)
        have HF := Lib.hid (fun n => site_flying (hsd n))
        have HLN := Lib.hid (fun n => by have := site_len (hsd n); rw [hL] at this; exact this)
        have hgt : decide ((R : Int) < (m.length : Int) + 1) = false := decide_eq_false (by omega)
        have hne0 : ((m.length : Int) + 1 == 0) = false := beq_eq_false_iff_ne.2 (by omega)
        have hnn : ((m.length : Int) + 1 != (m.length : Int) + 1) = false := by simp
        have hlb : ([c].length == [c].length) = true := rfl
        have hMb : m.length + 1 ≤ R := by rw [← hL]; exact hdl'
        have hi1 : (m.length : Int) < (m.length : Int) + 1 := by omega
        have HL := Lib.hid hL
        have HM := Lib.hid hm
        clear hL hm hown hkat hsd
        generalize m.length = M at *
        go_wp2_with fail
        refine wp_region_quiet_lit (by kernel_rfl) (by kernel_rfl) ?_
        repeat (go_big_quiet_step (first | (go_at_call 40; exact quiet_same (HF.out _)) | (go_at_call 41; exact quiet_same (HLN.out _))))
        refine wpQuiet_nil ?_
        intro w7 hw7
        obtain ⟨nq, hw7⟩ := hw7
        subst hw7
        have S9 := Lib.hid (S.out.later (below_drewN (Below.refl _ wk) nq)).bare
        clear S HF HLN HL HM ck0 ck1 k0 k1
        go_wp2
        go_roundw
        case rel => exact ⟨k + 1, _, by go_num, by omega, by omega, hdl', HDC'.out, S9.out⟩
        case measure => simp [intOf]; omega
    · have hd : k = len1 ∨ k = 60 := by omega
      rcases hd with rfl | rfl
      · go_wp2
        all_goals
          go_ret
          exact ⟨rfl, S.out.below⟩
      · go_wp2
        all_goals
          go_ret
          exact ⟨rfl, S.out.below⟩

end Go.Proofs.Ytnnaidladcdbdaa
