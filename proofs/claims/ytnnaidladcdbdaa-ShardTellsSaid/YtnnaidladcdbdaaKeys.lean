/- The keys of the maps that the program makes: strings and ints; what a list may grow by. -/
import Derived.Test.YtnnaidladcdbdaaRows
import Derived.Test.YtnnaidladcdbdaaLru
namespace Go.Proofs.Ytnnaidladcdbdaa
open Go.RowKit Go.ChangeMaps
open Go.Maps (Keyed)

@[reducible] noncomputable def KS : KeyK Try.prog 9 ByteArray where
  law := Maps.string_keyed Try.underlying9
  val := .string
  ok s := s.size ≤ maxLen
  lit s hs := ⟨_, WideMaps.keyOf_string_mk Try.underlying9 hs⟩
  inj := fun _ _ h => by injection h

@[reducible] noncomputable def KI : KeyK Try.prog 3 Int where
  law := Maps.int_keyed Try.underlying3
  val := .int .i64
  ok n := (Lit.int .i64 n).wf = true
  lit n hn := ⟨_, Maps.keyOf_int_mk Try.underlying3 hn⟩
  inj := fun _ _ h => by injection h

abbrev grow (F : Nat → Prop) (n : Nat) : Nat → Prop := fun b => F b ∨ b = n

end Go.Proofs.Ytnnaidladcdbdaa
