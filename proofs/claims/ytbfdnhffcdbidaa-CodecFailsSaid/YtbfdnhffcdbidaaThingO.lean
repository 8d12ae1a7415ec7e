/- How things that came in read. -/
import Derived.Test.YtbfdnhffcdbidaaThing
import Derived.Test.YtbfdnhffcdbidaaOpenR
namespace Go.Proofs.Ytbfdnhffcdbidaa
open Go.RowKit
theorem opens_bytes : Opens Try.prog (Rep.slice .u8) 22 := Opens.slice Try.underlying22 (by kernel_rfl) (Opens.u8 Try.underlying5 (by kernel_rfl)) (by decide)
theorem opens_thing : Opens Try.prog Rep.thing 44 :=
  Opens.as (Opens.struct Try.underlying44 (by kernel_rfl)
    (.cons rfl (Opens.int Try.underlying3 (by kernel_rfl)) (.cons rfl (Opens.int Try.underlying3 (by kernel_rfl)) (.cons rfl (Opens.u64 Try.underlying42 (by kernel_rfl)) (.cons rfl (Opens.str Try.underlying9 (by kernel_rfl))
      (.cons rfl opens_bytes (.one rfl (Opens.bool Try.underlying4 (by kernel_rfl)))))))))
    _ (fun p => ⟨p.1, p.2.1, p.2.2.1, p.2.2.2.1, p.2.2.2.2.1, p.2.2.2.2.2⟩) (fun _ => rfl)
theorem opens_things : Opens Try.prog Rep.thing.slice 36 := Opens.slice Try.underlying36 (by kernel_rfl) opens_thing (by decide)
end Go.Proofs.Ytbfdnhffcdbidaa
