/- The example in known() holds: the interpreter answers true, by the kernel. No conditions. -/
import Derived.Test.YtoommmeapdkopaaZC2
import Derived.KernelRfl
namespace Go.Proofs.Ytoommmeapdkopaa.E
open Go Go.Eng
theorem known_ev {H : Heap} : (evN G 20).call 10 [] H = some (.bool true, H) := by kernel_rfl
theorem cknown {H : Heap} {k : V → Heap → Prop} (h : k (.bool true) H) : Cl G 10 [] H k := ⟨20, _, _, known_ev, h⟩
end Go.Proofs.Ytoommmeapdkopaa.E
