/- Part of the proof: what all its texts use. -/
import Derived.Below
import Derived.Conc.Own
import Derived.Lib.Hide
namespace Go.Proofs.Ytpfpokjaeffbjaa
open Go.Conc Go.RowKit
theorem nle{n:Nat}:n<=n:=Nat.le_refl n
theorem bre{B:Nat}{w:World}:Below B w w:=Below.refl B w
theorem stp{P:Program}{m:Bool}{R:World->World->Prop}{D:World->World->Array Event->Prop}{F:Goroutine->Prop}{n:Nat}{g:Goroutine}{w:World}(hs:g.status=.running)(h:F g):Goes P m R D (fun g' _=>g'.status=.running/\F g') n g w:=Goes.stop fun _ _=>⟨hs,h⟩
end Go.Proofs.Ytpfpokjaeffbjaa
