/- Part of the proof: what all its texts use. -/
import Derived.Below
import Derived.Conc.Own
import Derived.Lib.Hide
import Derived.KernelRfl
namespace Go.Proofs.Ytpfpokjaeffbjaa
open Go.Conc Go.RowKit
theorem nle{n:Nat}:n<=n:=Nat.le_refl n
theorem kr.{u}{α:Sort u}{a b:α}(h:a=b:=by kernel_rfl):a=b:=h
theorem om{p:Prop}(h:p:=by omega):p:=h
theorem bre{B:Nat}{w:World}:Below B w w:=Below.refl B w
theorem stp{P:Program}{m:Bool}{R:World->World->Prop}{D:World->World->Array Event->Prop}{F:Goroutine->Prop}{n:Nat}{g:Goroutine}{w:World}(hs:g.status=.running)(h:F g):Goes P m R D (fun g' _=>g'.status=.running/\F g') n g w:=Goes.stop fun _ _=>⟨hs,h⟩
end Go.Proofs.Ytpfpokjaeffbjaa
