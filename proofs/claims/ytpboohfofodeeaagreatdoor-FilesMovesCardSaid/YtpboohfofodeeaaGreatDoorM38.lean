/- files: an operation on items, plainly (conditions: none). -/
import Derived.Test.YtpboohfofodeeaaGreatDoorM36
import Derived.Test.YtpboohfofodeeaaGreatDoorM31
import Derived.Test.YtpboohfofodeeaaGreatDoorM13
import Derived.Test.YtpboohfofodeeaaGreatDoorM35
namespace Go.Proofs.YtpboohfofodeeaaGreatDoor
open Go.RowKit Go.Maps
/-- An operation on items: the answer, the items behind it. -/
def DoR (l : List (ByteArray × ByteArray)) (o : OpA) (p : AnsP) (l' : List (ByteArray × ByteArray)) : Prop:=
 ((¬ ∃ fs,takeL fs0 none l = some fs ∧ RightFS fs) ∧ p = ansP0 150 ∧ l' = []) ∨
 (∃ fs,takeL fs0 none l = some fs ∧ RightFS fs ∧ mayS o ≠ 0 ∧ p = ansP0 (mayS o) ∧ l' = []) ∨
 (∃ fs,takeL fs0 none l = some fs ∧ RightFS fs ∧ mayS o = 0 ∧ ∃ p1 fs',DoesR fs o p1 fs' ∧ Itm (l.length + 5001) fs' ∧ ((p1.code ≠ 0 ∧ p = ansP0 p1.code ∧ l' = []) ∨ (p1.code = 0 ∧ p = p1 ∧ ItemsOf fs' l')))
end Go.Proofs.YtpboohfofodeeaaGreatDoor
