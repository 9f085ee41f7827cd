/- The abstract walk, part 29: regions that draw their order, with the number of quiet operations given. -/
import Derived.Test.YtpphdaphbkepfaaAw28
set_option linter.unusedVariables false
set_option linter.unusedSimpArgs false
namespace Go.Proofs.Ytpphdaphbkepfaa.Aw
open Go Go.RowKit
theorem AWp.drawK {r : Option Nat} {P : Program} {ops : Array Oper} {id : Nat} {s : St} {Q : Exit → St → Prop} (d : Nat) {l1 l2 : List Nat} (hm : P.follows .mixedOrders = true) (hb : (drawB ops (ops.size - d) && ops.toList.all (fun o => notDefer o.op)) = true) (h1 : List.range (ops.size - d) = l1) (h2 : (List.range (ops.size - (ops.size - d))).map ((ops.size - d) + ·) = l2)
    (h : QS P ops l1 s fun T => AOL r P ops l2 T (Q .normal)) : AWp r P (.region id ops true) s Q := by
  subst h1 h2
  rw [Bool.and_eq_true] at hb
  exact AWp.drawR _ hm hb.1 hb.2 h
end Go.Proofs.Ytpphdaphbkepfaa.Aw
