/- The evaluator ("VE"): the tables that the statement's row lays: the block of each, and its cells. -/
import Derived.WalkKit
import Derived.Lib.ItoaNum
namespace Go.Ve
/-- the cell of an interface's value -/
def ifaceCs (cs : Array Value) : Prop := ∃ ev, cs = #[ev] ∧ (ev = .nilIface ∨ ∃ te pe, ev = .iface te pe)
def tabs : List (Nat × (Array Value → Prop)) := [(0, ifaceCs), (1, ifaceCs), (3, fun cs => cs = (Lib.pow10Tab.map fun z => Value.int .u64 z).toArray)]
end Go.Ve
