/- The evaluator ("VE"): the tables that the statement's row lays: the block of each, and its cells. -/
import Derived.WalkKit
namespace Go.Ve
/-- the cell of an interface's value -/
def ifaceCs (cs : Array Value) : Prop := ∃ ev, cs = #[ev] ∧ (ev = .nilIface ∨ ∃ te pe, ev = .iface te pe)
def tabs : List (Nat × (Array Value → Prop)) := []
/-- 1: no byte slice is ever looked at as a text (no block is marked behind its cells); 0: some are -/
def frx : Nat := 1
end Go.Ve
