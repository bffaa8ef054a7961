/- RdepParses is proved: for every text, on every system, what the program reads of it is what the document says.
   Conditions: those of the given statement alone; no other premise. -/
import Derived.Test.YtomaefbhcpmbiaaPd
namespace Go.Proofs.Ytomaefbhcpmbiaa.rdepParses
theorem proved : Rows.RdepParsesSaid := proved_of fun s _ => pure_law s
end Go.Proofs.Ytomaefbhcpmbiaa.rdepParses
