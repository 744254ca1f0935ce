/- The law NumGets' walk, of a list of asks as it was read. -/
import Derived.Test.YtaeoghbmncpnlaaDoorNumS
namespace Go.Proofs.YtaeoghbmncpnlaaDoor
open Go.RowKit

theorem NumGets_walk {H : Type} {enc : TypeId × Value → H} {d : DataW H} {p : List MemPlace} (s : List UInt8) (sa : Option Addr) (sl sc : Nat) (w : World) (h1 : s.length ≤ maxLen)
    (h2 : DataW.Trod enc Tryd.prog w 0 (fun _ => true) true 30 (.slice sa sl sc) d p) :
    Calls Tryd.prog 4 #[.string (bs s), .slice sa sl sc] w fun e w' => e = .returned (.bool true) ∧ Below w.heap.size w w' :=
  NumGets_walk_open s sa sl sc w h1 (asks_open h2)
end Go.Proofs.YtaeoghbmncpnlaaDoor
