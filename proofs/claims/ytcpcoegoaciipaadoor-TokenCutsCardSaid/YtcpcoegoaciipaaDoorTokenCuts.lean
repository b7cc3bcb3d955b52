/- ploverlaw06.TokenCuts answers true for every text (no longer than the form of the statement allows), where strconv.ErrSyntax and strconv.ErrRange read as the row lists them: the given tied card, no condition added. -/
import Derived.Test.YtcpcoegoaciipaaDoorCardCuts
namespace Go.Proofs.YtcpcoegoaciipaaDoor
theorem tokenCuts_holds : Rows.TokenCutsCardSaid := Tok.cuts_card
#print axioms tokenCuts_holds
end Go.Proofs.YtcpcoegoaciipaaDoor
