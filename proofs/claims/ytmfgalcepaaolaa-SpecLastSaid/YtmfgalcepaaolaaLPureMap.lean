/- Maps as rows of pairs whose keys rise: looking up, putting, taking out; a row is what its look-ups say. -/
namespace Go.Proofs.Ytmfgalcepaaolaa.PureMap
end Go.Proofs.Ytmfgalcepaaolaa.PureMap
