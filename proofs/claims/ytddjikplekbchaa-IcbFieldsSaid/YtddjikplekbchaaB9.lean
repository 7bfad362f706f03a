import Derived.Test.YtddjikplekbchaaB7
namespace Go.Proofs.Ytddjikplekbchaa
open Go.RowKit Go.Sort
end Go.Proofs.Ytddjikplekbchaa
