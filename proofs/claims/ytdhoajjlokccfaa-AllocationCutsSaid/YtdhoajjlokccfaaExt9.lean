import Derived.Test.YtdhoajjlokccfaaExt8
namespace Go.Proofs.Ytdhoajjlokccfaa
open Go.RowKit Go.Sort
end Go.Proofs.Ytdhoajjlokccfaa
