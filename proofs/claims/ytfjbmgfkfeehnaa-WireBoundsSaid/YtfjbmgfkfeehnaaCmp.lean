/- (Nothing here: a link in the chain of imports.) -/
import Derived.Test.YtfjbmgfkfeehnaaStG
namespace Go.Proofs.Ytfjbmgfkfeehnaa
end Go.Proofs.Ytfjbmgfkfeehnaa
