/- Right letters: the document's function: the walk. -/
import Derived.Test.YtfjbmgfkfeehnaaDocRb
import Derived.Test.YtfjbmgfkfeehnaaDocRc
import Derived.Test.YtfjbmgfkfeehnaaDocRd
import Derived.Test.YtfjbmgfkfeehnaaDocRe
import Derived.Test.YtfjbmgfkfeehnaaDocRf
namespace Go.Proofs.Ytfjbmgfkfeehnaa
open Go.RowKit

theorem dright_any (l : LetL) (s : LS) (w : World) (h : LetA w l s) :
    Calls Try.prog 10 #[.agg (letC l s)] w (Ret w (.bool (rightB l))) := by
  cases hh : headR l with
  | false => exact dright_bad l s w h hh
  | true =>
    by_cases h1 : l.kind = 1
    · exact dright_k1 l s w h hh h1
    · by_cases h2 : l.kind = 2
      · exact dright_k2 l s w h hh h2
      · by_cases h3 : l.kind = 3
        · exact dright_k3 l s w h hh h3
        · by_cases h4 : l.kind = 4
          · exact dright_k4 l s w h hh h4
          · exact dright_k0 l s w h hh h1 h2 h3 h4

end Go.Proofs.Ytfjbmgfkfeehnaa
