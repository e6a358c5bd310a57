/- specieref12: products of powers, products of elements; product.Join. -/
import Derived.Test.YtmbbnjbohnobcaaDoorProdD
namespace Go.Proofs.YtmbbnjbohnobcaaDoor
open Go.RowKit Go.Sp
set_option maxHeartbeats 1000000
set_option maxRecDepth 20000

end Go.Proofs.YtmbbnjbohnobcaaDoor
