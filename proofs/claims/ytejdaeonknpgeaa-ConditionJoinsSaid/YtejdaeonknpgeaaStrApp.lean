/- Two texts, one behind the other, as lists. -/
import Derived.Test.YtejdaeonknpgeaaBase
namespace Go.Proofs.Ytejdaeonknpgeaa
open Go.RowKit
@[go_sem] theorem str_app (a b : List UInt8) : (ByteArray.mk a.toArray) ++ (ByteArray.mk b.toArray) = ByteArray.mk (a ++ b).toArray := by
  apply ByteArray.ext; simp
end Go.Proofs.Ytejdaeonknpgeaa
