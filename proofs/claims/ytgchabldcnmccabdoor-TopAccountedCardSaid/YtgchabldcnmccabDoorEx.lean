import Derived.Test.YtgchabldcnmccabDoorAbsH

namespace Go.Zz
end Go.Zz

