/- what was proved by hand -/
import Derived.Test.YtcnedmkfcbcjkaaRga
import Derived.Test.YtcnedmkfcbcjkaaHs
import Derived.Test.YtcnedmkfcbcjkaaHc
