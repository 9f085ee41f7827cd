/- Cells out of the data, and the law TrailSets. -/
import Derived.Test.YtinehodamekjgaaCl1
import Derived.Test.YtinehodamekjgaaTr12
