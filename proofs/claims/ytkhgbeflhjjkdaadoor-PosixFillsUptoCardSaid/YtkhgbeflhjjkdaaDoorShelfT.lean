/- The shelf's contracts that trim, at this program. -/
import Derived.Shelf.Strings.SlTrimAscii
import Derived.Test.YtkhgbeflhjjkdaaDoorShelf
