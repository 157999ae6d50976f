/- The shelf's contracts. -/
import Derived.Shelf.Strings.SlTrimAscii
import Derived.Test.YtgdigbbfgpenpaaGreatDoorShelf
