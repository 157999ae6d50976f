/- The shelf, and what it says of Trim. -/
import Derived.Shelf.Strings.SlTrimAscii
import Derived.Test.YtfbnlpoinieijaaGreatDoorShelf
