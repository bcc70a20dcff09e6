/- JumpStraight's walk beside what opens the laws' arguments. -/
import Derived.Test.YtmabanabdoalaaaDoorJo
import Derived.Test.YtmabanabdoalaaaDoorJb
