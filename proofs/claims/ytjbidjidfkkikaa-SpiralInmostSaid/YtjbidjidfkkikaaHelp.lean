/- (this round has no bytes) -/
import Derived.Test.YtjbidjidfkkikaaProg
import Derived.Test.YtjbidjidfkkikaaWords
