/- (this round has no bytes) -/
import Derived.Test.YtlceolhfkioojaaProg
import Derived.Test.YtlceolhfkioojaaWords
