/- StateFalls: the walk, and the deeds. -/
import Derived.Test.YtfijbhacobjjgacStateFallsWalk
import Derived.Test.YtfijbhacobjjgacDeedsOpen
