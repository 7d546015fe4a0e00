/- StateRuns: the walk, and the deeds. -/
import Derived.Test.YtfijbhacobjjgacRunsWalk
import Derived.Test.YtfijbhacobjjgacDeedsOpen
